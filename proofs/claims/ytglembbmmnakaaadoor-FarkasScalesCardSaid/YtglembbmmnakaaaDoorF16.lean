/- The elimination: what it computes; rows whose factors are blocks. No conditions beyond those in the theorems. -/
import Derived.Test.YtglembbmmnakaaaDoorF15
set_option linter.all false
set_option linter.deprecated false
set_option linter.unnecessarySimpa false
set_option linter.unusedVariables false
set_option linter.unusedSimpArgs false
set_option linter.defProp false
namespace Go.Proofs.Eng
open Go Go.Proofs
set_option maxRecDepth 100000
set_option maxHeartbeats 16000000
/-- The factors of one row. -/
def unitL (n i : Nat) : List Int := (List.replicate n 0).set i 1
def iniP (rows : List (List Int)) (n : Nat) : Nat → List Rw
  | 0 => []
  | k + 1 => iniP rows n k ++ [⟨rows.getD k [], unitL n k⟩]
/-- The rows at the beginning. -/
def iniL (rows : List (List Int)) : List Rw := iniP rows rows.length rows.length
inductive ERes where
  | err (e : Nat)
  | ref (F : List Int)
  | sts (s : List (List Rw))
/-- The elimination. -/
def elimR (n : Nat) : Nat → List Rw → List (List Rw) → ERes
  | 0, l, ss => match l.find? badR with | some r => .ref r.F | none => .sts ss
  | k + 1, l, ss => match l.find? badR with
    | some r => .ref r.F
    | none => match stageR (n - (k + 1)) l with
      | .error e => .err e
      | .ok l' => elimR n k l' (ss ++ [l'])
def elimA (rows : List (List Int)) : ERes := elimR ((rows.headD []).length - 1) ((rows.headD []).length - 1) (iniL rows) [iniL rows]
/-- A row whose factors are a block. -/
def IniR (n : Nat) (H : List AObj) (r : Rw) (a : AV) : Prop := ∃ t' i fz, a = .agg [.sl (ints r.A) t', .bs i 0 n 1 false] ∧ H[i]? = some (.cells fz (ints r.F)) ∧ r.F.length = n
/-- Rows, pure or with blocks. -/
def CurR (n : Nat) (H : List AObj) (l : List Rw) (a : AV) : Prop := ∃ al t, a = .sl al t ∧ ((LIs RwIs l al ∧ t.pure = true) ∨ LIs (IniR n H) l al)
theorem strip_pure (t : Tl) : t.strip.pure = true := by cases t <;> rfl
theorem pz_slints {k : Nat} {s : ASt} {l : List Int} {t : Tl} : ∃ t', t'.pure = true ∧ purify (k + 2) s (.sl (ints l) t) = some (.sl (ints l) t') :=
  ⟨_, strip_pure t, by rw [pz_sl, mapO_at (ints_pure l)]; rfl⟩
theorem pz_iniR {n k : Nat} {s : ASt} {r : Rw} {a : AV} (h : IniR n s.H r a) : ∃ a', atCells (purify (k + 3) s) a = some a' ∧ RwIs r a' := by
  obtain ⟨t', i, fz, rfl, h1, h2⟩ := h
  obtain ⟨t2, p1, p2⟩ := pz_slints (k := k + 1) (s := s) (l := r.A) (t := t')
  have p3 := pz_ints (n := k + 1) (s := s) (off := 0) (len := n) h1 (by omega)
  rw [List.drop_zero, List.take_of_length_le (by omega)] at p3
  exact ⟨.agg [.sl (ints r.A) t2, .sl (ints r.F) .none], by simp only [atCells, mapO]; rw [p2, p3]; rfl, _, _, rfl, p1, rfl⟩
theorem pz_inis {n k : Nat} {s : ASt} : ∀ {l : List Rw} {al : List AV}, LIs (IniR n s.H) l al → ∃ al', mapO (atCells (purify (k + 3) s)) al = some al' ∧ LIs RwIs l al'
  | [], [], _ => ⟨[], rfl, trivial⟩
  | _ :: _, [], h => by simp [LIs] at h
  | [], _ :: _, h => by simp [LIs] at h
  | x :: l, a :: al, h => by
    simp only [LIs] at h
    obtain ⟨a', h1, h2⟩ := pz_iniR (k := k) h.1
    obtain ⟨al', h3, h4⟩ := pz_inis (k := k) h.2
    exact ⟨a' :: al', by rw [mapO, h1, h3], h2, h4⟩
/-- Rows that are pure. -/
def RwsIs (l : List Rw) (a : AV) : Prop := ∃ al t, a = .sl al t ∧ t.pure = true ∧ LIs RwIs l al
theorem rwsIsPure {l : List Rw} {a : AV} (h : RwsIs l a) : pureAV a = true := by
  obtain ⟨al, t, rfl, h1, h2⟩ := h
  simp [pv_sl, h1, rwsPure h2]
theorem pz_cur {n k : Nat} {s : ASt} {l : List Rw} {a : AV} (h : CurR n s.H l a) : ∃ a', purify (k + 4) s a = some a' ∧ RwsIs l a' := by
  obtain ⟨al, t, rfl, ⟨h1, h2⟩ | h1⟩ := h
  · exact ⟨_, purify_pure (by simp [pv_sl, h2, rwsPure h1]), _, _, rfl, h2, h1⟩
  · obtain ⟨al', h3, h4⟩ := pz_inis (k := k) h1
    exact ⟨.sl al' t.strip, by rw [pz_sl, h3]; rfl, _, _, rfl, strip_pure t, h4⟩
theorem IniR.grow {n : Nat} {H : List AObj} {r : Rw} {a : AV} (h : IniR n H r a) (Z : List AObj) : IniR n (H ++ Z) r a := by
  obtain ⟨t', i, fz, h0, h1, h2⟩ := h
  exact ⟨t', i, fz, h0, app_get_of h1 _, h2⟩
theorem IniR.fz {n : Nat} {s s' : ASt} {r : Rw} {a : AV} (h : IniR n s.H r a) (hf : FzLe s s') : IniR n s'.H r a := by
  obtain ⟨t', i, fz, h0, h1, h2⟩ := h
  obtain ⟨f', e, _⟩ := hf.hcells i _ _ h1
  exact ⟨t', i, f', h0, e, h2⟩
theorem CurR.fz {n : Nat} {s s' : ASt} {l : List Rw} {a : AV} (h : CurR n s.H l a) (hf : FzLe s s') : CurR n s'.H l a := by
  obtain ⟨al, t, rfl, h | h⟩ := h
  · exact ⟨al, t, rfl, .inl h⟩
  · exact ⟨al, t, rfl, .inr (h.mono fun _ _ _ h => h.fz hf)⟩
/-- A list to which one may append, or one of its own. -/
def AppC (T : List Nat) (l : List AV) (t : Tl) : Prop := App T l t ∨ t = .cap l.length
theorem app_one' {T : List Nat} {es : Nat} {l : List AV} {t : Tl} {x : AV} (h : AppC T l t) (hl : l.length < capB) (ha : (l.all fun x => x.cells.length == es) = true) (hx : x.cells.length = es) (ho : x.cells.all oneCell = true) :
    ∃ t' T', (∀ H, appA ⟨H, T⟩ es none l t [x] = some (.sl (l ++ [x]) t', ⟨H, T'⟩)) ∧ App T' (l ++ [x]) t' := by
  rcases h with h | rfl
  · obtain ⟨t', T', h1, h2, _⟩ := app_one h hl ha hx ho
    exact ⟨t', T', h1, h2⟩
  · refine ⟨.tl T.length 0, T ++ [0], fun H => ?_, .inr ⟨by simp, _, _, rfl, by simp⟩⟩
    have hn : l.length + [x].length ≤ 1073741824 := by unfold capB at hl; simp; omega
    have hxs : ([x].all fun x => x.cells.length == es && x.cells.all oneCell) = true := by simp [hx, ho]
    simp only [appA]
    rw [if_pos ⟨hn, ha, hxs⟩, if_pos (by simp)]
theorem curs_all {n : Nat} {H : List AObj} : ∀ {ss : List (List Rw)} {sal : List AV}, LIs (CurR n H) ss sal → (sal.all fun x => x.cells.length == 1) = true
  | [], [], _ => rfl
  | _ :: _, [], h => by simp [LIs] at h
  | [], _ :: _, h => by simp [LIs] at h
  | x :: l, a :: al, h => by
    simp only [LIs] at h
    obtain ⟨⟨bl, t, rfl, _⟩, h2⟩ := h
    rw [List.all_cons, curs_all h2]; rfl
/-- The stages, pure. -/
def StsIs (ss : List (List Rw)) (a : AV) : Prop := ∃ sal t, a = .sl sal t ∧ t.pure = true ∧ LIs RwsIs ss sal
theorem pz_curs {n k : Nat} {s : ASt} : ∀ {ss : List (List Rw)} {sal : List AV}, LIs (CurR n s.H) ss sal → ∃ al', mapO (atCells (purify (k + 4) s)) sal = some al' ∧ LIs RwsIs ss al'
  | [], [], _ => ⟨[], rfl, trivial⟩
  | _ :: _, [], h => by simp [LIs] at h
  | [], _ :: _, h => by simp [LIs] at h
  | x :: l, a :: al, h => by
    simp only [LIs] at h
    obtain ⟨a', h1, h2⟩ := pz_cur (k := k) h.1
    obtain ⟨al', h3, h4⟩ := pz_curs (k := k) h.2
    obtain ⟨bl, t, rfl, _⟩ := h.1
    have e : atCells (purify (k + 4) s) (.sl bl t) = some a' := h1
    exact ⟨a' :: al', by rw [mapO, e, h3], h2, h4⟩
theorem pz_sts {n k : Nat} {s : ASt} {ss : List (List Rw)} {sal : List AV} {t : Tl} (h : LIs (CurR n s.H) ss sal) : ∃ a', purify (k + 6) s (.sl sal t) = some a' ∧ StsIs ss a' := by
  obtain ⟨al', h1, h2⟩ := pz_curs (k := k + 1) h
  exact ⟨.sl al' t.strip, by rw [pz_sl, h1]; rfl, _, _, rfl, strip_pure t, h2⟩
theorem stsPure {ss : List (List Rw)} {a : AV} (h : StsIs ss a) : pureAV a = true := by
  obtain ⟨sal, t, rfl, h1, h2⟩ := h
  simp [pv_sl, h1, h2.pure fun _ _ h => rwsIsPure h]
/-- What the elimination tells. -/
def ElimV (r : ERes) (v : AV) : Prop := match r with
  | .err _ => False
  | .ref F => ∃ s u, v = .tup [s, .sl (ints F) u, .bool true] ∧ pureAV s = true ∧ u.pure = true
  | .sts ss => ∃ s, v = .tup [s, .sl [] .nil, .bool false] ∧ StsIs ss s
theorem unit_len (n i : Nat) : (unitL n i).length = n := by simp [unitL]
theorem iniP_len (rows : List (List Int)) (n : Nat) : ∀ k, (iniP rows n k).length = k
  | 0 => rfl
  | k + 1 => by simp [iniP, iniP_len rows n k]
theorem iniP_E {rows : List (List Int)} {n w : Nat} (hR : RightS rows w) : ∀ k, k ≤ rows.length → ∀ r ∈ iniP rows n k, RowE w n r
  | 0, _, r, h => by simp [iniP] at h
  | k + 1, hk, r, h => by
    rcases List.mem_append.1 h with h | h
    · exact iniP_E hR k (by omega) r h
    · rw [List.mem_singleton.1 h]
      have hg : rows[k]? = some (rows.getD k []) := by rw [List.getD_eq_getElem?_getD, List.getElem?_eq_getElem (by omega)]; rfl
      have hm := List.mem_of_getElem? hg
      refine ⟨hR.len _ hm, unit_len _ _, fun n hn => ?_, fun n hn => ?_⟩
      · have := hR.bnd _ hm n hn; unfold limB; omega
      · simp only [unitL] at hn
        rcases List.mem_or_eq_of_mem_set hn with hn | rfl
        · rw [(List.mem_replicate.1 hn).2]; unfold limB; omega
        · unfold limB; omega
end Go.Proofs.Eng
