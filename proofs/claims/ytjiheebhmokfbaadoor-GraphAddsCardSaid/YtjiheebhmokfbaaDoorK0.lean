/- What the rows' list of laid variables gives. No conditions beyond those in the theorems. -/
import Derived.Test.YtjiheebhmokfbaaDoorB4
import Derived.Test.YtjiheebhmokfbaaDoorPf50
import Derived.KernelRfl
import Derived.Test.YtjiheebhmokfbaaDoorT3
import Derived.Test.YtjiheebhmokfbaaDoorWX
import Derived.Test.YtjiheebhmokfbaaDoorC3
import Derived.Test.YtjiheebhmokfbaaDoorG5
import Derived.Test.YtjiheebhmokfbaaDoorG4
import Derived.Test.YtjiheebhmokfbaaDoorRows
import Derived.Lib.LaidTab
import Derived.Lay
import Derived.MakeChecks
import Derived.ProofKit
set_option linter.all false
set_option linter.deprecated false
set_option linter.unnecessarySimpa false
set_option linter.unusedVariables false
set_option linter.unusedSimpArgs false
set_option linter.defProp false
namespace Go.Proofs.Eng
open Go Go.Proofs
set_option maxRecDepth 100000
set_option maxHeartbeats 16000000
theorem idx_first {T : List Tm} {e : Tm} {j : Nat} (h : T[j]? = some e) (hn : ∀ x ∈ T.take j, x ≠ e) : e ∈ T ∧ T.idxOf e = j := by
  induction T generalizing j with
  | nil => simp at h
  | cons y T ih =>
    cases j with
    | zero => simp at h; subst h; simp
    | succ j =>
      have h1 : y ≠ e := hn y (by simp)
      obtain ⟨a, b⟩ := ih (by simpa using h) fun x hx => hn x (by simp [hx])
      exact ⟨List.mem_cons_of_mem _ a, by rw [List.idxOf_cons, beq_false_of_ne h1, b]; rfl⟩
theorem GRes.pure {N : List Nd} {id e : Int} {v : AV} (h : GRes N id e v) : pureAV v = true := by
  obtain ⟨ga, rfl, h1⟩ := h
  simp [pv_tup, pvs_cons, pvs_nil, gPure h1, pv_v]
def AddR (T : List Tm) (t : Tm) (v : AV) : Prop := if t.allR = true then GRes (nodesOf (t.enter T)) ((t.enter T).idxOf t : Nat) 0 v else GRes [] 0 3 v
theorem allRL_one (t : Tm) : allRL [t] = t.allR := by rw [allRL, allRL, Bool.and_true]
theorem add_ret {T : List Tm} (hG : GT T) {g a : AV} (hg : GIs (nodesOf T) g) {t : Tm} (ha : t.Is a) (hs : t.slim) (h60 : t.sz ≤ 60) (hT : T.length ≤ 60) : Out md pfs 16 [g, a] (AddR T t) fun _ => False := by
  have hpt := tmPure _ ha
  have hfew : FewP [t] := ⟨by simp, by rw [tszL, tszL]; omega, fun x hx => by rw [List.mem_singleton.1 hx]; exact hs⟩
  obtain ⟨z1, z2, z3⟩ := few_sizes hfew
  obtain ⟨_, rfl, c41⟩ := (PutTerms_ret (t := .cap 1) (.one ha) rfl (by simp) z1 (fun h => by have := z2 h; unfold entB; omega) (fun _ => by unfold entB; omega)).call rfl (by simp [pvs_cons, pvs_nil, pv_sl, hpt, Tl.pure])
  obtain ⟨c, rfl, l1, l2, l3⟩ := tmCells ha
  obtain ⟨al, tg, rfl, hg2⟩ := hg
  have hg : GIs (nodesOf T) (.agg [.sl al tg]) := ⟨al, tg, rfl, hg2⟩
  refine out_of pf16_is (Nat.le_of_ble_eq_true rfl) ?_
  cases hr : t.allR
  · have e1 : (putR [t]).2 = 3 := by rw [putR, allRL_one, hr]; rfl
    have n3 : ((3 : Int) != 0) = true := rfl
    simp only [pf16, ↓wpre, wall, simprocAttr, l1, l2, c41, e1, n3]
    unfold AddR
    rw [if_neg (by rw [hr]; simp)]
    exact ⟨_, rfl, [], .nil, rfl, rfl, Nat.zero_le _, trivial⟩
  · have e1 : (putR [t]).2 = 0 := by rw [putR, allRL_one, hr]; rfl
    have n0 : ((0 : Int) != 0) = false := rfl
    have hrs := allR_subs t hr
    obtain ⟨hG', _, _⟩ := enter_pre (t := t) hG hrs
    have hle := enter_len t T
    obtain ⟨_, _, ⟨bi, mi, H1, V1, rfl, rfl, hB, l4, l5, _, hk, _⟩, c42⟩ := (begin_rw hG (by omega) hg (H := [.cells false [.sl al tg], .cells false c, .cells false [.sl [] .nil]]) (V := [])).call rfl
    have k1 : H1[1]? = some (.cells false c) := by rw [hk 1 (by simp)]; rfl
    obtain ⟨_, _, ⟨rfl, H2, V2, rfl, hB2, hS2⟩, c44⟩ := (term_sh t hB hG ha hrs (by omega)).callRet rfl
    simp only [List.length_cons, List.length_nil] at l4 l5
    have k2 := hS2.get (k := 2) (o := .cells false [.sl [] .nil]) (by rw [hk 2 (by simp)]; rfl) (by omega) (by omega)
    obtain ⟨v3, _, ⟨hv3, H3, V3, rfl, hk3⟩, c43⟩ := (result_sh hB2 (by omega) ((t.enter T).idxOf t : Nat)).callRet rfl
    rw [if_neg (by simp)] at hv3
    obtain ⟨ga, rfl, hga⟩ := hv3
    have k3 := hk3.2 2 _ k2 fun fz ks h => by
      simp only [AObj.cells.injEq] at h
      have := h.2
      cases ks with
      | nil => simp [ints] at this
      | cons x l => simp [ints] at this
    have hpg := gPure hga
    obtain ⟨al3, t3, rfl, hga'⟩ := hga
    have hs3 : ∀ Y, (H3.set 2 Y)[2]? = some Y := fun Y => by rw [List.getElem?_set, if_pos rfl, if_pos (lt_of_get k3)]
    have hpsl : pureAV (.sl al3 t3) = true := by simpa [pv_agg, pvs_cons, pvs_nil] using hpg
    have hpp : ∀ (s : ASt), purify 1019 s (.agg [.sl al3 t3]) = some (.agg [.sl al3 t3]) := fun s => purify_pure hpg
    simp only [pf16, ↓wpre, wall, simprocAttr, l1, l2, c41, e1, n0, c42, k1, c44, c43, k3, hs3, hpp]
    unfold AddR
    rw [if_pos hr]
    exact ⟨_, rfl, al3, t3, rfl, hga'⟩
theorem rfind_ret {T : List Tm} (hG : GT T) (hl : T.length ≤ 1000000) {g a : AV} (hg : GIs (nodesOf T) g) {t : Tm} (hk : ∀ x ∈ t.kids, x ∈ T) (ha : (ndOf T t).Is a) : Out md pfs 88 [g, a] (· = .int (if t ∈ T then (T.idxOf t : Nat) else -1)) fun _ => False := by
  have hpa := ndPure ha
  obtain ⟨al, tg, rfl, h1, h2, h3⟩ := hg
  have hln := h3.len
  rw [nodes_len] at hln
  have hall := h3.all ndAgg
  obtain ⟨ca, hca, n1, n2⟩ := ndAgg.cells ha
  subst hca
  have n3 : ca.take 5 = ca := List.take_of_length_le (by omega)
  refine out_of pf88_is (Nat.le_of_ble_eq_true rfl) ?_
  simp only [pf88, ↓wpre, wall, simprocAttr]
  refine W_loopE (fun j => al.length - j) (fun j E H V => H = [.cells false [.sl al tg], .cells false ca] ∧ E 2 = .ptr 0 0 ∧ E 3 = .ptr 1 0 ∧ E 5 = .int (j : Nat) ∧ j ≤ al.length ∧ t ∉ T.take j) ?_ 0 ⟨rfl, rfl, rfl, rfl, Nat.zero_le _, by simp⟩
  rintro j E H V ⟨rfl, e2, e3, e5, hj, hno⟩
  rcases Nat.lt_or_ge j al.length with hlt | hge
  · have hdec : decide ((j : Int) < al.length) = true := by simpa using hlt
    obtain ⟨n, c, d0, d1, d3, d4, d5, d6, d7, d8⟩ := h3.get ndAgg hlt
    obtain ⟨x, hx⟩ : ∃ x, T[j]? = some x := ⟨T[j]'(by omega), List.getElem?_eq_getElem _⟩
    have hnx : n = ndOf T x := by
      rw [nodesOf, List.getElem?_map, hx] at d0
      exact (Option.some.inj d0).symm
    subst hnx
    have hxT := List.mem_of_getElem? hx
    obtain ⟨_, rfl, c39⟩ := (rsame_ret d8 ha).call rfl (by simp [pvs_cons, pvs_nil, ndPure d8, hpa])
    by_cases e : x = t
    · subst e
      have hi : T.idxOf x = j := (idx_first hx fun y hy e => hno (by rw [← e]; exact hy)).2
      rw [decide_eq_true rfl] at c39
      simp only [↓wpre, wall, simprocAttr, e2, e3, e5, hdec, d4, d5, d6, hall, n1, n3, c39]
      rw [if_pos hxT, hi]
    · have hne : ¬ ndOf T x = ndOf T t := fun q => e (ndOf_inj (hG.good.all x hxT).2 hk q)
      rw [decide_eq_false hne] at c39
      simp only [↓wpre, wall, simprocAttr, e2, e3, e5, hdec, d4, d5, d6, hall, n1, n3, c39]
      exact EQ_in ⟨j + 1, by omega, rfl, e2, e3, next_ixv (by unfold lenB; omega), by omega, by
        rw [List.take_add_one, hx]
        simp [hno, Ne.symm e]⟩
  · have hdec : decide ((j : Int) < al.length) = false := by simpa using hge
    rw [List.take_of_length_le (by omega)] at hno
    simp only [↓wpre, wall, simprocAttr, e2, e3, e5, hdec]
    rw [if_neg hno]
theorem enterL_split : ∀ (l m : List Tm) (T : List Tm), enterL T (l ++ m) = enterL (enterL T l) m
  | [], m, T => by rw [List.nil_append]; conv => rhs; rw [show enterL T [] = T from by rw [enterL]]
  | x :: l, m, T => by rw [List.cons_append, enterL, enterL_split l m, enterL]
theorem enterL_at {T : List Tm} (hG : GT T) {kids : List Tm} (hr : ∀ x ∈ subsL kids, x.right = true) (j : Nat) : GT (enterL T (kids.take j)) ∧ (∃ m, enterL T kids = enterL T (kids.take j) ++ m) ∧ ∀ x ∈ kids.take j, x ∈ enterL T (kids.take j) := by
  have h1 : ∀ x ∈ subsL (kids.take j), x.right = true := fun x hx => by
    obtain ⟨y, hy, hxy⟩ := mem_subsL.1 hx
    exact hr x (mem_subsL.2 ⟨y, List.mem_of_mem_take hy, hxy⟩)
  obtain ⟨a1, _, a3⟩ := enter_preL (l := kids.take j) hG h1
  refine ⟨a1, ?_, fun x hx => (a3 x).2 (.inr (mem_subsL.2 ⟨x, hx, subs_self x⟩))⟩
  have h2 : ∀ x ∈ subsL (kids.drop j), x.right = true := fun x hx => by
    obtain ⟨y, hy, hxy⟩ := mem_subsL.1 hx
    exact hr x (mem_subsL.2 ⟨y, List.mem_of_mem_drop hy, hxy⟩)
  obtain ⟨_, b2, _⟩ := enter_preL (l := kids.drop j) a1 h2
  rw [← enterL_split, List.take_append_drop] at b2
  exact b2
theorem idx_step {T : List Tm} (hG : GT T) {kids : List Tm} (hr : ∀ x ∈ subsL kids, x.right = true) {j : Nat} {x : Tm} (d0 : kids[j]? = some x) :
    ints ((kids.take j).map fun x => (((enterL T (kids.take j)).idxOf x : Nat) : Int)) ++ [AV.int ((enterL T (kids.take (j + 1))).idxOf x : Nat)] = ints ((kids.take (j + 1)).map fun x => (((enterL T (kids.take (j + 1))).idxOf x : Nat) : Int)) := by
  obtain ⟨hGj, _, hkj⟩ := enterL_at hG hr j
  have hrx : ∀ y ∈ x.subs, y.right = true := fun y hy => hr y (mem_subsL.2 ⟨x, List.mem_of_getElem? d0, hy⟩)
  obtain ⟨_, ⟨m2, hm2⟩, _⟩ := enter_pre (t := x) hGj hrx
  rw [← enterL_take d0] at hm2
  have e1 : kids.take (j + 1) = kids.take j ++ [x] := by rw [List.take_add_one, d0]; rfl
  have e2 : ((kids.take j).map fun x => (((enterL T (kids.take (j + 1))).idxOf x : Nat) : Int)) = (kids.take j).map fun x => (((enterL T (kids.take j)).idxOf x : Nat) : Int) := by rw [hm2]; exact idx_map_pre hkj
  rw [← e2]
  conv => rhs; rw [show (kids.take (j + 1)).map (fun x => (((enterL T (kids.take (j + 1))).idxOf x : Nat) : Int)) = (kids.take j ++ [x]).map (fun x => (((enterL T (kids.take (j + 1))).idxOf x : Nat) : Int)) from by rw [← e1]]
  simp [ints]
theorem eqI (k : IntKind) (x : Int) : eqAV (.v (.int k x)) (.v (.int k x)) = true := by rw [eqAV]; simp [eqV]
theorem eqS (x : ByteArray) : eqAV (.v (.string x)) (.v (.string x)) = true := by rw [eqAV]; simp [eqV, str_beq]
theorem eqL {α : Type} {R : α → AV → Prop} (h : ∀ x a, R x a → eqAV a a = true) : ∀ {l : List α} {al : List AV}, LIs R l al → eqAVs al al = true
  | [], [], _ => by rw [eqAVs]
  | x :: l, a :: al, hl => by
    simp only [LIs] at hl
    rw [eqAVs, h _ _ hl.1, eqL h hl.2]; rfl
  | [], _ :: _, h => by simp [LIs] at h
  | _ :: _, [], h => by simp [LIs] at h
theorem eqT (t : Tl) (l : List AV) (h : eqAVs l l = true) : eqAV (.sl l t) (.sl l t) = true := by rw [eqAV, h]; simp
theorem eqVar {v : Int × Int} {a : AV} (h : varIs v a) : eqAV a a = true := by
  obtain ⟨rfl, _⟩ := h
  rw [eqAV, eqAVs, eqAVs, eqAVs, eqI, eqI]; rfl
theorem eqLv {v : Lv} {a : AV} (h : v.Is a) : eqAV a a = true := by
  obtain ⟨t, al, rfl, _, _, _, h4⟩ := h
  rw [eqAV, eqAVs, eqAVs, eqAVs, eqI, eqT _ _ (eqL (fun _ _ h => eqVar h) h4)]; rfl
theorem eqNd {n : Nd} {a : AV} (h : n.Is a) : eqAV a a = true := by
  obtain ⟨t1, t2, las, rfl, _, _, _, _, _, _, _, h8, _⟩ := h
  rw [eqAV, eqAVs, eqAVs, eqAVs, eqAVs, eqAVs, eqAVs, eqI, eqI, eqS, eqT _ _ (eqL (fun _ _ h => eqLv h) h8), eqA_ints]; rfl
def GEnt (T : List Tm) (t : Tm) (v : AV) : Prop := ∃ g', v = .tup [g', .int (T.idxOf t : Nat)] ∧ GIs (nodesOf T) g'
theorem renter_ret (t : Tm) : ∀ {T : List Tm} {g a : AV}, GT T → GIs (nodesOf T) g → t.Is a → (∀ x ∈ t.subs, x.right = true) → T.length + t.sz ≤ 1000000 → Out md pfs 74 [g, a] (GEnt (t.enter T) t) fun _ => False := by
  induction t using Tm.ind with
  | h k i nm ls kids ih =>
  intro T g a hG hg hI hr hl
  have hls := enter_len (.mk k i nm ls kids) T
  rw [enter_eq hG.good] at hls ⊢
  obtain ⟨al, tg, rfl, hg1, hg2, hg3⟩ := hg
  obtain ⟨t1, t2, las, kas, rfl, g1, g2, g3, g4, g5, g6, g7, g8, g9⟩ := hI.opn
  have hkl := g9.len
  have hall := g9.all tmAgg
  have hrk : ∀ x ∈ subsL kids, x.right = true := fun x hx => hr x (by rw [Tm.subs]; simp [hx])
  have hr0 : (Tm.mk k i nm ls kids).right = true := hr _ (subs_self _)
  have hsz : (Tm.mk k i nm ls kids).sz = 1 + tszL kids := by rw [Tm.sz]
  have hk3 : kids.length ≤ 3 := by
    have h1 := (right_facts hr0).1.kids
    simp only [Tm.k, Tm.kids] at h1
    have : kidsN k ≤ 3 := by unfold kidsN; repeat' split
                             all_goals omega
    omega
  have hpl : pureAV (.sl las t1) = true := by rw [pv_sl, g1, lvsPure g8]; rfl
  refine out_of pf74_is (Nat.le_of_ble_eq_true rfl) ?_
  simp only [pf74]
  refine seqE (fun E H V => H = [.cells false [.sl al tg], .cells false [.int k, .int i, .str nm, .sl las t1, .sl kas t2], .cells false [.sl [] .nil]] ∧ E 2 = .ptr 0 0 ∧ E 3 = .ptr 1 0 ∧ E 4 = .ptr 2 0) ?_ ?_
  · simp only [↓wpre, wall, simprocAttr]; exact EQ_in ⟨rfl, rfl, rfl, rfl⟩
  rintro E _ V ⟨rfl, e2, e3, e4⟩
  refine seqE (fun E H V => H = [.cells false [.sl al tg], .cells false [.int k, .int i, .str nm, .sl las t1, .sl kas t2], .cells false [.sl [] .nil], .cells false [.int k, .int i, .str nm, .sl las t1, .sl [] .nil]] ∧ E 2 = .ptr 0 0 ∧ E 3 = .ptr 1 0 ∧ E 4 = .ptr 2 0 ∧ E 6 = .ptr 3 0) ?_ ?_
  · simp only [↓wpre, wall, simprocAttr, e2, e3, e4]; exact EQ_in ⟨rfl, e2, e3, e4, rfl⟩
  clear e2 e3 e4 E V
  rintro E _ V ⟨rfl, e2, e3, e4, e6⟩
  refine seqE (fun E H V => ∃ gl gt tk, H[0]? = some (.cells false [.sl gl gt]) ∧ H[2]? = some (.cells false [.sl [] .nil]) ∧ H[3]? = some (.cells false [.int k, .int i, .str nm, .sl las t1, .sl (ints (kids.map fun x => (((enterL T kids).idxOf x : Nat) : Int))) tk]) ∧ E 2 = .ptr 0 0 ∧ E 4 = .ptr 2 0 ∧ E 6 = .ptr 3 0 ∧ GIs (nodesOf (enterL T kids)) (.agg [.sl gl gt])) ?_ ?_
  · refine seqE (fun E H V => H = [.cells false [.sl al tg], .cells false [.int k, .int i, .str nm, .sl las t1, .sl kas t2], .cells false [.sl [] .nil], .cells false [.int k, .int i, .str nm, .sl las t1, .sl [] .nil]] ∧ E 2 = .ptr 0 0 ∧ E 3 = .ptr 1 0 ∧ E 4 = .ptr 2 0 ∧ E 6 = .ptr 3 0 ∧ E 7 = .int (0 : Nat)) ?_ ?_
    · simp only [↓wpre, wall, simprocAttr]; exact EQ_in ⟨rfl, e2, e3, e4, e6, rfl⟩
    clear e2 e3 e4 e6 E V
    rintro E _ V ⟨rfl, e2, e3, e4, e6, e7⟩
    rw [W_block]
    refine W_loopE (fun j => kas.length - j) (fun j E H V => ∃ gl gt tk, H = [.cells false [.sl gl gt], .cells false [.int k, .int i, .str nm, .sl las t1, .sl kas t2], .cells false [.sl [] .nil], .cells false [.int k, .int i, .str nm, .sl las t1, .sl (ints ((kids.take j).map fun x => (((enterL T (kids.take j)).idxOf x : Nat) : Int))) tk]] ∧ E 2 = .ptr 0 0 ∧ E 3 = .ptr 1 0 ∧ E 4 = .ptr 2 0 ∧ E 6 = .ptr 3 0 ∧ E 7 = .int (j : Nat) ∧ j ≤ kas.length ∧ GIs (nodesOf (enterL T (kids.take j))) (.agg [.sl gl gt]) ∧ App V (ints ((kids.take j).map fun x => (((enterL T (kids.take j)).idxOf x : Nat) : Int))) tk) ?_ 0 ⟨al, tg, .nil, by rw [List.take_zero]; rfl, e2, e3, e4, e6, e7, Nat.zero_le _, by rw [List.take_zero, enterL]; exact ⟨al, tg, rfl, hg1, hg2, hg3⟩, by rw [List.take_zero]; exact app_start _⟩
    clear e2 e3 e4 e6 e7 E V
    rintro j E _ V ⟨gl, gt, tk, rfl, e2, e3, e4, e6, e7, hj, hgj, hA⟩
    obtain ⟨hGj, ⟨mj, hmj⟩, hkj⟩ := enterL_at hG hrk j
    rcases Nat.lt_or_ge j kas.length with hlt | hge
    · have hdec : decide ((j : Int) < kas.length) = true := by simpa using hlt
      obtain ⟨x, c, d0, d1, d3, d4, d5, d6, d7, d8⟩ := g9.get tmAgg hlt
      have hrx : ∀ y ∈ x.subs, y.right = true := fun y hy => hrk y (mem_subsL.2 ⟨x, d3, hy⟩)
      have hen : enterL T (kids.take (j + 1)) = Tm.enter (enterL T (kids.take j)) x := enterL_take d0
      obtain ⟨s1, s2⟩ := tsz_split d0
      have hlj := enterL_len (kids.take j) T
      obtain ⟨_, ⟨g', rfl, hg'⟩, c74⟩ := (ih x d3 hGj hgj d8 hrx (by omega)).call rfl (by simp [pvs_cons, pvs_nil, gPure hgj, tmPure _ d8])
      rw [← hen] at hg' c74
      have hpg' := gPure hg'
      obtain ⟨gl', gt', rfl, hg''⟩ := hg'
      obtain ⟨tk', V3, f1, f2, f3⟩ := app_many (es := 1) (xs := [.int ((enterL T (kids.take (j + 1))).idxOf x : Nat)]) hA (by rw [ints_len, List.length_map, List.length_take]; show min j kids.length + 1 ≤ 1073741824; omega) (ints_all _) rfl
      rw [idx_step hG hrk d0] at f1 f2
      simp only [↓wpre, wall, simprocAttr, e2, e3, e4, e6, e7, hdec, d4, d5, d6, d7, hall, c74, srcA_sl, f1]
      exact EQ_in ⟨j + 1, by omega, gl', gt', tk', rfl, e2, e3, e4, e6, next_ixv (by unfold lenB; omega), by omega, ⟨gl', gt', rfl, hg''⟩, f2⟩
    · have hdec : decide ((j : Int) < kas.length) = false := by simpa using hge
      rw [List.take_of_length_le (by omega)] at hgj
      have e : kids.take j = kids := List.take_of_length_le (by omega)
      simp only [↓wpre, wall, simprocAttr, e3, e7, hdec]
      rw [e]
      exact EQ_in ⟨gl, gt, tk, rfl, rfl, rfl, e2, e4, e6, hgj⟩
  clear e2 e3 e4 e6 E V
  rintro E HH V ⟨gl, gt, tk, h0, h2, h3, e2, e4, e6, hgk⟩
  obtain ⟨hGk, _, hkk⟩ := enterL_at hG hrk kids.length
  rw [List.take_length] at hGk hkk
  have hlk := enterL_len kids T
  have hni : ∀ x ∈ (kids.map fun x => (((enterL T kids).idxOf x : Nat) : Int)), in64 x := fun x hx => by
    obtain ⟨y, hy, rfl⟩ := List.mem_map.1 hx
    have := List.idxOf_lt_length_of_mem (hkk y hy)
    unfold in64; omega
  have hpgk := gPure hgk
  have hnn : ndOf (enterL T kids) (.mk k i nm ls kids) = ⟨k, i, nm, ls, kids.map fun x => (((enterL T kids).idxOf x : Nat) : Int)⟩ := rfl
  generalize hks : (kids.map fun x => (((enterL T kids).idxOf x : Nat) : Int)) = ks at *
  have hkl2 : ks.length = kids.length := by rw [← hks, List.length_map]
  obtain ⟨tv, k1, k2⟩ := nd_pure (H := HH) (V := V) (n := ⟨k, i, nm, ls, ks⟩) (kv := .sl (ints ks) tk) g1 g8 (.inl ⟨tk, rfl⟩)
  have k3 := nd_frz (H := HH) (V := V) (n := ⟨k, i, nm, ls, ks⟩) (kv := .sl (ints ks) tk) g1 g8 (.inl ⟨tk, rfl⟩)
  simp only [frzK] at k3
  simp only at k2 k3
  have hNd : (ndOf (enterL T kids) (.mk k i nm ls kids)).Is (.agg [.int k, .int i, .str nm, .sl las t1, .sl (ints ks) tv]) := by
    rw [hnn]
    exact ⟨t1, tv, las, rfl, g1, k1, g3, g4, g5, g6, by simp only; omega, g8, hni⟩
  obtain ⟨_, rfl, c88⟩ := (rfind_ret hGk (by omega) hgk (t := .mk k i nm ls kids) hkk hNd).callP rfl (s := ⟨HH, V⟩) (args := [.agg [.sl gl gt], .agg [.int k, .int i, .str nm, .sl las t1, .sl (ints ks) tk]]) (by simp only [mapO, purify20 hpgk, k2])
  simp only [List.foldl_cons, List.foldl_nil, fr_pure hpgk, k3] at c88
  by_cases hin : Tm.mk k i nm ls kids ∈ enterL T kids
  · have ea : addT (enterL T kids) (.mk k i nm ls kids) = enterL T kids := if_pos hin
    rw [if_pos hin] at c88
    have dge : decide (((enterL T kids).idxOf (Tm.mk k i nm ls kids) : Nat) ≥ (0 : Int)) = true := by simp only [decide_eq_true_eq]; omega
    have hs2 : ∀ Y, (HH.set 2 Y)[2]? = some Y := fun Y => by rw [List.getElem?_set, if_pos rfl, if_pos (lt_of_get h2)]
    have hpp : ∀ (s : ASt), purify 1019 s (.agg [.sl gl gt]) = some (.agg [.sl gl gt]) := fun s => purify_pure hpgk
    simp only [↓wpre, wall, simprocAttr, e2, e4, e6, h0, h2, h3, c88, dge, hs2, hpp]
    rw [ea]
    exact ⟨_, rfl, hgk⟩
  have ea : addT (enterL T kids) (.mk k i nm ls kids) = enterL T kids ++ [.mk k i nm ls kids] := if_neg hin
  rw [if_neg hin] at c88
  have dge : decide ((-1 : Int) ≥ (0 : Int)) = false := rfl
  have hgk' := hgk
  obtain ⟨gl2, gt2, eg, q1, q2, q3⟩ := hgk
  simp only [AV.agg.injEq, List.cons.injEq, AV.sl.injEq, and_true] at eg
  obtain ⟨rfl, rfl⟩ := eg
  have hgln := q3.len
  rw [nodes_len] at hgln
  obtain ⟨ta, V1, f1, f2, f3⟩ := app_many (T := V) (es := 5) (l := []) (t := .nil) (xs := gl) (app_start _) (by show 0 + gl.length ≤ 1073741824; omega) rfl (q3.all2 ndAgg)
  rw [List.nil_append] at f1 f2
  obtain ⟨tb, V2, p1, p2, p3⟩ := app_many (es := 5) (xs := [.agg [.int k, .int i, .str nm, .sl las t1, .sl (ints ks) tk]]) f2 (by show gl.length + 1 ≤ 1073741824; omega) (q3.all ndAgg) rfl
  have hs2 : ∀ Y, (HH.set 2 Y)[2]? = some Y := fun Y => by rw [List.getElem?_set, if_pos rfl, if_pos (lt_of_get h2)]
  have hs0 : ∀ Y, (HH.set 2 Y)[0]? = some (.cells false [.sl gl gt]) := fun Y => by rw [List.getElem?_set, if_neg (by decide)]; exact h0
  have hq : eqAV (.sl gl gt) (.sl gl gt) = true := eqT _ _ (eqL (fun _ _ h => eqNd h) q3)
  obtain ⟨al', r1, r2⟩ := nds_pure 1014 (V := V2) (H := HH.set 2 (.cells false [.sl (gl ++ [.agg [.int k, .int i, .str nm, .sl las t1, .sl (ints ks) tk]]) tb])) (N := nodesOf (enterL T kids) ++ [⟨k, i, nm, ls, ks⟩]) ((q3.mono2 fun x a hx => NdH.of hx _).append (.one ⟨t1, las, _, rfl, g1, g3, g4, g5, g6, by simp only; omega, g8, hni, .inl ⟨tk, rfl⟩⟩))
  have hpp : purify 1019 ⟨HH.set 2 (.cells false [.sl (gl ++ [.agg [.int k, .int i, .str nm, .sl las t1, .sl (ints ks) tk]]) tb]), V2⟩ (.agg [.sl (gl ++ [.agg [.int k, .int i, .str nm, .sl las t1, .sl (ints ks) tk]]) tb]) = some (.agg [.sl al' (tb.stripR 1017 ⟨HH.set 2 (.cells false [.sl (gl ++ [.agg [.int k, .int i, .str nm, .sl las t1, .sl (ints ks) tk]]) tb]), V2⟩)]) := by
    rw [pz_agg]; simp only [mapO, pz_sl, r2, Option.map_some]
  have hst : ∀ s, (tb.stripR 1017 s).pure = true := fun s => by
    cases tb <;> simp only [Tl.stripR] <;> (try split) <;> rfl
  simp only [↓wpre, wall, simprocAttr, e2, e4, e6, h0, h2, h3, c88, dge, srcA_sl, f1, p1, List.getLast?_cons_cons, List.getLast?_singleton, List.dropLast_cons_cons, List.dropLast_singleton, M1_t, M1_f, M3_some, JW_f, JW_t, hs2, hs0, hq, hpp]
  rw [ea]
  refine ⟨_, by rw [idx_new hin, hgln], al', _, rfl, hst _, ?_, by rw [nodes_add (t := .mk k i nm ls kids) hGk.good hkk, hnn]; exact r1⟩
  have := r1.len
  rw [this, List.length_append, nodes_len]; unfold lenB
  show (enterL T kids).length + 1 ≤ _
  omega
def isTrueA : Option (Outc × ASt) → Bool
  | some (.ret (.v (.bool true)), _) => true
  | _ => false
theorem awake_try : isTrueA (callN md pfs 100 11 [] ⟨[], []⟩) = true := by kernel_rfl
theorem true_ret {f : Nat} (h : isTrueA (callN md pfs 100 f [] ⟨[], []⟩) = true) : Out md pfs f [] (· = .bool true) fun _ => False := by
  cases hc : callN md pfs 100 f [] ⟨[], []⟩ with
  | none => rw [hc] at h; cases h
  | some x =>
    obtain ⟨out, s⟩ := x
    rw [hc] at h
    have ho : out = .ret (.v (.bool true)) := by
      cases out with
      | pan v => cases h
      | ret v => cases v with
        | v x => cases x with
          | bool b => cases b with
            | true => rfl
            | false => cases h
          | _ => cases h
        | _ => cases h
    subst ho
    exact ⟨_, s, .ret (.bool true), run_of hc, by simp only [Outc.purify, purify_pure pv_v, Option.map_some], rfl⟩
theorem awake_ret : Out md pfs 11 [] (· = .bool true) fun _ => False := true_ret awake_try
structure Nd.Few (n : Nd) : Prop where
  nm : n.n.size ≤ 100
  ls : n.ls.length ≤ 10
  kids : n.kids.length ≤ 5
  vs : ∀ l ∈ n.ls, l.vs.length ≤ 10
structure FewG (N : List Nd) : Prop where
  len : N.length ≤ 60
  all : ∀ n ∈ N, n.Few
theorem few_ret {N : List Nd} {a : AV} (h : GIs N a) : Out md pfs 10 [a] (fun v => ∃ b, v = .bool b ∧ (b = true → FewG N)) fun _ => False := by
  obtain ⟨al, t, rfl, ht, hl, hL⟩ := h
  have hln := hL.len
  have hall := hL.all ndAgg
  refine out_of pf10_is (Nat.le_of_ble_eq_true rfl) ?_
  simp only [pf10, ↓wpre, wall, simprocAttr]
  refine W_loopE (fun j => al.length - j) (fun j E H T => (∃ G, H = .cells false [.sl al t] :: G) ∧ E 1 = .ptr 0 0 ∧ E 8 = .sl al t ∧ E 9 = .int al.length ∧ E 10 = .int (j : Nat) ∧ j ≤ al.length ∧ ∀ n ∈ N.take j, n.Few) ?_ 0 ⟨⟨_, rfl⟩, rfl, rfl, rfl, rfl, Nat.zero_le _, by simp⟩
  rintro j E H T ⟨⟨G, rfl⟩, e1, e8, e9, e10, hj, hf⟩
  rcases Nat.lt_or_ge j al.length with hlt | hge
  · have hdec : decide ((j : Int) < al.length) = true := by simpa using hlt
    obtain ⟨n, c, d0, d1, d3, d4, d5, d6, d7, d8⟩ := hL.get ndAgg hlt
    obtain ⟨u1, u2, las, hcc, b1, b2, b3, b4, b5, b6, b7, b8, b9⟩ := d8
    simp only [AV.agg.injEq] at hcc; subst hcc
    have hla := b8.all lvAgg
    have hll := b8.len
    cases x1 : decide ((n.n.size : Int) > 100)
    case true =>
      simp only [↓wpre, wall, simprocAttr, List.length_append, List.append_assoc, app_get_len, app_get_add, app_set_len, app_set_add, e1, e8, e9, e10, hdec, d4, d5, d6, hall, x1, List.set_cons_succ]
      exact ⟨_, rfl, fun h => by cases h⟩
    cases x2 : decide ((las.length : Int) > 10)
    case true =>
      simp only [↓wpre, wall, simprocAttr, List.length_append, List.append_assoc, app_get_len, app_get_add, app_set_len, app_set_add, e1, e8, e9, e10, hdec, d4, d5, d6, hall, x1, x2, List.set_cons_succ]
      exact ⟨_, rfl, fun h => by cases h⟩
    cases x3 : decide ((n.kids.length : Int) > 5)
    case true =>
      simp only [↓wpre, wall, simprocAttr, List.length_append, List.append_assoc, app_get_len, app_get_add, app_set_len, app_set_add, e1, e8, e9, e10, hdec, d4, d5, d6, hall, x1, x2, x3, ints_len, List.set_cons_succ]
      exact ⟨_, rfl, fun h => by cases h⟩
    simp only [↓wpre, wall, simprocAttr, List.length_append, List.append_assoc, app_get_len, app_get_add, app_set_len, app_set_add, e1, e8, e9, e10, hdec, d4, d5, d6, hall, x1, x2, x3, ints_len, List.set_cons_succ]
    simp only [decide_eq_false_iff_not] at x1 x2 x3
    refine W_loopE (fun m => las.length - m) (fun m E H T => (∃ G, H = .cells false [.sl al t] :: G) ∧ E 1 = .ptr 0 0 ∧ E 8 = .sl al t ∧ E 9 = .int al.length ∧ E 10 = .int (j : Nat) ∧ E 31 = .sl las u1 ∧ E 32 = .int las.length ∧ E 33 = .int (m : Nat) ∧ m ≤ las.length ∧ ∀ l ∈ n.ls.take m, l.vs.length ≤ 10) ?_ 0 ⟨⟨_, rfl⟩, e1, e8, e9, e10, rfl, rfl, rfl, Nat.zero_le _, by simp⟩
    clear e1 e8 e9 e10
    clear E T G
    rintro m E H T ⟨⟨G, rfl⟩, e1, e8, e9, e10, e31, e32, e33, hm, hv⟩
    rcases Nat.lt_or_ge m las.length with hml | hmg
    · have hdec2 : decide ((m : Int) < las.length) = true := by simpa using hml
      obtain ⟨x, c, f0, f1, f3, f4, f5, f6, f7, f8⟩ := b8.get lvAgg hml
      obtain ⟨tv, vl, hc, q1, q2, q3, q4⟩ := f8
      simp only [AV.agg.injEq] at hc; subst hc
      have hvl := q4.len
      cases x4 : decide ((vl.length : Int) > 10)
      case true =>
        simp only [↓wpre, wall, simprocAttr, List.length_append, List.append_assoc, app_get_len, app_get_add, app_set_len, app_set_add, e1, e8, e9, e10, e31, e32, e33, hdec2, f4, f5, f6, hla, x4, List.set_cons_succ]
        exact ⟨_, rfl, fun h => by cases h⟩
      simp only [↓wpre, wall, simprocAttr, List.length_append, List.append_assoc, app_get_len, app_get_add, app_set_len, app_set_add, e1, e8, e9, e10, e31, e32, e33, hdec2, f4, f5, f6, hla, x4, List.set_cons_succ]
      simp only [decide_eq_false_iff_not] at x4
      exact EQ_in ⟨m + 1, by omega, ⟨_, rfl⟩, e1, e8, e9, e10, e31, e32, next_ixv (by omega), by omega, take_next f0 hv (by omega)⟩
    · have hdec2 : decide ((m : Int) < las.length) = false := by simpa using hmg
      rw [List.take_of_length_le (by omega)] at hv
      simp only [↓wpre, wall, simprocAttr, List.length_append, List.append_assoc, app_get_len, app_get_add, app_set_len, app_set_add, e1, e8, e9, e10, e31, e32, e33, hdec2]
      exact EQ_in ⟨j + 1, by omega, ⟨_, rfl⟩, e1, e8, e9, next_ixv (by omega), by omega, take_next d0 hf ⟨by omega, by omega, by omega, hv⟩⟩
  · have hdec : decide ((j : Int) < al.length) = false := by simpa using hge
    rw [List.take_of_length_le (by omega)] at hf
    simp only [↓wpre, wall, simprocAttr, e1, e8, e9, e10, hdec]
    exact ⟨_, rfl, fun h => ⟨by simp only [decide_eq_true_eq] at h; omega, hf⟩⟩
theorem whole_ret {T : List Tm} (hG : GT T) {g a : AV} (hg : GIs (nodesOf T) g) {t : Tm} (ha : t.Is a) (hr : ∀ x ∈ t.subs, x.right = true) (hl : T.length + t.sz ≤ 65536) : Out md pfs 45 [g, a] (GRes (nodesOf (t.enter T)) ((t.enter T).idxOf t : Nat) 0) fun _ => False := by
  have hle := enter_len t T
  obtain ⟨_, ⟨g', rfl, hg'⟩, c74⟩ := (renter_ret t hG hg ha hr (by omega)).call rfl (by simp [pvs_cons, pvs_nil, gPure hg, tmPure _ ha])
  have hpg' := gPure hg'
  obtain ⟨c, rfl, l1, l2, l3⟩ := tmCells ha
  obtain ⟨al, tg, rfl, _⟩ := hg
  have hg'' := hg'
  obtain ⟨gl, gt, rfl, q1, q2, q3⟩ := hg'
  have hgl := q3.len
  rw [nodes_len] at hgl
  have d1 : decide ((gl.length : Int) > 65536) = false := by simp only [decide_eq_false_iff_not]; omega
  have hpp : ∀ (s : ASt), purify 1019 s (.agg [.sl gl gt]) = some (.agg [.sl gl gt]) := fun s => purify_pure hpg'
  refine out_of pf45_is (Nat.le_of_ble_eq_true rfl) ?_
  simp only [pf45, ↓wpre, wall, simprocAttr, l1, l2, c74, d1, hpp]
  exact ⟨_, rfl, hg''⟩
theorem radd_ret {T : List Tm} (hG : GT T) {g a : AV} (hg : GIs (nodesOf T) g) {t : Tm} (ha : t.Is a) (h60 : t.sz ≤ 60) (hT : T.length ≤ 60) : Out md pfs 17 [g, a] (AddR T t) fun _ => False := by
  have hpt := tmPure _ ha
  have hdp := dp_sz t
  obtain ⟨_, rfl, c27⟩ := (rEncodable_ret ha (by omega) (by omega)).call rfl (by simp [pvs_cons, pvs_nil, hpt])
  cases hr : t.allR
  · obtain ⟨c, rfl, l1, l2, l3⟩ := tmCells ha
    obtain ⟨al, tg, rfl, _⟩ := hg
    have e1 : encErr t = 3 := by simp [encErr, hr]
    have n3 : ((3 : Int) != 0) = true := rfl
    refine out_of pf17_is (Nat.le_of_ble_eq_true rfl) ?_
    simp only [pf17, ↓wpre, wall, simprocAttr, l1, l2, c27, e1, n3]
    unfold AddR
    rw [if_neg (by rw [hr]; simp)]
    exact ⟨_, rfl, [], .nil, rfl, rfl, Nat.zero_le _, trivial⟩
  · have e1 : encErr t = 0 := by simp [encErr, hr]
    have n0 : ((0 : Int) != 0) = false := rfl
    obtain ⟨_, ⟨g', rfl, hg'⟩, c45⟩ := (whole_ret hG hg ha (allR_subs t hr) (by omega)).call rfl (by simp [pvs_cons, pvs_nil, gPure hg, hpt])
    obtain ⟨c, rfl, l1, l2, l3⟩ := tmCells ha
    obtain ⟨al, tg, rfl, _⟩ := hg
    have hpg' := gPure hg'
    have hg'' := hg'
    obtain ⟨gl, gt, rfl, q1, q2, q3⟩ := hg'
    have hpp : ∀ (s : ASt), purify 1019 s (.agg [.sl gl gt]) = some (.agg [.sl gl gt]) := fun s => purify_pure hpg'
    refine out_of pf17_is (Nat.le_of_ble_eq_true rfl) ?_
    simp only [pf17, ↓wpre, wall, simprocAttr, l1, l2, c27, e1, n0, c45, hpp]
    unfold AddR
    rw [if_pos hr]
    exact ⟨_, rfl, hg''⟩
theorem rSame_ret {N M : List Nd} {a b : AV} (ha : GIs N a) (hb : GIs M b) : Out md pfs 18 [a, b] (· = .bool (decide (N = M))) fun _ => False := by
  obtain ⟨al, t, rfl, h1, h2, h3⟩ := ha
  obtain ⟨bl, u, rfl, q1, q2, q3⟩ := hb
  have hl1 := h3.len
  have hl2 := q3.len
  have hall := h3.all ndAgg
  have hbll := q3.all ndAgg
  refine out_of pf18_is (Nat.le_of_ble_eq_true rfl) ?_
  cases b5 : ((al.length : Int) != bl.length)
  case true =>
    simp only [pf18, ↓wpre, wall, simprocAttr, b5]
    have : N ≠ M := by rintro rfl; simp at b5; omega
    simp [this]
  have hlen : bl.length = al.length := by simp at b5; omega
  simp only [pf18, ↓wpre, wall, simprocAttr, b5]
  refine W_loopE (fun j => al.length - j) (fun j E H T => H = [.cells false [.sl al t], .cells false [.sl bl u]] ∧ E 2 = .ptr 0 0 ∧ E 3 = .ptr 1 0 ∧ E 5 = .int (j : Nat) ∧ j ≤ al.length ∧ N.take j = M.take j) ?_ 0 ⟨rfl, rfl, rfl, rfl, Nat.zero_le _, rfl⟩
  rintro j E H T ⟨rfl, e2, e3, e5, hj, hq⟩
  rcases Nat.lt_or_ge j al.length with hlt | hge
  · have hdec : decide ((j : Int) < al.length) = true := by simpa using hlt
    obtain ⟨x, c1, d0, d1, d3, d4, d5, d6, d7, d8⟩ := h3.get ndAgg hlt
    obtain ⟨y, c2, f0, f1, f3, f4, f5, f6, f7, f8⟩ := q3.get ndAgg (i := j) (by omega)
    obtain ⟨_, rfl, cr⟩ := (rsame_ret d8 f8).call rfl (by simp [pvs_cons, pvs_nil, ndPure d8, ndPure f8])
    cases b6 : decide (x = y)
    · have hxy : x ≠ y := by simpa using b6
      simp only [↓wpre, wall, simprocAttr, e2, e3, e5, hdec, d4, d5, d6, f4, f5, f6, hall, hbll, cr, b6]
      have : N ≠ M := list_ne d0 f0 hxy
      simp [this]
    · have hxy : x = y := by simpa using b6
      subst hxy
      simp only [↓wpre, wall, simprocAttr, e2, e3, e5, hdec, d4, d5, d6, f4, f5, f6, hall, hbll, cr, b6]
      exact EQ_in ⟨j + 1, by omega, rfl, e2, e3, next_ixv (by unfold lenB at *; omega), by omega, take_step hq d0 f0⟩
  · have hdec : decide ((j : Int) < al.length) = false := by simpa using hge
    simp only [↓wpre, wall, simprocAttr, e2, e3, e5, hdec]
    rw [List.take_of_length_le (by omega), List.take_of_length_le (by omega)] at hq
    simp [hq]
structure SizeP (lim : Nat) (x : Tm) (r : Nat) : Prop where
  le : x.sz ≤ lim → r = x.sz
  gt : lim < x.sz → lim < r
  pos : 1 ≤ r
  up : r ≤ (lim + 1) * x.dp
theorem rSize_ret {T : List Tm} (hG : GT T) {g : AV} (hg : GIs (nodesOf T) g) (lim : Nat) (hlim : lim ≤ 10000) (x : Tm) : x ∈ T → x.dp ≤ 100000 → Out md pfs 40 [g, .int (T.idxOf x : Nat), .int lim] (fun v => ∃ r : Nat, v = .int r ∧ SizeP lim x r) fun _ => False := by
  have hpg := gPure hg
  induction x using Tm.ind with
  | h k i nm ls kids ih =>
  intro hx hdp
  obtain ⟨al, tg, rfl, h1, h2, h3⟩ := hg
  have hln := h3.len
  rw [nodes_len] at hln
  have hall := h3.all ndAgg
  have hk : ∀ y ∈ kids, y ∈ T := (hG.good.all _ hx).2
  have hlt0 := List.idxOf_lt_length_of_mem hx
  obtain ⟨n, c, d0, d1, d3, d4, d5, d6, d7, d8⟩ := h3.get ndAgg (i := T.idxOf (.mk k i nm ls kids)) (by omega)
  have hnx : n = ndOf T (.mk k i nm ls kids) := by
    rw [nodesOf, List.getElem?_map, List.getElem?_eq_getElem hlt0, List.getElem_idxOf] at d0
    exact (Option.some.inj d0).symm
  subst hnx
  obtain ⟨t1, t2, las, hcc, b1, b2, b3, b4, b5, b6, b7, b8, b9⟩ := d8
  simp only [AV.agg.injEq] at hcc; subst hcc
  have hia := ints_all (ndOf T (.mk k i nm ls kids)).kids
  have hkl : (ndOf T (.mk k i nm ls kids)).kids.length = kids.length := by simp [ndOf, Tm.kids]
  have hkg : ∀ (j : Nat) (y : Tm), kids[j]? = some y → (ndOf T (.mk k i nm ls kids)).kids[j]? = some ((T.idxOf y : Nat) : Int) := fun j y hy => by simp [ndOf, Tm.kids, hy]
  rw [Tm.dp] at hdp
  generalize (ndOf T (.mk k i nm ls kids)).kids = ks at *
  have hszx : (Tm.mk k i nm ls kids).sz = 1 + tszL kids := by rw [Tm.sz]
  refine out_of pf40_is (Nat.le_of_ble_eq_true rfl) ?_
  simp only [pf40, ↓wpre, wall, simprocAttr, d4, d5, hall]
  refine W_loopE (fun j => ks.length - j) (fun j E H V => H = [.cells false [.sl al tg]] ∧ E 2 = .int lim ∧ E 3 = .ptr 0 0 ∧ E 8 = .sl (ints ks) t2 ∧ E 9 = .int (j : Nat) ∧ j ≤ ks.length ∧ ∃ r : Nat, E 7 = .int r ∧ (1 + tszL (kids.take j) ≤ lim → r = 1 + tszL (kids.take j)) ∧ (lim < 1 + tszL (kids.take j) → lim < r) ∧ 1 ≤ r ∧ r ≤ (lim + 1) * (tdpL kids + 1)) ?_ 0 ⟨rfl, rfl, rfl, rfl, rfl, Nat.zero_le _, 1, rfl, by simp [tszL], by simp [tszL], by omega, by rw [Nat.mul_add]; omega⟩
  rintro j E H V ⟨rfl, e2, e3, e8, e9, hj, r, e7, r1, r2, r3, r4⟩
  have hmul : (lim + 1) * (tdpL kids + 1) ≤ 10001 * 100000 := Nat.mul_le_mul (by omega) hdp
  have fin : ∀ w : Nat, w = r → (j = ks.length ∨ lim < r) → SizeP lim (.mk k i nm ls kids) w := by
    rintro w rfl hh
    have hle : tszL (kids.take j) ≤ tszL kids := by
      rcases Nat.lt_or_ge j kids.length with h | h
      · obtain ⟨s1, s2⟩ := tsz_split (List.getElem?_eq_getElem h); omega
      · rw [List.take_of_length_le h]; exact Nat.le_refl _
    refine ⟨fun h => ?_, fun h => ?_, r3, by rw [Tm.dp]; exact r4⟩
    · rcases hh with hh | hh
      · rw [List.take_of_length_le (by omega)] at r1; omega
      · rcases Nat.lt_or_ge lim (1 + tszL (kids.take j)) with h5 | h5
        · omega
        · have := r1 h5; omega
    · rcases hh with hh | hh
      · rw [List.take_of_length_le (by omega)] at r2; omega
      · exact hh
  rcases Nat.lt_or_ge j ks.length with hlt | hge
  · have hdec : decide ((j : Int) < ks.length) = true := by simpa using hlt
    cases hd2 : decide ((r : Int) ≤ lim)
    · simp only [↓wpre, wall, simprocAttr, e2, e3, e7, e8, e9, ints_len, hdec, hd2]
      simp only [decide_eq_false_iff_not] at hd2
      exact ⟨r, rfl, fin r rfl (.inr (by omega))⟩
    · have hrl := hd2
      simp only [decide_eq_true_eq] at hrl
      obtain ⟨y, hy⟩ : ∃ y, kids[j]? = some y := ⟨kids[j]'(by omega), List.getElem?_eq_getElem _⟩
      obtain ⟨z, z0, z1, z2⟩ := ints_get hlt
      have hz : z = (T.idxOf y : Nat) := by
        have := hkg j y hy
        rw [this] at z0
        exact (Option.some.inj z0).symm
      subst hz
      have hym := List.mem_of_getElem? hy
      obtain ⟨s1, s2⟩ := tsz_split hy
      obtain ⟨p1, p2⟩ := tdp_split hy
      obtain ⟨_, ⟨ry, rfl, hry⟩, c40⟩ := (ih y hym (hk y hym) (by omega)).call rfl (by simp [pvs_cons, pvs_nil, hpg, pv_v])
      have hup := hry.up
      have hm2 : (lim + 1) * y.dp ≤ (lim + 1) * tdpL kids := Nat.mul_le_mul_left _ p2
      have hm3 : (lim + 1) * (tdpL kids + 1) = (lim + 1) * tdpL kids + (lim + 1) := by rw [Nat.mul_add, Nat.mul_one]
      have w35 : IntKind.i64.wrap ((r : Int) + (ry : Nat)) = ((r + ry : Nat) : Int) := by rw [wrap_in (by unfold in64; omega)]; omega
      simp only [↓wpre, wall, simprocAttr, e2, e3, e7, e8, e9, ints_len, hdec, hd2, z2, hia, c40, w35]
      have hr0 := r1 (by rcases Nat.lt_or_ge lim (1 + tszL (kids.take j)) with h5 | h5; · have := r2 h5; omega
                         · exact h5)
      refine EQ_in ⟨j + 1, by omega, rfl, e2, e3, e8, next_ixv (by unfold lenB at *; omega), by omega, r + ry, rfl, fun h => ?_, fun h => ?_, by omega, by omega⟩
      · have := hry.le (by omega); omega
      · have hp := hry.pos
        rcases Nat.lt_or_ge lim y.sz with h5 | h5
        · have := hry.gt h5; omega
        · have := hry.le h5; omega
  · have hdec : decide ((j : Int) < ks.length) = false := by simpa using hge
    simp only [↓wpre, wall, simprocAttr, e2, e3, e7, e8, e9, ints_len, hdec]
    exact ⟨r, rfl, fin r rfl (.inl (by omega))⟩
structure SmallG (N : List Nd) (T : List Tm) : Prop where
  eq : N = nodesOf T
  good : GT T
  few : FewG N
  sz : ∀ t ∈ T, t.sz ≤ 400
theorem SmallG.len {N : List Nd} {T : List Tm} (h : SmallG N T) : T.length ≤ 60 := by
  have := h.few.len; rw [h.eq, nodes_len] at this; exact this
theorem good_dp {T : List Tm} (h : Good T) : ∀ t ∈ T, t.dp ≤ T.length := by
  have key : ∀ (l : List Tm) (m : Nat), (∀ x ∈ l, x.dp ≤ m) → tdpL l ≤ m := by
    intro l
    induction l with
    | nil => intro m _; simp [tdpL]
    | cons x l ih =>
      intro m h
      rw [tdpL]
      have h1 := h x (by simp)
      have h2 := ih m fun y hy => h y (by simp [hy])
      omega
  induction h with
  | nil => simp
  | @add T t h hn hf hk ih =>
    intro x hx
    rw [List.length_append, List.length_singleton]
    rcases List.mem_append.1 hx with hx | hx
    · have := ih x hx; omega
    · rw [List.mem_singleton.1 hx]
      have : tdpL t.kids ≤ T.length := key _ _ fun y hy => ih y (hk y hy)
      cases t
      rw [Tm.dp]
      simp only [Tm.kids] at this
      omega
theorem smallG_ret {N : List Nd} {a : AV} (h : GIs N a) : Out md pfs 15 [a] (fun v => ∃ b, v = .bool b ∧ (b = true → ∃ T, SmallG N T)) fun _ => False := by
  have hpa := gPure h
  obtain ⟨_, ⟨b, rfl, hb⟩, c10⟩ := (few_ret h).call rfl (by simp [pvs_cons, pvs_nil, hpa])
  obtain ⟨_, rfl, c13⟩ := (rcheck_ret h).call rfl (by simp [pvs_cons, pvs_nil, hpa])
  have hg := h
  obtain ⟨al, t, rfl, h1, h2, h3⟩ := h
  have hln := h3.len
  refine out_of pf15_is (Nat.le_of_ble_eq_true rfl) ?_
  cases b
  case false =>
    simp only [pf15, ↓wpre, wall, simprocAttr, c10]
    exact ⟨_, rfl, fun h => by cases h⟩
  cases hc : (checkN N != 0)
  case true =>
    simp only [pf15, ↓wpre, wall, simprocAttr, c10, c13, hc]
    exact ⟨_, rfl, fun h => by cases h⟩
  simp only [bne_eq_false_iff_eq] at hc
  have hfew := hb rfl
  obtain ⟨T, hG, rfl, hl⟩ := check_tab hc
  rw [nodes_len] at hln
  have h60 := hfew.len
  rw [nodes_len] at h60
  have hc' : (checkN (nodesOf T) != 0) = false := by simp [hc]
  simp only [pf15, ↓wpre, wall, simprocAttr, c10, c13, hc']
  refine W_loopE (fun j => al.length - j) (fun j E H V => H = [.cells false [.sl al t]] ∧ E 1 = .ptr 0 0 ∧ E 14 = .int al.length ∧ E 15 = .int (j : Nat) ∧ j ≤ al.length ∧ ∀ x ∈ T.take j, x.sz ≤ 400) ?_ 0 ⟨rfl, rfl, rfl, rfl, Nat.zero_le _, by simp⟩
  rintro j E H V ⟨rfl, e1, e14, e15, hj, hs⟩
  rcases Nat.lt_or_ge j al.length with hlt | hge
  · have hdec : decide ((j : Int) < al.length) = true := by simpa using hlt
    obtain ⟨x, hx⟩ : ∃ x, T[j]? = some x := ⟨T[j]'(by omega), List.getElem?_eq_getElem _⟩
    have hxm := List.mem_of_getElem? hx
    obtain ⟨_, hnm, _⟩ := good_at hG hx
    have hi : T.idxOf x = j := (idx_first hx fun y hy e => hnm (by rw [← e]; exact hy)).2
    have hd := good_dp hG.good x hxm
    obtain ⟨_, ⟨r, rfl, hr⟩, c40⟩ := (rSize_ret hG hg 400 (by omega) x hxm (by omega)).call rfl (by simp [pvs_cons, pvs_nil, hpa, pv_v])
    rw [hi, show ((400 : Nat) : Int) = 400 from rfl] at c40
    cases hd2 : decide ((r : Int) > 400)
    · simp only [↓wpre, wall, simprocAttr, e1, e14, e15, hdec, c40, hd2]
      simp only [decide_eq_false_iff_not] at hd2
      exact EQ_in ⟨j + 1, by omega, rfl, e1, e14, next_ixv (by unfold lenB; omega), by omega, take_next hx hs (by
        rcases Nat.lt_or_ge 400 x.sz with h | h
        · have := hr.gt h; omega
        · exact h)⟩
    · simp only [↓wpre, wall, simprocAttr, e1, e14, e15, hdec, c40, hd2]
      exact ⟨_, rfl, fun h => by cases h⟩
  · have hdec : decide ((j : Int) < al.length) = false := by simpa using hge
    rw [List.take_of_length_le (by omega)] at hs
    simp only [↓wpre, wall, simprocAttr, e1, e14, e15, hdec]
    exact ⟨_, rfl, fun _ => ⟨T, rfl, hG, hfew, hs⟩⟩
theorem GRes.eq {N M : List Nd} {i j e f : Int} {v : AV} (h : GRes N i e v) : ∃ al t, v = .tup [.agg [.sl al t], .int i, .int e] ∧ GIs N (.agg [.sl al t]) := by
  obtain ⟨ga, rfl, h1⟩ := h
  obtain ⟨al, t, rfl, h2⟩ := h1
  exact ⟨al, t, rfl, al, t, rfl, h2⟩
theorem AddR.eq {T : List Tm} {t : Tm} {v : AV} (h : AddR T t v) : ∃ (N : List Nd) (i e : Int), (∀ w, AddR T t w → GRes N i e w) ∧ GRes N i e v := by
  unfold AddR at h ⊢
  by_cases hr : t.allR = true
  · simp only [hr, if_true] at h ⊢; exact ⟨_, _, _, fun _ h => h, h⟩
  · simp only [hr, if_false] at h ⊢; exact ⟨_, _, _, fun _ h => h, h⟩
theorem adds_law {N : List Nd} {g a : AV} (hg : GIs N g) {t : Tm} (ha : t.Is a) : Out md pfs 4 [g, a] (· = .bool true) fun _ => False := by
  have hpg := gPure hg
  have hpt := tmPure _ ha
  obtain ⟨_, rfl, c11⟩ := awake_ret.call rfl pvs_nil
  obtain ⟨v, hv, c14⟩ := (short_ret t (nodes := 60) ha (by omega) (by unfold in64; omega)).call rfl (by simp [pvs_cons, pvs_nil, pv_v, hpt])
  obtain ⟨_, ⟨b, rfl, hb⟩, c15⟩ := (smallG_ret hg).call rfl (by simp [pvs_cons, pvs_nil, hpg])
  obtain ⟨c, rfl, l1, l2, l3⟩ := tmCells ha
  have hg' := hg
  obtain ⟨al, tg, rfl, _⟩ := hg'
  rcases hv with rfl | ⟨rfl, hle, hsl⟩
  · refine out_of pf4_is (Nat.le_of_ble_eq_true rfl) ?_
    simp only [pf4, ↓wpre, wall, simprocAttr, l1, l2, c14, c11]
  cases b
  · refine out_of pf4_is (Nat.le_of_ble_eq_true rfl) ?_
    simp only [pf4, ↓wpre, wall, simprocAttr, l1, l2, c14, c15, c11]
  obtain ⟨T, hS⟩ := hb rfl
  have hT := hS.len
  rw [hS.eq] at hg
  obtain ⟨v1, hv1, c16⟩ := (add_ret hS.good hg ha hsl (by omega) hT).call rfl (by simp [pvs_cons, pvs_nil, hpg, hpt])
  obtain ⟨v2, hv2, c17⟩ := (radd_ret hS.good hg ha (by omega) hT).call rfl (by simp [pvs_cons, pvs_nil, hpg, hpt])
  obtain ⟨M, i, e, hall, hv1'⟩ := hv1.eq
  obtain ⟨al1, t1, rfl, k1⟩ := hv1'.eq (M := []) (j := 0) (f := 0)
  obtain ⟨al2, t2, rfl, k2⟩ := (hall _ hv2).eq (M := []) (j := 0) (f := 0)
  obtain ⟨_, rfl, c18⟩ := (rSame_ret k1 k2).call rfl (by simp [pvs_cons, pvs_nil, gPure k1, gPure k2])
  rw [decide_eq_true rfl] at c18
  have q1 : (i == i) = true := by simp
  have q2 : (e == e) = true := by simp
  refine out_of pf4_is (Nat.le_of_ble_eq_true rfl) ?_
  simp only [pf4, ↓wpre, wall, simprocAttr, l1, l2, c14, c15, c16, c17, c18, c11, q1, q2]
theorem cells3 : 0 < Tryd.prog.cellsOf 3 := by rw [show Tryd.prog.cellsOf 3 = 1 from by kernel_rfl]; decide
theorem oft_int {n : Nat} {l : List AV} (h : OfT Tryd.prog n 3 l) : ∃ i, l = [.int i] ∧ in64 i := by
  cases n with
  | zero => exact h.elim
  | succ n =>
    simp only [OfT, Tryd.underlying3] at h
    obtain ⟨i, rfl, hw⟩ := h
    refine ⟨i, rfl, ?_⟩
    unfold in64
    simp [Lit.wf, IntKind.min, IntKind.max, IntKind.signed, IntKind.bits] at hw
    omega
theorem oft_str {n : Nat} {l : List AV} (h : OfT Tryd.prog n 9 l) : ∃ s, l = [.str s] ∧ s.size ≤ lenB := by
  cases n with
  | zero => exact h.elim
  | succ n =>
    simp only [OfT, Tryd.underlying9] at h
    obtain ⟨s, rfl, hw⟩ := h
    exact ⟨s, rfl, by unfold lenB; simpa [maxLen] using hw⟩
theorem oft_slice {α : Type} {R : α → AV → Prop} {n : Nat} {t e : TypeId} {l : List AV} (hu : Tryd.prog.underlying t = some (.slice e)) (hc : 0 < Tryd.prog.cellsOf e) (hR : ∀ n l, OfT Tryd.prog n e l → ∃ x, R x (mkE (isAgg Tryd.prog e) l)) (h : OfT Tryd.prog n t l) : ∃ (xs : List α) (al : List AV) (tl : Tl), l = [.sl al tl] ∧ LIs R xs al ∧ tl.pure = true ∧ al.length ≤ lenB := by
  cases n with
  | zero => exact h.elim
  | succ n =>
    simp only [OfT, hu, if_pos hc] at h
    obtain ⟨xs, tl, rfl, h1, h2, h3⟩ := h
    have key : ∀ xs : List (List AV), (∀ x ∈ xs, OfT Tryd.prog n e x) → ∃ ys : List α, LIs R ys (xs.map (mkE (isAgg Tryd.prog e))) := by
      intro xs
      induction xs with
      | nil => intro _; exact ⟨[], trivial⟩
      | cons x xs ih =>
        intro h
        obtain ⟨y, hy⟩ := hR n x (h x (by simp))
        obtain ⟨ys, hys⟩ := ih fun z hz => h z (by simp [hz])
        exact ⟨y :: ys, hy, hys⟩
    obtain ⟨ys, hys⟩ := key xs h3
    refine ⟨ys, _, tl, rfl, hys, ?_, by rw [List.length_map]; unfold lenB; simpa [maxLen] using h2⟩
    rcases h1 with rfl | ⟨rfl, _⟩ <;> rfl
theorem purify_v_inv {n : Nat} {s : ASt} {x : AV} {y : Value} (h : purify n s x = some (.v y)) : x = .v y := by
  cases n with
  | zero => rw [purify] at h; cases h
  | succ n =>
    unfold purify at h
    split at h
    · cases h; rfl
    · split at h
      all_goals first
        | (cases h; done)
        | (rw [Option.map_eq_some_iff] at h; obtain ⟨_, _, h⟩ := h; cases h; done)
        | skip
      split at h
      · split at h
        · rw [Option.map_eq_some_iff] at h; obtain ⟨_, _, h⟩ := h; cases h
        · cases h
      · cases h
theorem law_true {f : FuncId} {ls : List AV} (h : Out md pfs f ls (· = .bool true) fun _ => False) : ∃ s', run md pfs f ls ⟨[], []⟩ = some (.ret (.v (.bool true)), s') := by
  obtain ⟨out, s, out', h1, h2, h3⟩ := h
  cases out' with
  | pan v => exact h3.elim
  | ret v =>
    subst h3
    cases out with
    | pan w => simp [Outc.purify] at h2
    | ret w =>
      simp only [Outc.purify, Option.map_eq_some_iff] at h2
      obtain ⟨y, h2, h3⟩ := h2
      cases h3
      exact ⟨s, by rw [h1, purify_v_inv h2]⟩
theorem cells105 : 0 < Tryd.prog.cellsOf 105 := by rw [show Tryd.prog.cellsOf 105 = 2 from by kernel_rfl]; decide
theorem cells67 : 0 < Tryd.prog.cellsOf 67 := by rw [show Tryd.prog.cellsOf 67 = 2 from by kernel_rfl]; decide
theorem cells33 : 0 < Tryd.prog.cellsOf 33 := by rw [show Tryd.prog.cellsOf 33 = 5 from by kernel_rfl]; decide
theorem five {α : Type} {l : List α} (h : l.length = 5) : ∃ a b c d e, l = [a, b, c, d, e] := by
  match l, h with
  | [a, b, c, d, e], _ => exact ⟨a, b, c, d, e, rfl⟩
theorem two {α : Type} {l : List α} (h : l.length = 2) : ∃ a b, l = [a, b] := by
  match l, h with
  | [a, b], _ => exact ⟨a, b, rfl⟩
theorem oft_var {n : Nat} {l : List AV} (h : OfT Tryd.prog n 105 l) : ∃ v : Int × Int, varIs v (.agg l) := by
  cases n with
  | zero => exact h.elim
  | succ n =>
    simp only [OfT, Tryd.underlying105] at h
    rw [if_pos (by kernel_rfl)] at h
    obtain ⟨xs, rfl, hl, hx⟩ := h
    obtain ⟨a, b, rfl⟩ := two hl
    obtain ⟨i, rfl, hi⟩ := oft_int (hx 0 _ a rfl rfl)
    obtain ⟨p, rfl, hp⟩ := oft_int (hx 1 _ b rfl rfl)
    exact ⟨(i, p), rfl, hi, hp⟩
theorem oft_lv {n : Nat} {l : List AV} (h : OfT Tryd.prog n 67 l) : ∃ e : Lv, e.Is (.agg l) := by
  cases n with
  | zero => exact h.elim
  | succ n =>
    simp only [OfT, Tryd.underlying67] at h
    rw [if_pos (by kernel_rfl)] at h
    obtain ⟨xs, rfl, hl, hx⟩ := h
    obtain ⟨a, b, rfl⟩ := two hl
    obtain ⟨c, rfl, hc⟩ := oft_int (hx 0 _ a rfl rfl)
    obtain ⟨vs, al, tl, rfl, g1, g2, g3⟩ := oft_slice (R := varIs) Tryd.underlying65 cells105 (fun n l h => by
      obtain ⟨v, hv⟩ := oft_var h
      exact ⟨v, by rw [show isAgg Tryd.prog 105 = true from by kernel_rfl]; exact hv⟩) (hx 1 _ b rfl rfl)
    exact ⟨⟨c, vs⟩, tl, al, rfl, g2, hc, g3, g1⟩
theorem oft_tm : ∀ (n : Nat) (l : List AV), OfT Tryd.prog n 33 l → ∃ e : Tm, e.Is (.agg l)
  | 0, _, h => h.elim
  | 1, l, h => by
    simp only [OfT, Tryd.underlying33] at h
    rw [if_pos (by kernel_rfl)] at h
    obtain ⟨xs, rfl, hl, hx⟩ := h
    obtain ⟨a, b, c, d, e, rfl⟩ := five hl
    exact (hx 0 _ a rfl rfl).elim
  | n + 2, l, h => by
    unfold OfT at h
    simp only [Tryd.underlying33] at h
    rw [if_pos (by kernel_rfl)] at h
    obtain ⟨xs, rfl, hl, hx⟩ := h
    obtain ⟨a, b, c, d, e, rfl⟩ := five hl
    obtain ⟨k, rfl, hk⟩ := oft_int (hx 0 _ a rfl rfl)
    obtain ⟨i, rfl, hi⟩ := oft_int (hx 1 _ b rfl rfl)
    obtain ⟨nm, rfl, hn⟩ := oft_str (hx 2 _ c rfl rfl)
    obtain ⟨ls, las, t1, rfl, g1, g2, g3⟩ := oft_slice (R := Lv.Is) Tryd.underlying30 cells67 (fun n l h => by
      obtain ⟨v, hv⟩ := oft_lv h
      exact ⟨v, by rw [show isAgg Tryd.prog 67 = true from by kernel_rfl]; exact hv⟩) (hx 3 _ d rfl rfl)
    have he : OfT Tryd.prog (n + 1) 31 e := hx 4 _ e rfl rfl
    unfold OfT at he
    simp only [Tryd.underlying31] at he
    rw [if_pos cells33] at he
    obtain ⟨ys, t2, rfl, q1, q2, q3⟩ := he
    have key : ∀ ys : List (List AV), (∀ x ∈ ys, OfT Tryd.prog n 33 x) → ∃ kids : List Tm, LIs Tm.Is kids (ys.map (mkE (isAgg Tryd.prog 33))) := by
      intro ys
      induction ys with
      | nil => intro _; exact ⟨[], trivial⟩
      | cons x xs ih =>
        intro h
        obtain ⟨y, hy⟩ := oft_tm n x (h x (by simp))
        obtain ⟨ys, hys⟩ := ih fun z hz => h z (by simp [hz])
        exact ⟨y :: ys, by rw [show isAgg Tryd.prog 33 = true from by kernel_rfl]; exact hy, hys⟩
    obtain ⟨kids, hkk⟩ := key ys q3
    exact ⟨.mk k i nm ls kids, Tm.Is.mk g2 (by rcases q1 with rfl | ⟨rfl, _⟩ <;> rfl) hk hi hn g3 (by rw [List.length_map]; unfold lenB; simpa [maxLen] using q2) g1 hkk⟩
theorem oft_ints {n : Nat} {l : List AV} (h : OfT Tryd.prog n 45 l) : ∃ (xs : List Int) (tl : Tl), l = [.sl (ints xs) tl] ∧ tl.pure = true ∧ xs.length ≤ lenB ∧ ∀ x ∈ xs, in64 x := by
  obtain ⟨ys, al, tl, rfl, h1, h2, h3⟩ := oft_slice (R := fun (i : Int) a => a = .int i ∧ in64 i) Tryd.underlying45 cells3 (fun n l h => by
    obtain ⟨i, rfl, hi⟩ := oft_int h
    exact ⟨i, by rw [show isAgg Tryd.prog 3 = false from by kernel_rfl]; exact ⟨rfl, hi⟩⟩) h
  have key : ∀ {ys : List Int} {al : List AV}, LIs (fun (i : Int) a => a = .int i ∧ in64 i) ys al → al = ints ys ∧ ∀ x ∈ ys, in64 x := by
    intro ys
    induction ys with
    | nil => intro al h; cases al with
      | nil => exact ⟨rfl, by simp⟩
      | cons a al => simp [LIs] at h
    | cons y ys ih => intro al h; cases al with
      | nil => simp [LIs] at h
      | cons a al =>
        simp only [LIs] at h
        obtain ⟨e1, e2⟩ := ih h.2
        obtain ⟨⟨rfl, h0⟩, _⟩ := h
        exact ⟨by rw [e1]; rfl, fun x hx => by
          rcases List.mem_cons.1 hx with rfl | hx
          · exact h0
          · exact e2 x hx⟩
  obtain ⟨rfl, h5⟩ := key h1
  rw [ints_len] at h3
  exact ⟨ys, tl, rfl, h2, h3, h5⟩
theorem cells47 : 0 < Tryd.prog.cellsOf 47 := by rw [show Tryd.prog.cellsOf 47 = 5 from by kernel_rfl]; decide
theorem oft_nd {n : Nat} {l : List AV} (h : OfT Tryd.prog n 47 l) : ∃ e : Nd, e.Is (.agg l) := by
  cases n with
  | zero => exact h.elim
  | succ n =>
    unfold OfT at h
    simp only [Tryd.underlying47] at h
    rw [if_pos (by kernel_rfl)] at h
    obtain ⟨xs, rfl, hl, hx⟩ := h
    obtain ⟨a, b, c, d, e, rfl⟩ := five hl
    obtain ⟨k, rfl, hk⟩ := oft_int (hx 0 _ a rfl rfl)
    obtain ⟨i, rfl, hi⟩ := oft_int (hx 1 _ b rfl rfl)
    obtain ⟨nm, rfl, hn⟩ := oft_str (hx 2 _ c rfl rfl)
    obtain ⟨ls, las, t1, rfl, g1, g2, g3⟩ := oft_slice (R := Lv.Is) Tryd.underlying30 cells67 (fun n l h => by
      obtain ⟨v, hv⟩ := oft_lv h
      exact ⟨v, by rw [show isAgg Tryd.prog 67 = true from by kernel_rfl]; exact hv⟩) (hx 3 _ d rfl rfl)
    obtain ⟨ks, t2, rfl, q1, q2, q3⟩ := oft_ints (hx 4 _ e rfl rfl)
    exact ⟨⟨k, i, nm, ls, ks⟩, t1, t2, las, rfl, g2, q1, hk, hi, hn, g3, q2, g1, q3⟩
theorem oft_g {n : Nat} {l : List AV} (h : OfT Tryd.prog n 24 l) : ∃ N : List Nd, GIs N (.agg l) := by
  cases n with
  | zero => exact h.elim
  | succ n =>
    unfold OfT at h
    simp only [Tryd.underlying24] at h
    rw [if_pos (by kernel_rfl)] at h
    obtain ⟨xs, rfl, hl, hx⟩ := h
    obtain ⟨a, rfl⟩ : ∃ a, xs = [a] := by
      match xs, hl with
      | [a], _ => exact ⟨a, rfl⟩
    obtain ⟨N, al, tl, rfl, g1, g2, g3⟩ := oft_slice (R := Nd.Is) Tryd.underlying22 cells47 (fun n l h => by
      obtain ⟨v, hv⟩ := oft_nd h
      exact ⟨v, by rw [show isAgg Tryd.prog 47 = true from by kernel_rfl]; exact hv⟩) (hx 0 _ a rfl rfl)
    exact ⟨N, al, tl, rfl, g2, g3, g1⟩
open Go Go.Proofs Go.Proofs.YtjiheebhmokfbaaDoor
open Go.ChangeShapes Go.WideShapes Go.ChangeAt Go.RowKit
def laid50 : List (String × DataW Unit) := Rows.graphChecksRow.laid
theorem lm_tail {P : Program} {x : String × DataW Unit} {r : List (String × DataW Unit)} {w : World} (h : laidMet P (x :: r) w) : laidMet P r w := by
  obtain ⟨n, d⟩ := x
  obtain ⟨ps, ⟨g, t, cs, fuel, p, q, _, _, _, _, hq, rfl⟩, hn, hc⟩ := h
  exact ⟨q, hq, (List.nodup_append.1 hn).2.1, fun b off hm => hc b off (List.mem_append_right _ hm)⟩
theorem kn_of {W : World} (h : laidMetH Tryd.prog laid50 W) : Kn W := by
  rw [MakeChecks.laidMetH_plain _ _ _ (by kernel_rfl)] at h
  have h2 := lm_tail (lm_tail h)
  have h3 := Lib.tabIs_of_head (name := tabN) (zs := Lib.pow10Tab) (k := .u64) (g := 0) (t := 142) (e := 132) (n := 20) (by kernel_rfl) (by kernel_rfl) (by kernel_rfl) (by kernel_rfl) (by kernel_rfl) (by kernel_rfl) h2
  intro b hb
  obtain rfl : b = 0 := hb
  unfold Lib.TabIs World.var? at h3
  rw [show Tryd.prog.globalNamed tabN = some 0 from by kernel_rfl] at h3
  simp only [Option.bind_some] at h3
  split at h3
  · rename_i cs t z hh
    simp only [Option.some.injEq] at h3
    subst h3
    exact ⟨(Array.getElem?_eq_some_iff.1 hh).1, t, z, hh⟩
  · cases h3
theorem try_own : ownKnob Tryd.prog.godebug = none := by kernel_rfl
theorem try_laid : laidOutB Tryd.prog = true := by kernel_rfl
end Go.Proofs.Eng
