/- GetTerms of the program. No conditions beyond those in the theorems. -/
import Derived.Test.YtbcnlbnimabdeaaU6
import Derived.Test.YtbcnlbnimabdeaaT14
set_option linter.all false
set_option linter.deprecated false
set_option linter.unnecessarySimpa false
set_option linter.unusedVariables false
set_option linter.unusedSimpArgs false
set_option linter.defProp false
namespace Go.Proofs.Eng
open Go Go.Proofs
set_option maxRecDepth 100000
set_option maxHeartbeats 8000000
/-! What is read may be encoded. -/
theorem rEntry_inv {T : List Tm} {s r : By} {t : Tm} (h : rEntry T s = some (t, r)) : t.right = true ∧ t.sz ≤ 4096 ∧ t.dp ≤ 200 ∧ ∀ x ∈ t.kids, x ∈ T := by
  have hk : ∀ (n : Nat) (s r : By) (l : List Tm), rKids T n s = some (l, r) → ∀ x ∈ l, x ∈ T := by
    intro n
    induction n with
    | zero => intro s r l h x hx; simp only [rKids, Option.some.injEq, Prod.mk.injEq] at h; rw [← h.1] at hx; simp at hx
    | succ n ih =>
      intro s r l h x hx
      rw [rKids] at h
      obtain ⟨a, _, h⟩ := Option.bind_eq_some_iff.1 h
      split at h
      · cases h
      · rename_i t ht
        obtain ⟨z, hz, h⟩ := Option.map_eq_some_iff.1 h
        simp only [Prod.mk.injEq] at h
        rw [← h.1] at hx
        rcases List.mem_cons.1 hx with rfl | hx
        · exact List.mem_of_getElem? ht
        · exact ih _ _ _ hz x hx
  unfold rEntry at h
  obtain ⟨k, _, h⟩ := Option.bind_eq_some_iff.1 h
  obtain ⟨p, _, h⟩ := Option.bind_eq_some_iff.1 h
  obtain ⟨l, hl, h⟩ := Option.bind_eq_some_iff.1 h
  split at h
  · rename_i hc
    simp only [Option.some.injEq, Prod.mk.injEq] at h
    rw [← h.1]
    exact ⟨hc.1, hc.2.1, hc.2.2, hk _ _ _ _ hl⟩
  · cases h
theorem rKids_mem {T : List Tm} : ∀ (n : Nat) (s r : By) (l : List Tm), rKids T n s = some (l, r) → ∀ x ∈ l, x ∈ T
  | 0, s, r, l, h, x, hx => by simp only [rKids, Option.some.injEq, Prod.mk.injEq] at h; rw [← h.1] at hx; simp at hx
  | n + 1, s, r, l, h, x, hx => by
    rw [rKids] at h
    obtain ⟨a, _, h⟩ := Option.bind_eq_some_iff.1 h
    split at h
    · cases h
    · rename_i t ht
      obtain ⟨z, hz, h⟩ := Option.map_eq_some_iff.1 h
      simp only [Prod.mk.injEq] at h
      rw [← h.1] at hx
      rcases List.mem_cons.1 hx with rfl | hx
      · exact List.mem_of_getElem? ht
      · exact rKids_mem n _ _ _ hz x hx
/-- Terms whose parts are in the table. -/
def TabOK (T : List Tm) : Prop := ∀ t ∈ T, t.allR = true ∧ t.sz ≤ 4096 ∧ t.dp ≤ 200 ∧ ∀ x ∈ t.subs, x ∈ T
theorem allR_of {t : Tm} (hr : t.right = true) (hk : ∀ x ∈ t.kids, x.allR = true) : t.allR = true := by
  obtain ⟨k, i, n, ls, kids⟩ := t
  rw [Tm.allR, hr, Bool.true_and, allRL_iff]
  exact hk
theorem subs_of {t x : Tm} (h : x ∈ t.subs) : x = t ∨ ∃ y ∈ t.kids, x ∈ y.subs := by
  obtain ⟨k, i, n, ls, kids⟩ := t
  rw [Tm.subs] at h
  simp only [List.mem_append, List.mem_cons, List.mem_singleton, mem_subsL, List.not_mem_nil, or_false] at h
  rcases h with h | h
  · first | exact .inl h | exact .inr h
  · first | exact .inr h | exact .inl h
theorem rTab_ok : ∀ (n : Nat) (T : List Tm) (s r : By) (U : List Tm), TabOK T → rTab n T s = some (U, r) → TabOK U
  | 0, T, s, r, U, hT, h => by simp only [rTab, Option.some.injEq, Prod.mk.injEq] at h; rw [← h.1]; exact hT
  | n + 1, T, s, r, U, hT, h => by
    rw [rTab] at h
    obtain ⟨⟨t, s2⟩, he, h⟩ := Option.bind_eq_some_iff.1 h
    obtain ⟨h1, h2, h3, h4⟩ := rEntry_inv he
    refine rTab_ok n _ _ _ _ ?_ h
    intro x hx
    rcases List.mem_append.1 hx with hx | hx
    · obtain ⟨a, b, c, d⟩ := hT x hx
      exact ⟨a, b, c, fun y hy => List.mem_append_left _ (d y hy)⟩
    · simp only [List.mem_singleton] at hx
      subst hx
      refine ⟨allR_of h1 fun y hy => (hT y (h4 y hy)).1, h2, h3, fun y hy => ?_⟩
      rcases subs_of hy with rfl | ⟨z, hz, hy⟩
      · simp
      · exact List.mem_append_left _ ((hT z (h4 z hz)).2.2.2 y hy)
theorem getT_ok {s r : By} {l : List Tm} (h : getT s = some (l, r)) : ∃ T, TabOK T ∧ (∀ x ∈ l, x ∈ T) ∧ ∃ n s1 s2, rN s = some (n, s1) ∧ rTab n [] s1 = some (T, s2) := by
  unfold getT at h
  obtain ⟨⟨n, s1⟩, h0, h⟩ := Option.bind_eq_some_iff.1 h
  obtain ⟨⟨T, s2⟩, h1, h⟩ := Option.bind_eq_some_iff.1 h
  obtain ⟨m, _, h⟩ := Option.bind_eq_some_iff.1 h
  split at h
  · cases h
  · exact ⟨T, rTab_ok _ _ _ _ _ (fun x hx => by simp at hx) h1, rKids_mem _ _ _ _ h, n, s1, s2, h0, h1⟩
theorem getT_allR {s r : By} {l : List Tm} (h : getT s = some (l, r)) : allRL l = true ∧ ∀ x ∈ l, x.sz ≤ 4096 ∧ x.dp ≤ 200 := by
  obtain ⟨T, hT, hl, _⟩ := getT_ok h
  exact ⟨(allRL_iff l).2 fun x hx => (hT x (hl x hx)).1, fun x hx => ⟨(hT x (hl x hx)).2.1, (hT x (hl x hx)).2.2.1⟩⟩
/-- What GetTerms returns. -/
def GetP (s : ByteArray) (v : AV) : Prop :=
  (∃ l al t q, getT s.toList = some (l, s.toList.drop q) ∧ q ≤ s.size ∧ putT l = s.toList.take q ∧ v = .tup [.sl al t, .int (q : Nat), .int 0] ∧ LIs Tm.Is l al ∧ t.pure = true ∧ al.length ≤ 65536) ∨
  ((∀ l q, getT s.toList = some (l, s.toList.drop q) → q ≤ s.size → putT l ≠ s.toList.take q) ∧ v = .tup [.sl [] .nil, .int 0, .int 28])
/-- A bound on what would be put. -/
def PutB (s : ByteArray) : Prop := ∀ l r, getT s.toList = some (l, r) → (putT l).length ≤ entB ∧ (enterL [] l).length ≤ entB
theorem call_sl1 {f : FuncId} {al : List AV} {t : Tl} {PR : AV → Prop} (h : Out md pfs f [.sl al t.strip] PR fun _ => False) (hm : md f = .pure) (h1 : pureAVs al = true) (s : ASt) : ∃ v, PR v ∧ ∀ K KP, CW (run md pfs) md false s f [.sl al t] K KP () = K v s := by
  have hp : mapO (purify 20 s) [.sl al t] = some [.sl al t.strip] := by
    have : purify 20 s (.sl al t) = some (.sl al t.strip) := by
      rw [pz_sl, mapO_at h1]; rfl
    simp only [mapO, this]
  obtain ⟨v, hv, hc⟩ := h.callP hm hp
  refine ⟨v, hv, fun K KP => ?_⟩
  rw [hc, List.foldl_cons, List.foldl_nil, fr_sl h1]
theorem str_take {s : ByteArray} {l : List UInt8} {q : Nat} (hq : q ≤ s.size) : (strOf l = s.extract 0 q) ↔ l = s.toList.take q := by
  rw [extract_str s (Nat.zero_le _) hq, List.drop_zero, Nat.sub_zero]
  constructor
  · intro h
    have := congrArg ByteArray.toList h
    rwa [strOf_toList, strOf_toList] at this
  · rintro rfl; rfl
theorem pz_tup3 {s : ASt} {a b : Value} {al : List AV} {t : Tl} (h : pureAVs al = true) : purify 20 s (.tup [.sl al t, .v a, .v b]) = some (.tup [.sl al t.strip, .v a, .v b]) := by
  rw [pz_tup (n := 18)]
  simp only [mapO, pz_sl (n := 17), mapO_at h, purify_pure (n := 18) (pv_v (x := a)), purify_pure (n := 18) (pv_v (x := b)), Option.map_some]
theorem GetTerms_ret {s : ByteArray} (hs : s.size ≤ capB) (hP : PutB s) : Out md pfs 19 [.str s] (GetP s) fun _ => False := by
  refine out_of pf19_is (Nat.le_of_ble_eq_true rfl) ?_
  have hsh := getTerms1_sh (s := s) (i := 3) (o := 0) (H := [.cells false [.sl [] .nil]] ++ [c0, c0, rdr s 0]) (T := []) rfl rfl (by omega) hs
  obtain ⟨v, s2, ⟨s1, hs1, hs2⟩, hc⟩ := (read_sh (H0 := [.cells false [.sl [] .nil]]) rfl hsh (by
    rintro v s1 ⟨l, al, t, B, G, q, T', h1, h2, rfl, h4, _⟩
    rw [h4.eq]
    exact ⟨rfl, rfl, q, rfl⟩) (by
    rintro v s1 ⟨rfl, h1, x, B, q, G, T', rfl, h4⟩
    rw [h4.eq]
    exact ⟨rfl, rfl, rfl⟩)).callRet rfl
  have h0 := hs2 0 (by simp)
  obtain ⟨H2, T2⟩ := s2
  simp only at h0
  rcases hs1 with ⟨u, k', ⟨l, al, t, B, G, q, T', h1, h2, rfl, h4, h5, h6⟩, h3, rfl⟩ | ⟨⟨_, h1, _⟩, rfl⟩
  · have hB := h4.eq
    subst hB
    have hk : k' = q := by
      have : some (rdr s q) = some (rdr s k') := h3
      simp [rdr] at this; omega
    subst hk
    have h0' : H2[0]? = some (.cells false [.sl al t]) := h0
    have hpu := tmsPure h5
    obtain ⟨hA, hF⟩ := getT_allR h1
    obtain ⟨b1, b2⟩ := hP _ _ h1
    have hput : putR l = (putT l, 0) := by rw [putR, if_pos hA]
    obtain ⟨_, rfl, hp⟩ := call_sl1 (PutTerms_ret h5 (strip_pure2 t) h6 hF (fun _ => b1) (fun _ => b2)) rfl hpu ⟨H2, T2⟩
    rw [hput] at hp
    have hx0 : (((0 : Nat) : Int) ≤ (k' : Int)) = True := eq_true (by omega)
    have hle : ((k' : Int) ≤ (s.size : Int)) = True := eq_true (by omega)
    have h0k : (0 ≤ (k' : Int)) = True := eq_true (by omega)
    have hq : ∀ l' q, getT s.toList = some (l', s.toList.drop q) → q ≤ s.size → l' = l ∧ q = k' := fun l' q e hq => by
      rw [h1] at e
      simp only [Option.some.injEq, Prod.mk.injEq] at e
      have := congrArg List.length e.2
      rw [List.length_drop, List.length_drop, toList_len] at this
      exact ⟨e.1.symm, by omega⟩
    cases he : ((strOf (putT l)).toList == (s.extract 0 k').toList)
    · simp only [pf19, ↓wpre, wset, wcore, ne_eq, if_true, if_false, exists_eq_left', true_implies, false_implies, exists_const, exists_eq_right, binA, intA, loadA, storeA, pickC, setAt, mapO, argsE, X.isC, resA, oneA, unA, boundA, eqiA, eqsA, fillA, fillE, ASt.fz, strA, Nat.reduceEqDiff, Nat.reduceLT, ↓reduceIte, reduceCtorEq, Nat.reduceAdd, Nat.reduceLeDiff, Int.reduceBEq, Int.reduceBNe, Int.reduceLT, Int.reduceLE, Int.reduceGT, Int.reduceGE, Nat.reduceDiv, Nat.reduceMul, Nat.reduceBEq, Nat.reduceMod, Nat.reduceSub, hc, h0', hp, hle, hx0, h0k, he]
      refine Or.inr ⟨fun l' q e hq' hne => ?_, rfl⟩
      obtain ⟨rfl, rfl⟩ := hq l' q e hq'
      rw [(str_take hq').2 hne] at he
      simp at he
    · simp only [pf19, ↓wpre, wset, wcore, ne_eq, if_true, if_false, exists_eq_left', true_implies, false_implies, exists_const, exists_eq_right, binA, intA, loadA, storeA, pickC, setAt, mapO, argsE, X.isC, resA, oneA, unA, boundA, eqiA, eqsA, fillA, fillE, ASt.fz, strA, Nat.reduceEqDiff, Nat.reduceLT, ↓reduceIte, reduceCtorEq, Nat.reduceAdd, Nat.reduceLeDiff, Int.reduceBEq, Int.reduceBNe, Int.reduceLT, Int.reduceLE, Int.reduceGT, Int.reduceGE, Nat.reduceDiv, Nat.reduceMul, Nat.reduceBEq, Nat.reduceMod, Nat.reduceSub, hc, h0', hp, hle, hx0, h0k, he, pz_tup3 hpu]
      have he' : strOf (putT l) = s.extract 0 k' := by
        rw [str_eq] at he
        exact of_decide_eq_true he
      exact Or.inl ⟨l, al, _, k', h1, h2, (str_take h2).1 he', rfl, h5, strip_pure2 t, h6⟩
  · simp only [pf19, ↓wpre, wset, wcore, ne_eq, if_true, if_false, exists_eq_left', true_implies, false_implies, exists_const, exists_eq_right, binA, intA, loadA, storeA, pickC, setAt, mapO, argsE, X.isC, resA, oneA, unA, boundA, eqiA, eqsA, fillA, fillE, ASt.fz, strA, Nat.reduceEqDiff, Nat.reduceLT, ↓reduceIte, reduceCtorEq, Nat.reduceAdd, Nat.reduceLeDiff, Int.reduceBEq, Int.reduceBNe, Int.reduceLT, Int.reduceLE, Int.reduceGT, Int.reduceGE, Nat.reduceDiv, Nat.reduceMul, Nat.reduceBEq, Nat.reduceMod, Nat.reduceSub, hc]
    exact Or.inr ⟨fun l q h => (by rw [h1] at h; cases h), rfl⟩
end Go.Proofs.Eng
