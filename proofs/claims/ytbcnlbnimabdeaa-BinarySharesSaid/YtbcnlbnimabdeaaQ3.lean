/- read: a reader is made, and a panic caught. No conditions beyond those in the theorems. -/
import Derived.Test.YtbcnlbnimabdeaaQ2
set_option linter.all false
set_option linter.deprecated false
set_option linter.unnecessarySimpa false
set_option linter.unusedVariables false
set_option linter.unusedSimpArgs false
set_option linter.defProp false
namespace Go.Proofs.Eng
open Go Go.Proofs
set_option maxRecDepth 100000
set_option maxHeartbeats 4000000
theorem leave_cons {call : Oracle} {res : List PR} {tm : List AV} {d : FuncId × List AV} {ds : List (FuncId × List AV)} {s : ASt} {p : Option AV} : leaveA call md pfs res ⟨tm, d :: ds, s⟩ p = match unwindA call md pfs (d :: ds) p s with
    | some (none, s) => (resA tm s res).map fun l => (.ret (oneA l), s)
    | some (some v, s) => some (.pan v, s)
    | none => none := by cases p <;> rfl
theorem unw_none {call : Oracle} {i j : Nat} {s : ASt} : unwindA call md pfs [(51, [.ptr i 0, .ptr j 0])] none s = some (none, s) := by
  simp only [unwindA, pf51_is, pf51, rcOf, List.length_cons, List.length_nil, Nat.zero_add, Nat.reduceAdd, Nat.reduceSub, List.replicate_succ, List.replicate_zero, List.cons_append, List.nil_append, execR, stepsR, stepA, opA, evX, put, wantedA, List.getElem?_cons_zero, List.getElem?_cons_succ, List.set_cons_zero, List.set_cons_succ, Option.map_some, eqiA, X.isC, if_true, Bool.xor_true, Bool.not_true, resA, List.isEmpty_nil, Option.isSome_some, Bool.and_true, rcEnd]
abbrev c0 : AObj := .cells false [.int 0]
theorem unw_some {call : Oracle} {i j : Nat} {H : List AObj} {T : List Nat} (hi : H[i]? = some c0) (hj : H[j]? = some c0) (hij : i ≠ j) : unwindA call md pfs [(51, [.ptr i 0, .ptr j 0])] (some failV) ⟨H, T⟩ = some (none, ⟨((H ++ [AObj.cells false []]).set i (.cells false [.int 0])).set j (.cells false [.int 28]), T⟩) := by
  have h1 := app_get_of hi [AObj.cells false []]
  have h2 : ((H ++ [AObj.cells false []]).set i (.cells false [.int 0]))[j]? = some c0 := by rw [List.getElem?_set_ne hij]; exact app_get_of hj _
  simp only [unwindA, pf51_is, pf51, rcOf, failV, List.length_cons, List.length_nil, Nat.zero_add, Nat.reduceAdd, Nat.reduceSub, List.replicate_succ, List.replicate_zero, List.cons_append, List.nil_append, execR, stepsR, stepA, opA, evX, put, wantedA, List.getElem?_cons_zero, List.getElem?_cons_succ, List.set_cons_zero, List.set_cons_succ, Option.map_some, eqiA, X.isC, if_true, Bool.xor_true, Bool.not_true, Bool.not_false, resA, List.isEmpty_nil, Option.isSome_some, Bool.and_true, rcEnd, unA, Option.bind_some, storeA, loadA, pickC, List.getElem?_concat_length, set_concat, cells_agg, cells_v, setAt, List.take_zero, List.drop_zero, List.all_cons, List.all_nil, onec_v, and_self, Nat.le_refl, h1, h2, List.drop_succ_cons, List.append_nil, List.head?_cons, List.drop_nil, Bool.true_and, Bool.xor_false, Nat.add_zero, Bool.false_eq_true, if_false]
theorem read_sh {g : FuncId} {caps : List AV} (hg : md g = .shared) {s : ByteArray} {H0 : List AObj} {T : List Nat} {PR PP : AV → ASt → Prop} (h : Sh md pfs g (.ptr (H0.length + 2) 0 :: caps) ⟨H0 ++ [c0, c0, rdr s 0], T⟩ PR PP)
    (hPR : ∀ v s1, PR v s1 → s1.H[H0.length]? = some c0 ∧ s1.H[H0.length + 1]? = some c0 ∧ ∃ k, s1.H[H0.length + 2]? = some (rdr s k)) (hPP : ∀ v s1, PP v s1 → v = failV ∧ s1.H[H0.length]? = some c0 ∧ s1.H[H0.length + 1]? = some c0) :
    Sh md pfs 32 [.str s, .fn g caps] ⟨H0, T⟩ (fun v s2 => ∃ s1, ((∃ u k, PR u s1 ∧ s1.H[H0.length + 2]? = some (rdr s k) ∧ v = .tup [.int (k : Nat), .int 0]) ∨ (PP failV s1 ∧ v = .tup [.int 0, .int 28])) ∧ (∀ i, i < H0.length → s2.H[i]? = s1.H[i]?)) fun _ _ => False := by
  have key := run_of_LW (md := md) pf32_is (args := [.str s, .fn g caps]) (s := ⟨H0, T⟩) (P := fun out s2 => ∃ v, out = .ret v ∧ pureAV v = true ∧ ∃ s1, ((∃ u k, PR u s1 ∧ s1.H[H0.length + 2]? = some (rdr s k) ∧ v = .tup [.int (k : Nat), .int 0]) ∨ (PP failV s1 ∧ v = .tup [.int 0, .int 28])) ∧ (∀ i, i < H0.length → s2.H[i]? = s1.H[i]?)) (Nat.le_of_ble_eq_true rfl) (by
    rw [show rdr s 0 = .cells false [.str s, .int 0] from rfl] at h
    rcases h.call hg with ⟨u, s1, hu, hc⟩ | ⟨u, s1, hu, hc⟩
    · obtain ⟨g1, g2, k, g3⟩ := hPR u s1 hu
      obtain ⟨H1, T1⟩ := s1
      simp only at g1 g2 g3
      have g4 := g3
      unfold rdr at g3
      have hs1 : ∀ x, (H1.set H0.length x)[H0.length + 1]? = some c0 := fun x => by rw [List.getElem?_set_ne (by omega)]; exact g2
      have hs2 : ∀ x y, ((H1.set H0.length x).set (H0.length + 1) y)[H0.length]? = some x := fun x y => by rw [List.getElem?_set_ne (by omega)]; exact get_set g1
      have hs3 : ∀ x y, ((H1.set H0.length x).set (H0.length + 1) y)[H0.length + 1]? = some y := fun x y => get_set (hs1 x)
      simp only [pf32, ↓wpre, wset, wcore, ne_eq, if_true, if_false, exists_eq_left', true_implies, false_implies, exists_const, exists_eq_right, binA, intA, loadA, storeA, pickC, setAt, mapO, argsE, X.isC, resA, oneA, unA, boundA, eqiA, eqsA, fillA, fillE, ASt.fz, strA, Nat.reduceEqDiff, Nat.reduceLT, ↓reduceIte, reduceCtorEq, Nat.reduceAdd, Nat.reduceLeDiff, Int.reduceBEq, Int.reduceBNe, Int.reduceLT, Int.reduceLE, Int.reduceGT, Int.reduceGE, Nat.reduceDiv, Nat.reduceMul, Nat.reduceBEq, Nat.reduceMod, Nat.reduceSub, List.length_append, List.append_assoc, app_get_len, app_get_add, app_set_len, app_set_add, hc, g1, g3, hs1, hs2, hs3, LW_ret, leave_cons, unw_none]
      exact ⟨_, rfl, rfl, _, .inl ⟨u, k, hu, g4, rfl⟩, fun i hi => by rw [List.getElem?_set_ne (by omega), List.getElem?_set_ne (by omega)]⟩
    · obtain ⟨rfl, g1, g2⟩ := hPP u s1 hu
      obtain ⟨H1, T1⟩ := s1
      simp only at g1 g2
      have hlt := lt_of_get g2
      have hs2 : ∀ x y Z, (((H1 ++ Z).set H0.length x).set (H0.length + 1) y)[H0.length]? = some x := fun x y Z => by rw [List.getElem?_set_ne (by omega)]; exact get_set (app_get_of g1 Z)
      have hs3 : ∀ x y Z, (((H1 ++ Z).set H0.length x).set (H0.length + 1) y)[H0.length + 1]? = some y := fun x y Z => get_set (c := c0) (by rw [List.getElem?_set_ne (by omega)]; exact app_get_of g2 Z)
      simp only [pf32, ↓wpre, wset, wcore, ne_eq, if_true, if_false, exists_eq_left', true_implies, false_implies, exists_const, exists_eq_right, binA, intA, loadA, storeA, pickC, setAt, mapO, argsE, X.isC, resA, oneA, unA, boundA, eqiA, eqsA, fillA, fillE, ASt.fz, strA, Nat.reduceEqDiff, Nat.reduceLT, ↓reduceIte, reduceCtorEq, Nat.reduceAdd, Nat.reduceLeDiff, Int.reduceBEq, Int.reduceBNe, Int.reduceLT, Int.reduceLE, Int.reduceGT, Int.reduceGE, Nat.reduceDiv, Nat.reduceMul, Nat.reduceBEq, Nat.reduceMod, Nat.reduceSub, List.length_append, List.append_assoc, app_get_len, app_get_add, app_set_len, app_set_add, hc, LW_pan, leave_cons, unw_some g1 g2 (by omega), hs2, hs3]
      exact ⟨_, rfl, rfl, _, .inr ⟨hu, rfl⟩, fun i hi => by rw [List.getElem?_set_ne (by omega), List.getElem?_set_ne (by omega), List.getElem?_append_left (by omega)]⟩)
  obtain ⟨out, s2, hr, v, rfl, hv, h2⟩ := key
  exact ⟨_, _, .ret v, hr, by simp only [Outc.purify, purify20 hv, Option.map_some], by simpa only [Outc.frz, fr_pure hv] using h2⟩
theorem getNumber1_sh {s : ByteArray} {r o : Nat} {H : List AObj} {T : List Nat} (hr : H[r]? = some (rdr s 0)) (ho : H[o]? = some c0) (hro : r ≠ o) (hs : s.size ≤ capB) :
    Sh md pfs 33 [.ptr r 0, .ptr o 0] ⟨H, T⟩ (fun _ s' => ∃ n k, getN s.toList = some (n, k) ∧ s' = ⟨(H.set r (rdr s k)).set o (.cells false [.int (n : Nat)]), T⟩) (fun v s' => getN s.toList = none ∧ v = failV ∧ ∃ k, s' = ⟨H.set r (rdr s k), T⟩) := by
  refine sh_of pf33_is (Nat.le_of_ble_eq_true rfl) ?_
  rcases (number_sh hr (Nat.zero_le _) hs (T := T)).call rfl with ⟨_, _, ⟨n, k, h1, rfl, rfl⟩, hc⟩ | ⟨_, _, ⟨h1, rfl, k, rfl, _⟩, hc⟩
  · rw [List.drop_zero] at h1
    have ho2 : ∀ x, (H.set r x)[o]? = some c0 := fun x => by rw [List.getElem?_set_ne hro]; exact ho
    simp only [pf33, ↓wpre, wset, wcore, ne_eq, if_true, if_false, exists_eq_left', true_implies, false_implies, exists_const, exists_eq_right, binA, intA, loadA, storeA, pickC, setAt, mapO, argsE, X.isC, resA, oneA, unA, boundA, eqiA, eqsA, fillA, fillE, ASt.fz, strA, Nat.reduceEqDiff, Nat.reduceLT, ↓reduceIte, reduceCtorEq, Nat.reduceAdd, Nat.reduceLeDiff, Int.reduceBEq, Int.reduceBNe, Int.reduceLT, Int.reduceLE, Int.reduceGT, Int.reduceGE, Nat.reduceDiv, Nat.reduceMul, Nat.reduceBEq, Nat.reduceMod, Nat.reduceSub, hc, ho2, Nat.zero_add]
    exact ⟨n, k, h1, rfl⟩
  · rw [List.drop_zero] at h1
    simp only [pf33, ↓wpre, wset, wcore, ne_eq, if_true, if_false, exists_eq_left', true_implies, false_implies, exists_const, exists_eq_right, binA, intA, loadA, storeA, pickC, setAt, mapO, argsE, X.isC, resA, oneA, unA, boundA, eqiA, eqsA, fillA, fillE, ASt.fz, strA, Nat.reduceEqDiff, Nat.reduceLT, ↓reduceIte, reduceCtorEq, Nat.reduceAdd, Nat.reduceLeDiff, Int.reduceBEq, Int.reduceBNe, Int.reduceLT, Int.reduceLE, Int.reduceGT, Int.reduceGE, Nat.reduceDiv, Nat.reduceMul, Nat.reduceBEq, Nat.reduceMod, Nat.reduceSub, hc, SQ_pan, pz_fail, fr_fail]
    exact ⟨h1, k, rfl⟩
/-- GetNumber's results. -/
def getNumR (s : ByteArray) : AV := match getN s.toList with
  | some (n, k) => .tup [.int (n : Nat), .int (k : Nat), .int 0]
  | none => .tup [.int 0, .int 0, .int 28]
theorem GetNumber_ret {s : ByteArray} (hs : s.size ≤ capB) : Out md pfs 15 [.str s] (· = getNumR s) fun _ => False := by
  refine out_of pf15_is (Nat.le_of_ble_eq_true rfl) ?_
  have hsh := getNumber1_sh (s := s) (r := 3) (o := 0) (H := [c0] ++ [c0, c0, rdr s 0]) (T := []) rfl rfl (by omega) hs
  obtain ⟨v, s2, ⟨s1, hs1, hs2⟩, hc⟩ := (read_sh (H0 := [c0]) rfl hsh (by
    rintro v s1 ⟨n, k, h1, rfl⟩
    exact ⟨rfl, rfl, k, rfl⟩) (by
    rintro v s1 ⟨h1, rfl, k, rfl⟩
    exact ⟨rfl, rfl, rfl⟩)).callRet rfl
  have h0 := hs2 0 (by simp)
  obtain ⟨H2, T2⟩ := s2
  simp only at h0
  rcases hs1 with ⟨u, k', ⟨n, k, h1, rfl⟩, h3, rfl⟩ | ⟨⟨h1, _, k, rfl⟩, rfl⟩
  · have hk : k' = k := by
      have : some (rdr s k) = some (rdr s k') := h3
      simp [rdr] at this; omega
    subst hk
    have h0' : H2[0]? = some (.cells false [.int (n : Nat)]) := h0
    simp only [pf15, ↓wpre, wset, wcore, ne_eq, if_true, if_false, exists_eq_left', true_implies, false_implies, exists_const, exists_eq_right, binA, intA, loadA, storeA, pickC, setAt, mapO, argsE, X.isC, resA, oneA, unA, boundA, eqiA, eqsA, fillA, fillE, ASt.fz, strA, Nat.reduceEqDiff, Nat.reduceLT, ↓reduceIte, reduceCtorEq, Nat.reduceAdd, Nat.reduceLeDiff, Int.reduceBEq, Int.reduceBNe, Int.reduceLT, Int.reduceLE, Int.reduceGT, Int.reduceGE, Nat.reduceDiv, Nat.reduceMul, Nat.reduceBEq, Nat.reduceMod, Nat.reduceSub, hc, h0']
    simp only [getNumR, h1]
  · simp only [pf15, ↓wpre, wset, wcore, ne_eq, if_true, if_false, exists_eq_left', true_implies, false_implies, exists_const, exists_eq_right, binA, intA, loadA, storeA, pickC, setAt, mapO, argsE, X.isC, resA, oneA, unA, boundA, eqiA, eqsA, fillA, fillE, ASt.fz, strA, Nat.reduceEqDiff, Nat.reduceLT, ↓reduceIte, reduceCtorEq, Nat.reduceAdd, Nat.reduceLeDiff, Int.reduceBEq, Int.reduceBNe, Int.reduceLT, Int.reduceLE, Int.reduceGT, Int.reduceGE, Nat.reduceDiv, Nat.reduceMul, Nat.reduceBEq, Nat.reduceMod, Nat.reduceSub, hc]
    simp only [getNumR, h1]
end Go.Proofs.Eng
