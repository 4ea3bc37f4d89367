/- A row that refutes. No conditions beyond those in the theorems. -/
import Derived.Test.YtglembbmmnakaaaDoorF14
import Derived.Test.YtglembbmmnakaaaDoorG5
set_option linter.all false
set_option linter.deprecated false
set_option linter.unnecessarySimpa false
set_option linter.unusedVariables false
set_option linter.unusedSimpArgs false
set_option linter.defProp false
namespace Go.Proofs.Eng
open Go Go.Proofs
set_option maxRecDepth 100000
set_option maxHeartbeats 16000000
def badR (r : Rw) : Bool := decide (r.A.getD (r.A.length - 1) 0 > 0) && (r.A.take (r.A.length - 1)).all fun n => decide (n = 0)
theorem find_hit {α : Type} {P : α → Bool} : ∀ {l : List α} {j : Nat} {x : α}, (l.take j).any P = false → l[j]? = some x → P x = true → l.find? P = some x
  | [], _, _, _, h, _ => by simp at h
  | y :: l, 0, x, _, h, hp => by
    simp at h; subst h
    rw [List.find?_cons, hp]
  | y :: l, j + 1, x, h, hx, hp => by
    rw [List.take_succ_cons, List.any_cons, Bool.or_eq_false_iff] at h
    rw [List.find?_cons, h.1]
    exact find_hit h.2 (by simpa using hx) hp
theorem find_none {α : Type} {P : α → Bool} {l : List α} (h : l.any P = false) : l.find? P = none := by
  rw [List.find?_eq_none]
  intro x hx
  rw [List.any_eq_false] at h
  exact h x hx
/-- What the search of a refuting row tells. -/
def Refd (l : List Rw) (v : AV) : Prop := (∃ r u, l.find? badR = some r ∧ v = .tup [.sl (ints r.F) u, .bool true] ∧ u.pure = true) ∨ (l.find? badR = none ∧ v = .tup [.sl [] .nil, .bool false])
theorem refuting_ret {l : List Rw} {al : List AV} {t : Tl} {w m : Nat} (h : LIs RwIs l al) (ht : t.pure = true) (hE : ∀ r ∈ l, RowE w m r) (hl : l.length ≤ 500) (hw0 : 0 < w) (hw : w ≤ 9) : Out md pfs 35 [.sl al t] (Refd l) fun _ => False := by
  have hln := h.len
  have hall := h.all rwAgg
  refine out_of pf35_is (Nat.le_of_ble_eq_true rfl) ?_
  simp only [pf35, ↓wpre, wset, wcore, ne_eq, if_true, if_false, exists_eq_left', true_implies, false_implies, exists_const, exists_eq_right, binA, intA, loadA, storeA, pickC, setAt, mapO, argsE, X.isC, resA, oneA, unA, boundA, eqiA, eqsA, fillA, fillE, ASt.fz, strA, Nat.reduceEqDiff, Nat.reduceLT, ↓reduceIte, reduceCtorEq, Nat.reduceAdd, Nat.reduceLeDiff, Int.reduceBEq, Int.reduceBNe, Int.reduceLT, Int.reduceLE, Int.reduceGT, Int.reduceGE, Nat.reduceDiv, Nat.reduceMul, Nat.reduceBEq, Nat.reduceMod, Nat.reduceSub]
  refine W_loopE (fun k => al.length - k) (fun k E H T => E 0 = .sl al t ∧ E 7 = .sl al t ∧ E 8 = .int al.length ∧ E 9 = .int (k : Nat) ∧ k ≤ al.length ∧ (l.take k).any badR = false) ?_ 0 ⟨rfl, rfl, rfl, rfl, Nat.zero_le _, by simp⟩
  rintro k E H T ⟨e0, e7, e8, e9, hk, hany⟩
  rcases Nat.lt_or_ge k al.length with hlt | hge
  · have hdec : decide ((k : Int) < (al.length : Int)) = true := by simpa using hlt
    obtain ⟨r, c, g1, g2, g3, g4, g5, g6, g7, g8⟩ := h.get rwAgg hlt
    have hrE := hE r g3
    obtain ⟨tr, ur, hc, hr1, hr2⟩ := g8
    cases hc
    have hat := hrE.at (show w - 1 < w by omega)
    have hra := ints_all r.A
    have hrl := ints_len r.A
    have hlA := hrE.lA
    have hwr : IntKind.i64.wrap (((r.A.length : Nat) : Int) - 1) = ((w - 1 : Nat) : Int) := by rw [hlA, wrap_in (by unfold Eng.in64; omega)]; omega
    obtain ⟨tv, hv1, hv2⟩ := slice_some (es := 1) (l := ints r.A) (t := tr) (lo := 0) (hi := w - 1) (Nat.zero_le _) (by omega) hr1
    rw [List.drop_zero, ints_take] at hv2
    have hbd : (((w - 1 : Nat) : Int) ≤ ((r.A.length : Nat) : Int)) = True := eq_true (by omega)
    have hbad : badR r = (decide (r.A.getD (w - 1) 0 > 0) && (r.A.take (w - 1)).all fun n => decide (n = 0)) := by rw [badR, hlA]
    obtain ⟨_, rfl, c29⟩ := (gcd_ret (l := r.A.take (w - 1)) (t := tv) (by rw [List.length_take]; unfold lenB; omega) (fun n hn => by have := hrE.bA n (List.mem_of_mem_take hn); unfold limB at this; constructor <;> omega)).call rfl (by simp [pvs_cons, pvs_nil, pv_sl, hv1, ints_pure])
    cases c1 : decide (r.A.getD (w - 1) 0 > 0)
    · simp only [↓wpre, wset, wcore, ne_eq, if_true, if_false, exists_eq_left', true_implies, false_implies, exists_const, exists_eq_right, binA, intA, loadA, storeA, pickC, setAt, mapO, argsE, X.isC, resA, oneA, unA, boundA, eqiA, eqsA, fillA, fillE, ASt.fz, strA, Nat.reduceEqDiff, Nat.reduceLT, ↓reduceIte, reduceCtorEq, Nat.reduceAdd, Nat.reduceLeDiff, Int.reduceBEq, Int.reduceBNe, Int.reduceLT, Int.reduceLE, Int.reduceGT, Int.reduceGE, Nat.reduceDiv, Nat.reduceMul, Nat.reduceBEq, Nat.reduceMod, Nat.reduceSub, List.length_append, List.append_assoc, app_get_len, app_get_add, app_set_len, app_set_add, e0, e7, e8, e9, hdec, g4, hall, hrl, hwr, hat, hra, c1]
      exact EQ_in ⟨k + 1, by omega, e0, e7, e8, next_ixv (by unfold lenB; omega), by omega, any_step hany g1 (by rw [hbad, c1]; rfl)⟩
    · cases c2 : ((gcdL (r.A.take (w - 1)) : Nat) : Int) == 0
      · simp only [↓wpre, wset, wcore, ne_eq, if_true, if_false, exists_eq_left', true_implies, false_implies, exists_const, exists_eq_right, binA, intA, loadA, storeA, pickC, setAt, mapO, argsE, X.isC, resA, oneA, unA, boundA, eqiA, eqsA, fillA, fillE, ASt.fz, strA, Nat.reduceEqDiff, Nat.reduceLT, ↓reduceIte, reduceCtorEq, Nat.reduceAdd, Nat.reduceLeDiff, Int.reduceBEq, Int.reduceBNe, Int.reduceLT, Int.reduceLE, Int.reduceGT, Int.reduceGE, Nat.reduceDiv, Nat.reduceMul, Nat.reduceBEq, Nat.reduceMod, Nat.reduceSub, List.length_append, List.append_assoc, app_get_len, app_get_add, app_set_len, app_set_add, e0, e7, e8, e9, hdec, g4, hall, hrl, hwr, hat, hra, c1, hbd, hv2, c29, c2]
        exact EQ_in ⟨k + 1, by omega, e0, e7, e8, next_ixv (by unfold lenB; omega), by omega, any_step hany g1 (by rw [hbad, c1, ← check_all, c2]; rfl)⟩
      · simp only [↓wpre, wset, wcore, ne_eq, if_true, if_false, exists_eq_left', true_implies, false_implies, exists_const, exists_eq_right, binA, intA, loadA, storeA, pickC, setAt, mapO, argsE, X.isC, resA, oneA, unA, boundA, eqiA, eqsA, fillA, fillE, ASt.fz, strA, Nat.reduceEqDiff, Nat.reduceLT, ↓reduceIte, reduceCtorEq, Nat.reduceAdd, Nat.reduceLeDiff, Int.reduceBEq, Int.reduceBNe, Int.reduceLT, Int.reduceLE, Int.reduceGT, Int.reduceGE, Nat.reduceDiv, Nat.reduceMul, Nat.reduceBEq, Nat.reduceMod, Nat.reduceSub, List.length_append, List.append_assoc, app_get_len, app_get_add, app_set_len, app_set_add, e0, e7, e8, e9, hdec, g4, hall, hrl, hwr, hat, hra, c1, hbd, hv2, c29, c2]
        rw [purify_pure (by simp [pv_sl, hr2, ints_pure])]
        exact ⟨_, rfl, .inl ⟨r, ur, find_hit hany g1 (by rw [hbad, c1, ← check_all, c2]; rfl), rfl, hr2⟩⟩
  · have hdec : decide ((k : Int) < (al.length : Int)) = false := by simpa using hge
    simp only [↓wpre, wset, wcore, ne_eq, if_true, if_false, exists_eq_left', true_implies, false_implies, exists_const, exists_eq_right, binA, intA, loadA, storeA, pickC, setAt, mapO, argsE, X.isC, resA, oneA, unA, boundA, eqiA, eqsA, fillA, fillE, ASt.fz, strA, Nat.reduceEqDiff, Nat.reduceLT, ↓reduceIte, reduceCtorEq, Nat.reduceAdd, Nat.reduceLeDiff, Int.reduceBEq, Int.reduceBNe, Int.reduceLT, Int.reduceLE, Int.reduceGT, Int.reduceGE, Nat.reduceDiv, Nat.reduceMul, Nat.reduceBEq, Nat.reduceMod, Nat.reduceSub, e0, e7, e8, e9, hdec]
    exact .inr ⟨find_none (any_all hany (by omega)), rfl⟩
end Go.Proofs.Eng
