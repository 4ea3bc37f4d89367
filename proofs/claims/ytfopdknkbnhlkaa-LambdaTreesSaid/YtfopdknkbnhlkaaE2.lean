/- E2: what functions of the program return. No conditions beyond those in the theorems. -/
import Derived.Test.YtfopdknkbnhlkaaE1
import Derived.Test.YtfopdknkbnhlkaaP1
set_option linter.all false
set_option linter.deprecated false
set_option linter.unnecessarySimpa false
set_option linter.unusedVariables false
set_option linter.unusedSimpArgs false
set_option linter.defProp false
namespace Go.Proofs.Eng
open Go Go.Proofs
set_option maxRecDepth 100000
theorem set_same {α : Type} {H : List α} {i : Nat} {x : α} (h : H[i]? = some x) : H.set i x = H := by
  apply List.ext_getElem?
  intro n
  rw [List.getElem?_set]
  split
  · rename_i e; subst e
    have := lt_of_get h
    simp [this] at h ⊢
    exact h.symm
  · rfl
theorem reverse_sh {al : List AV} (hR : Rows5 5 al) (hl : al.length ≤ capB) {bi : Nat} {H : List AObj} {T : List Nat} (hH : H[bi]? = some (.cells false (flat al))) :
    Sh md pfs 89 [.bs bi 0 al.length 5 true] ⟨H, T⟩ (fun v s' => v = .tup [] ∧ s' = ⟨H.set bi (.cells false (flat al.reverse)), T⟩) fun _ _ => False := by
  have hlt := lt_of_get hH
  unfold capB at hl
  refine sh_of pf89_is (Nat.le_of_ble_eq_true rfl) ?_
  have hw : IntKind.i64.wrap ((al.length : Int) - 1) = (al.length : Int) - 1 := wrap_small (by omega) (by omega)
  simp only [pf89, ↓wpre, wset, wcore, ne_eq, if_true, if_false, exists_eq_left', true_implies, false_implies, exists_const, exists_eq_right, binA, intA, loadA, storeA, pickC, setAt, mapO, argsE, X.isC, resA, oneA, unA, boundA, eqiA, eqsA, fillA, fillE, ASt.fz, strA, Nat.reduceEqDiff, Nat.reduceLT, ↓reduceIte, reduceCtorEq, Nat.reduceAdd, Nat.reduceLeDiff, Int.reduceBEq, Int.reduceBNe, Int.reduceLT, Int.reduceLE, Int.reduceGT, Int.reduceGE, Nat.reduceDiv, Nat.reduceMul, hw]
  refine W_loopE (fun i => al.length - i) (fun i E H' T' => ∃ cur, H' = H.set bi (.cells false (flat cur)) ∧ T' = T ∧ Rows5 5 cur ∧ cur.length = al.length ∧ E 0 = .bs bi 0 al.length 5 true ∧ E 2 = .int i ∧ E 3 = .int ((al.length : Int) - 1 - i) ∧ i ≤ al.length ∧ ∀ m, m < al.length → cur[m]? = if m < i ∨ al.length - i ≤ m then al[al.length - 1 - m]? else al[m]?) ?_ 0 ⟨al, (set_same hH).symm, rfl, hR, rfl, rfl, rfl, by simp [updE], Nat.zero_le _, fun m hm => by rw [if_neg (by omega)]⟩
  rintro i E H' T' ⟨cur, rfl, rfl, hc, hcl, e0, e2, e3, hi, hcur⟩
  by_cases hlt2 : (i : Int) < (al.length : Int) - 1 - i
  · have hdec : decide ((i : Int) < (al.length : Int) - 1 - i) = true := by simpa using hlt2
    have hj : (al.length : Int) - 1 - i = ((al.length - 1 - i : Nat) : Int) := by omega
    obtain ⟨c1, p1, p2, p3, p4, p5⟩ := rows_get hc (m := i) (by omega)
    obtain ⟨c2, q1, q2, q3, q4, q5⟩ := rows_get hc (m := al.length - 1 - i) (by omega)
    have hs1 := rows_set hc (m := i) (c := c2) (by omega) q2
    have hs2 := rows_set (hc.set i q2 q3) (m := al.length - 1 - i) (c := c1) (by rw [List.length_set]; omega) p2
    have hrl : (flat (cur.set i (.agg c2))).length = cur.length * 5 := by rw [rows_len (hc.set i q2 q3), List.length_set]
    have hrl2 : (al.length - 1 - i) * 5 + 5 ≤ (flat (cur.set i (.agg c2))).length := by rw [hrl]; omega
    unfold setAt at hs1 hs2
    rw [q2] at hs1
    rw [p2] at hs2
    have hlt3 : (i : Int) < al.length := by omega
    have hlt4 : ((al.length - 1 - i : Nat) : Int) < al.length := by omega
    have hg : (H.set bi (.cells false (flat cur)))[bi]? = some (.cells false (flat cur)) := List.getElem?_set_self hlt
    have hg2 : (H.set bi (.cells false (flat (cur.set i (.agg c2)))))[bi]? = some (.cells false (flat (cur.set i (.agg c2)))) := List.getElem?_set_self hlt
    have hw1 : IntKind.i64.wrap (((al.length - 1 - i : Nat) : Int) - 1) = (al.length : Int) - 1 - (i + 1 : Nat) := by rw [wrap_small (by omega) (by omega)]; omega
    rw [hj] at e3 hdec
    simp only [↓wpre, wset, wcore, ne_eq, if_true, if_false, exists_eq_left', true_implies, false_implies, exists_const, exists_eq_right, binA, intA, loadA, storeA, pickC, setAt, mapO, argsE, X.isC, resA, oneA, unA, boundA, eqiA, eqsA, fillA, fillE, ASt.fz, strA, Nat.reduceEqDiff, Nat.reduceLT, ↓reduceIte, reduceCtorEq, Nat.reduceAdd, Nat.reduceLeDiff, Int.reduceBEq, Int.reduceBNe, Int.reduceLT, Int.reduceLE, Int.reduceGT, Int.reduceGE, Nat.reduceDiv, Nat.reduceMul, e0, e2, e3, hdec, hg, hg2, p2, p3, p4, p5, q2, q3, q4, q5, hlt3, hlt4, hs1, hs2, hrl2, List.set_set, hw1]
    refine ⟨by rw [List.length_drop]; omega, by rw [List.length_drop]; omega, EQ_in ⟨i + 1, by omega, (cur.set i (.agg c2)).set (al.length - 1 - i) (.agg c1), rfl, rfl, (hc.set i q2 q3).set _ p2 p3, by simp [hcl], e0, next_ixv (by unfold lenB; omega), rfl, by omega, fun m hm => ?_⟩⟩
    have a1 := hcur i (by omega)
    have a2 := hcur (al.length - 1 - i) (by omega)
    rw [if_neg (by omega)] at a1 a2
    rw [p1] at a1
    rw [q1] at a2
    rw [List.getElem?_set, List.getElem?_set]
    by_cases h1 : al.length - 1 - i = m
    · subst h1
      rw [if_pos rfl, if_pos (by rw [List.length_set]; omega), if_pos (by omega), a1]
      congr 1; omega
    · rw [if_neg h1]
      by_cases h2 : i = m
      · subst h2
        rw [if_pos rfl, if_pos (by omega), if_pos (by omega), a2]
      · rw [if_neg h2, hcur m hm]
        by_cases h3 : m < i ∨ al.length - i ≤ m
        · rw [if_pos h3, if_pos (by omega)]
        · rw [if_neg h3, if_neg (by omega)]
  · have hdec : decide ((i : Int) < (al.length : Int) - 1 - i) = false := by simpa using hlt2
    have : cur = al.reverse := by
      apply List.ext_getElem?
      intro m
      by_cases hm : m < al.length
      · rw [hcur m hm, List.getElem?_reverse hm]
        by_cases h3 : m < i ∨ al.length - i ≤ m
        · rw [if_pos h3]
        · rw [if_neg h3]; congr 1; omega
      · rw [List.getElem?_eq_none (by omega), List.getElem?_eq_none (by rw [List.length_reverse]; omega)]
    subst this
    simp only [↓wpre, wset, wcore, ne_eq, if_true, if_false, exists_eq_left', true_implies, false_implies, exists_const, exists_eq_right, binA, intA, loadA, storeA, pickC, setAt, mapO, argsE, X.isC, resA, oneA, unA, boundA, eqiA, eqsA, fillA, fillE, ASt.fz, strA, Nat.reduceEqDiff, Nat.reduceLT, ↓reduceIte, reduceCtorEq, Nat.reduceAdd, Nat.reduceLeDiff, Int.reduceBEq, Int.reduceBNe, Int.reduceLT, Int.reduceLE, Int.reduceGT, Int.reduceGE, Nat.reduceDiv, Nat.reduceMul, e0, e2, e3, hdec]
/-- What becomes of a node whose strict kids are values. -/
def Ex.red : Ex → Except Int Ex
  | .mk k _ _ s kids =>
    if k = 7 then .ok ((kids.getD 1 .zero).subst (kids.take 1))
    else if k = 4 then (if (kids.getD 0 .zero).k = 3 ∧ (kids.getD 0 .zero).i < s.length ∧ ((kids.getD 0 .zero).kids.length : Int) = s.getD (kids.getD 0 .zero).i.toNat 0 then .ok ((kids.getD (1 + (kids.getD 0 .zero).i.toNat) .zero).subst (kids.getD 0 .zero).kids.reverse) else .error 10)
    else if k = 2 ∧ (kids.getD 0 .zero).k = 1 then .ok (((kids.getD 0 .zero).kids.getD 0 .zero).subst (kids.drop 1))
    else if (k = 9 ∨ k = 10) ∧ (kids.getD 0 .zero).k = 8 then .ok ((kids.getD 0 .zero).kids.getD (k - 9).toNat .zero)
    else if (kids.getD 0 .zero).k = 6 then .ok (kids.getD 0 .zero) else .error 10
end Go.Proofs.Eng
