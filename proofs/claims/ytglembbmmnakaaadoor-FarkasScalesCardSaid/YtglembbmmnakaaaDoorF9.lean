/- join and divide. No conditions beyond those in the theorems. -/
import Derived.Test.YtglembbmmnakaaaDoorW0
import Derived.Test.YtglembbmmnakaaaDoorF6
set_option linter.all false
set_option linter.deprecated false
set_option linter.unnecessarySimpa false
set_option linter.unusedVariables false
set_option linter.unusedSimpArgs false
set_option linter.defProp false
namespace Go.Proofs.Eng
open Go Go.Proofs
set_option maxRecDepth 100000
set_option maxHeartbeats 16000000
theorem set_same {α : Type} {l : List α} {i : Nat} {x : α} (h : l[i]? = some x) : l.set i x = l := by
  apply List.ext_getElem?
  intro j
  rw [List.getElem?_set]
  by_cases e : i = j
  · subst e
    have := (List.getElem?_eq_some_iff.1 h).1
    rw [h]; simp [this]
  · rw [if_neg e]
theorem join_own {a b : List Int} {t u : Tl} {p q : Int} (hab : a.length = b.length) (hl : a.length ≤ 1000) (hr : ∀ x ∈ a, ∀ y ∈ b, in64 (p * x) ∧ in64 (q * y) ∧ in64 (p * x + q * y)) (ht : t.pure = true) (hu : u.pure = true) (idx : Nat) : makeC (run md pfs) md idx 52 (some [.sl (ints a) t, .sl (ints b) u, .int p, .int q]) = some (.bs idx 0 a.length 1 false, .cells false (ints (addM p q a b))) := by
  refine Rwc.make (rw_of pf52_is (Nat.le_of_ble_eq_true rfl) ?_) rfl (by simp [pvs_cons, pvs_nil, pv_sl, ht, hu, ints_pure, pv_v]) (ints_sc _) idx
  have hm : (0 : Int) ≤ (((ints a).length : Nat) : Int) ∧ (((ints a).length : Nat) : Int) ≤ 1073741824 := by rw [ints_len]; omega
  have htn : (((ints a).length : Nat) : Int).toNat = a.length := by rw [ints_len, Int.toNat_natCast]
  have hAl : (addM p q a b).length = (List.replicate a.length (0 : Int)).length := by rw [addM_len hab, List.length_replicate]
  simp only [pf52, ↓wpre, wset, wcore, ne_eq, if_true, if_false, exists_eq_left', true_implies, false_implies, exists_const, exists_eq_right, binA, intA, loadA, storeA, pickC, setAt, mapO, argsE, X.isC, resA, oneA, unA, boundA, eqiA, eqsA, fillA, fillE, ASt.fz, strA, Nat.reduceEqDiff, Nat.reduceLT, ↓reduceIte, reduceCtorEq, Nat.reduceAdd, Nat.reduceLeDiff, Int.reduceBEq, Int.reduceBNe, Int.reduceLT, Int.reduceLE, Int.reduceGT, Int.reduceGE, Nat.reduceDiv, Nat.reduceMul, Nat.reduceBEq, Nat.reduceMod, Nat.reduceSub, AQ_ret, AQ_normal, hm, htn, flat_rep]
  refine W_loopE (fun k => a.length - k) (fun k E H T => H = [.cells false (ints (mid k (addM p q a b) (List.replicate a.length 0)))] ∧ E 0 = .sl (ints a) t ∧ E 1 = .sl (ints b) u ∧ E 2 = .int p ∧ E 3 = .int q ∧ E 9 = .bs 0 0 a.length 1 false ∧ E 15 = .int a.length ∧ E 16 = .int (k : Nat) ∧ k ≤ a.length) ?_ 0 ⟨by simp [mid], rfl, rfl, rfl, rfl, rfl, by show AV.int _ = _; rw [ints_len], rfl, Nat.zero_le _⟩
  rintro k E H T ⟨rfl, e0, e1, e2, e3, e9, e15, e16, hk⟩
  rcases Nat.lt_or_ge k a.length with hkl | hkg
  · have hdec : decide ((k : Int) < (a.length : Int)) = true := by simpa using hkl
    obtain ⟨x, q1, _, q3⟩ := ints_get hkl
    obtain ⟨y, r1, _, r3⟩ := ints_get (show k < b.length by omega)
    have ha := ints_all a
    have hb := ints_all b
    obtain ⟨w1, w2, w3⟩ := hr x (List.mem_of_getElem? q1) y (List.mem_of_getElem? r1)
    have x1 := wrap_in w1
    have x2 := wrap_in w2
    have x3 := wrap_in w3
    have hml : (ints (mid k (addM p q a b) (List.replicate a.length 0))).length = a.length := by rw [ints_len, mid_len hAl, List.length_replicate]
    have hav : (addM p q a b)[k]? = some (p * x + q * y) := by rw [addM, List.getElem?_zipWith, q1, r1]
    have hkw : ((k : Int) < (a.length : Int)) = True := eq_true (by omega)
    have hset := mid_set hAl (by rw [List.length_replicate]; exact hkl) hav
    simp only [↓wpre, wset, wcore, ne_eq, if_true, if_false, exists_eq_left', true_implies, false_implies, exists_const, exists_eq_right, binA, intA, loadA, storeA, pickC, setAt, mapO, argsE, X.isC, resA, oneA, unA, boundA, eqiA, eqsA, fillA, fillE, ASt.fz, strA, Nat.reduceEqDiff, Nat.reduceLT, ↓reduceIte, reduceCtorEq, Nat.reduceAdd, Nat.reduceLeDiff, Int.reduceBEq, Int.reduceBNe, Int.reduceLT, Int.reduceLE, Int.reduceGT, Int.reduceGE, Nat.reduceDiv, Nat.reduceMul, Nat.reduceBEq, Nat.reduceMod, Nat.reduceSub, e0, e1, e2, e3, e9, e15, e16, hdec, q3, r3, ha, hb, x1, x2, x3, hml, hkw, Nat.mul_one]
    refine ⟨by omega, EQ_in ⟨k + 1, by omega, ?_, e0, e1, e2, e3, e9, e15, next_ixv (by unfold lenB; omega), by omega⟩⟩
    rw [← hset, ints_app, ← ints_take]
    simp [ints]
  · have hdec : decide ((k : Int) < (a.length : Int)) = false := by simpa using hkg
    obtain rfl : k = a.length := by omega
    have hf := mid_full hAl
    rw [List.length_replicate] at hf
    simp only [↓wpre, wset, wcore, ne_eq, if_true, if_false, exists_eq_left', true_implies, false_implies, exists_const, exists_eq_right, binA, intA, loadA, storeA, pickC, setAt, mapO, argsE, X.isC, resA, oneA, unA, boundA, eqiA, eqsA, fillA, fillE, ASt.fz, strA, Nat.reduceEqDiff, Nat.reduceLT, ↓reduceIte, reduceCtorEq, Nat.reduceAdd, Nat.reduceLeDiff, Int.reduceBEq, Int.reduceBNe, Int.reduceLT, Int.reduceLE, Int.reduceGT, Int.reduceGE, Nat.reduceDiv, Nat.reduceMul, Nat.reduceBEq, Nat.reduceMod, Nat.reduceSub, AQ_ret, AQ_normal, e0, e1, e2, e3, e9, e15, e16, hdec, hf]
theorem divide_raw {i : Nat} {l : List Int} {d : Int} {H : List AObj} {T : List Nat} (hi : H[i]? = some (.cells false (ints l))) (hd : 0 < d) (hl : l.length ≤ 1000) (hb : Bnd 9223372036854775807 l) : Rwc 53 [.bs i 0 l.length 1 false, .int d] ⟨H, T⟩ (fun _ s => s = ⟨H.set i (.cells false (ints (l.map (·.tdiv d)))), T⟩) := by
  refine rw_of pf53_is (Nat.le_of_ble_eq_true rfl) ?_
  have hAl : (l.map (·.tdiv d)).length = l.length := by simp
  have hil : i < H.length := (List.getElem?_eq_some_iff.1 hi).1
  simp only [pf53, ↓wpre, wset, wcore, ne_eq, if_true, if_false, exists_eq_left', true_implies, false_implies, exists_const, exists_eq_right, binA, intA, loadA, storeA, pickC, setAt, mapO, argsE, X.isC, resA, oneA, unA, boundA, eqiA, eqsA, fillA, fillE, ASt.fz, strA, Nat.reduceEqDiff, Nat.reduceLT, ↓reduceIte, reduceCtorEq, Nat.reduceAdd, Nat.reduceLeDiff, Int.reduceBEq, Int.reduceBNe, Int.reduceLT, Int.reduceLE, Int.reduceGT, Int.reduceGE, Nat.reduceDiv, Nat.reduceMul, Nat.reduceBEq, Nat.reduceMod, Nat.reduceSub, AQ_ret, AQ_normal]
  refine W_loopE (fun k => l.length - k) (fun k E H' T' => H' = H.set i (.cells false (ints (mid k (l.map (·.tdiv d)) l))) ∧ T' = T ∧ E 0 = .bs i 0 l.length 1 false ∧ E 1 = .int d ∧ E 6 = .int l.length ∧ E 7 = .int (k : Nat) ∧ k ≤ l.length) ?_ 0 ⟨by rw [show mid 0 (l.map (·.tdiv d)) l = l by simp [mid], set_same hi], rfl, rfl, rfl, rfl, rfl, Nat.zero_le _⟩
  rintro k E H' T' ⟨rfl, rfl, e0, e1, e6, e7, hk⟩
  rcases Nat.lt_or_ge k l.length with hkl | hkg
  · have hdec : decide ((k : Int) < (l.length : Int)) = true := by simpa using hkl
    have hs1 : l[k]? = some l[k] := List.getElem?_eq_getElem hkl
    have hx := hb l[k] (List.getElem_mem _)
    have habs := Int.natAbs_tdiv_le_natAbs l[k] d
    have x1 : IntKind.i64.wrap (l[k].tdiv d) = l[k].tdiv d := wrap_in (by unfold in64; omega)
    have h1 : (d = 0) = False := by simp; omega
    have hM := mid_get (k := k) hAl hkl
    have hdg := drop_get (hM.trans hs1)
    have hml : (ints (mid k (l.map (·.tdiv d)) l)).length = l.length := by rw [ints_len, mid_len hAl]
    have hav : (l.map (·.tdiv d))[k]? = some (l[k].tdiv d) := by rw [List.getElem?_map, hs1]; rfl
    have hset := mid_set hAl hkl hav
    have hkw : ((k : Int) < (l.length : Int)) = True := eq_true (by omega)
    have hg : (H.set i (.cells false (ints (mid k (l.map (·.tdiv d)) l))))[i]? = some (.cells false (ints (mid k (l.map (·.tdiv d)) l))) := by rw [List.getElem?_set]; simp [hil]
    simp only [↓wpre, wset, wcore, ne_eq, if_true, if_false, exists_eq_left', true_implies, false_implies, exists_const, exists_eq_right, binA, intA, loadA, storeA, pickC, setAt, mapO, argsE, X.isC, resA, oneA, unA, boundA, eqiA, eqsA, fillA, fillE, ASt.fz, strA, Nat.reduceEqDiff, Nat.reduceLT, ↓reduceIte, reduceCtorEq, Nat.reduceAdd, Nat.reduceLeDiff, Int.reduceBEq, Int.reduceBNe, Int.reduceLT, Int.reduceLE, Int.reduceGT, Int.reduceGE, Nat.reduceDiv, Nat.reduceMul, Nat.reduceBEq, Nat.reduceMod, Nat.reduceSub, e0, e1, e6, e7, hdec, hg, hdg, hml, x1, h1, hkw, Nat.mul_one, List.head?_cons]
    refine ⟨by omega, EQ_in ⟨k + 1, by omega, ?_, rfl, e0, e1, e6, next_ixv (by unfold lenB; omega), by omega⟩⟩
    rw [List.set_set, ← hset, ints_app, ← ints_take]
    simp [ints]
  · have hdec : decide ((k : Int) < (l.length : Int)) = false := by simpa using hkg
    obtain rfl : k = l.length := by omega
    have hf := mid_full hAl
    simp only [↓wpre, wset, wcore, ne_eq, if_true, if_false, exists_eq_left', true_implies, false_implies, exists_const, exists_eq_right, binA, intA, loadA, storeA, pickC, setAt, mapO, argsE, X.isC, resA, oneA, unA, boundA, eqiA, eqsA, fillA, fillE, ASt.fz, strA, Nat.reduceEqDiff, Nat.reduceLT, ↓reduceIte, reduceCtorEq, Nat.reduceAdd, Nat.reduceLeDiff, Int.reduceBEq, Int.reduceBNe, Int.reduceLT, Int.reduceLE, Int.reduceGT, Int.reduceGE, Nat.reduceDiv, Nat.reduceMul, Nat.reduceBEq, Nat.reduceMod, Nat.reduceSub, AQ_ret, AQ_normal, e0, e1, e6, e7, hdec, hf]
    exact ⟨_, rfl⟩
end Go.Proofs.Eng
