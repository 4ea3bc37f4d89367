/- Levels are appended, and encoded by the reference. No conditions beyond those in the theorems. -/
import Derived.Test.YtbcnlbnimabdeaaT7
import Derived.Test.YtbcnlbnimabdeaaQ5
set_option linter.all false
set_option linter.deprecated false
set_option linter.unnecessarySimpa false
set_option linter.unusedVariables false
set_option linter.unusedSimpArgs false
set_option linter.defProp false
namespace Go.Proofs.Eng
open Go Go.Proofs
set_option maxRecDepth 100000
set_option maxHeartbeats 8000000
theorem valid_nat {l : Lv} (h : validB l = true) : ∃ c : Nat, l.c = c ∧ c ≤ 100 ∧ l.vs.length ≤ mostN ∧ ∀ v ∈ l.vs, ∃ a b : Nat, v = ((a : Int) - 65536, (b : Int)) ∧ a < 65544 ∧ b ≤ 100 := by
  obtain ⟨⟨h1, h2⟩, h3, h4⟩ := valid_fine h
  refine ⟨l.c.toNat, by omega, by omega, valid_len h, fun v hv => ⟨(v.1 + 65536).toNat, v.2.toNat, ?_, ?_, ?_⟩⟩
  · have := h2 v hv; have := h4 v hv
    obtain ⟨x, y⟩ := v
    simp only [Prod.mk.injEq]; simp only at *; omega
  · have := h2 v hv; have := h4 v hv; omega
  · have := h2 v hv; have := h4 v hv; omega
theorem encV_nat (a b : Nat) : encV ((a : Int) - 65536, (b : Int)) = encN a ++ encN b := by
  unfold encV
  rw [show ((((a : Int) - 65536, (b : Int)) : Int × Int).1 + 65536).toNat = a by simp only; omega]
  rfl
theorem flat_step {α : Type} {f : α → List UInt8} {l : List α} {j : Nat} {x : α} (h : l[j]? = some x) : (l.take (j + 1)).flatMap f = (l.take j).flatMap f ++ f x := by
  rw [List.take_add_one, h, List.flatMap_append]; simp
theorem flat_le {α : Type} {f : α → List UInt8} {l : List α} {j : Nat} {x : α} (h : l[j]? = some x) : ((l.take j).flatMap f).length + (f x).length ≤ (l.flatMap f).length := by
  have := flat_step (f := f) h
  have h2 : l.flatMap f = (l.take (j + 1)).flatMap f ++ (l.drop (j + 1)).flatMap f := by rw [← List.flatMap_append, List.take_append_drop]
  rw [h2, this]; simp
theorem appendLevel_rw {b : List UInt8} {l : Lv} {a : AV} (h : l.Is a) (hv : validB l = true) (hb : b.length + (encL l).length + 9 ≤ capB) {H : List AObj} {T : List Nat} {t : Tl} (hA : App T (bytes b) t) :
    Rw 54 [.sl (bytes b) t, a] ⟨H, T⟩ fun v s => ∃ t' T' G, v = .sl (bytes (b ++ encL l)) t' ∧ s = ⟨H ++ G, T'⟩ ∧ App T' (bytes (b ++ encL l)) t' ∧ Oth T t T' t' := by
  obtain ⟨c, hc, hc2, hvl, hvs⟩ := valid_nat hv
  obtain ⟨tv, al, rfl, g1, g2, g3, g4⟩ := h
  have hl := g4.len
  rw [hc]
  have hE : encL l = encN c ++ (encN l.vs.length ++ l.vs.flatMap encV) := by unfold encL; rw [hc]; rfl
  have hlen : (encL l).length = (encN c).length + ((encN l.vs.length).length + (l.vs.flatMap encV).length) := by rw [hE]; simp
  refine rw_of pf54_is (Nat.le_of_ble_eq_true rfl) ?_
  obtain ⟨_, _, ⟨t1, T1, rfl, rfl, a1, o1⟩, k1⟩ := (appendNumber_rw (l := b) (n := c) (H := H ++ [.cells false [.int c, .sl al tv]]) (T := T) (by unfold bigN; omega) (by omega) hA).call rfl
  have hb9 := encN_big (n := c) (by unfold bigN; omega)
  obtain ⟨_, _, ⟨t2, T2, rfl, rfl, a2, o2⟩, k2⟩ := (appendNumber_rw (l := b ++ encN c) (n := al.length) (H := H ++ [.cells false [.int c, .sl al tv]]) (T := T1) (by unfold bigN; unfold mostN at hvl; omega) (by rw [List.length_append]; have := encN_pos l.vs.length; omega) a1).call rfl
  rw [show b ++ encN c ++ encN al.length = b ++ (encN c ++ encN al.length) from List.append_assoc _ _ _] at k2 a2
  simp only [pf54, ↓wpre, wset, wcore, ne_eq, if_true, if_false, exists_eq_left', true_implies, false_implies, exists_const, exists_eq_right, binA, intA, loadA, storeA, pickC, setAt, mapO, argsE, X.isC, resA, oneA, unA, boundA, eqiA, eqsA, fillA, fillE, ASt.fz, strA, Nat.reduceEqDiff, Nat.reduceLT, ↓reduceIte, reduceCtorEq, Nat.reduceAdd, Nat.reduceLeDiff, Int.reduceBEq, Int.reduceBNe, Int.reduceLT, Int.reduceLE, Int.reduceGT, Int.reduceGE, Nat.reduceDiv, Nat.reduceMul, Nat.reduceBEq, Nat.reduceMod, Nat.reduceSub, List.length_append, List.append_assoc, app_get_len, app_get_add, app_set_len, app_set_add, k1, k2]
  refine W_loopE (fun j => al.length - j) (fun j E H' T' => ∃ G t' cur, H' = H ++ (.cells false [.int c, .sl al tv] :: G) ∧ E 0 = .sl (bytes cur) t' ∧ E 17 = .sl al tv ∧ E 18 = .int al.length ∧ E 19 = .int (j : Nat) ∧ j ≤ al.length ∧ App T' (bytes cur) t' ∧ Oth T t T' t' ∧ cur = b ++ (encN c ++ encN al.length) ++ (l.vs.take j).flatMap encV) ?_ 0 ⟨[], t2, _, rfl, rfl, rfl, rfl, rfl, Nat.zero_le _, a2, o1.trans o2, by simp⟩
  rintro j E H' T' ⟨G, t', cur, rfl, e0, e17, e18, e19, hj, hA', ho, hcur⟩
  rcases Nat.lt_or_ge j al.length with hlt | hge
  · have hdec : decide ((j : Int) < al.length) = true := by simpa using hlt
    obtain ⟨x, c1, d0, d1, d3, d4, d5, d6, d7, ⟨d8, hx1, hx2⟩⟩ := g4.get varAgg hlt
    cases d8
    obtain ⟨p, q, rfl, hp, hq⟩ := hvs x d3
    have hall := g4.all varAgg
    have w1 : IntKind.i64.wrap (((p : Int) - 65536) + 65536) = (p : Int) := by rw [wrap_in (by unfold in64; omega)]; omega
    have hfl := flat_le (f := encV) d0
    rw [encV_nat, List.length_append] at hfl
    have hlc : cur.length = b.length + (encN c).length + (encN l.vs.length).length + ((l.vs.take j).flatMap encV).length := by rw [hcur, hl]; simp only [List.length_append]; omega
    obtain ⟨_, _, ⟨t3, T3, rfl, rfl, a3, o3⟩, k3⟩ := (appendNumber_rw (n := p) (H := H ++ (.cells false [.int c, .sl al tv] :: (G ++ [.cells false [.int ((p : Int) - 65536), .int q]]))) (by unfold bigN; omega) (by omega) hA').call rfl
    obtain ⟨_, _, ⟨t4, T4, rfl, rfl, a4, o4⟩, k4⟩ := (appendNumber_rw (n := q) (H := H ++ (.cells false [.int c, .sl al tv] :: (G ++ [.cells false [.int ((p : Int) - 65536), .int q]]))) (by unfold bigN; omega) (by rw [List.length_append]; have := encN_pos q; omega) a3).call rfl
    have hst : cur ++ encN p ++ encN q = b ++ (encN c ++ encN al.length) ++ (l.vs.take (j + 1)).flatMap encV := by
      rw [flat_step d0, encV_nat, hcur]; simp only [List.append_assoc]
    generalize hnx : cur ++ encN p ++ encN q = nxt at a4 k4 hst
    simp only [↓wpre, wset, wcore, ne_eq, if_true, if_false, exists_eq_left', true_implies, false_implies, exists_const, exists_eq_right, binA, intA, loadA, storeA, pickC, setAt, mapO, argsE, X.isC, resA, oneA, unA, boundA, eqiA, eqsA, fillA, fillE, ASt.fz, strA, Nat.reduceEqDiff, Nat.reduceLT, ↓reduceIte, reduceCtorEq, Nat.reduceAdd, Nat.reduceLeDiff, Int.reduceBEq, Int.reduceBNe, Int.reduceLT, Int.reduceLE, Int.reduceGT, Int.reduceGE, Nat.reduceDiv, Nat.reduceMul, Nat.reduceBEq, Nat.reduceMod, Nat.reduceSub, List.length_append, List.append_assoc, app_get_len, app_get_add, app_set_len, app_set_add, e0, e17, e18, e19, hdec, d4, hall, w1, k3, k4]
    exact EQ_in ⟨j + 1, by omega, _, _, _, rfl, rfl, e17, e18, next_ixv (by unfold lenB at *; omega), by omega, a4, (ho.trans o3).trans o4, by rw [hst]; simp only [List.append_assoc]⟩
  · have hdec : decide ((j : Int) < al.length) = false := by simpa using hge
    rw [List.take_of_length_le (by omega)] at hcur
    have hfin : cur = b ++ encL l := by rw [hcur, hE, hl]; simp only [List.append_assoc]
    rw [hfin] at e0 hA'
    generalize b ++ encL l = out at e0 hA'
    simp only [↓wpre, wset, wcore, ne_eq, if_true, if_false, exists_eq_left', true_implies, false_implies, exists_const, exists_eq_right, binA, intA, loadA, storeA, pickC, setAt, mapO, argsE, X.isC, resA, oneA, unA, boundA, eqiA, eqsA, fillA, fillE, ASt.fz, strA, Nat.reduceEqDiff, Nat.reduceLT, ↓reduceIte, reduceCtorEq, Nat.reduceAdd, Nat.reduceLeDiff, Int.reduceBEq, Int.reduceBNe, Int.reduceLT, Int.reduceLE, Int.reduceGT, Int.reduceGE, Nat.reduceDiv, Nat.reduceMul, Nat.reduceBEq, Nat.reduceMod, Nat.reduceSub, List.length_append, List.append_assoc, app_get_len, app_get_add, app_set_len, app_set_add, e0, e17, e18, e19, hdec, AQ_ret, AQ_normal]
    exact ⟨_, _, _, rfl, rfl, hA', ho⟩
end Go.Proofs.Eng
