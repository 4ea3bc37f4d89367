/- A level is read. No conditions beyond those in the theorems. -/
import Derived.Test.YtbcnlbnimabdeaaU0
import Derived.Test.YtbcnlbnimabdeaaD48
set_option linter.all false
set_option linter.deprecated false
set_option linter.unnecessarySimpa false
set_option linter.unusedVariables false
set_option linter.unusedSimpArgs false
set_option linter.defProp false
namespace Go.Proofs.Eng
open Go Go.Proofs
set_option maxRecDepth 100000
set_option maxHeartbeats 4000000
def LevP (i : Nat) (s : ByteArray) (p : Nat) (H : List AObj) (T : List Nat) (v : AV) (s' : ASt) : Prop :=
  ∃ l B q G T', rLv (s.toList.drop p) = some (l, s.toList.drop q) ∧ p < q ∧ q ≤ s.size ∧ l.Is v ∧ l.vs.length ≤ s.size ∧ s' = ⟨B ++ G, T'⟩ ∧ BR B H i (rdr s q) ∧ Keep T.length T T'
def BadP (i : Nat) (s : ByteArray) (H : List AObj) (P : Prop) (v : AV) (s' : ASt) : Prop := v = failV ∧ P ∧ ∃ B q G T', s' = ⟨B ++ G, T'⟩ ∧ BR B H i (rdr s q)
theorem sub_in {n : Nat} (h : n ≤ mostN) : IntKind.i64.wrap ((n : Int) - 65536) = (n : Int) - 65536 := by
  unfold mostN at h
  exact wrap_in (by unfold in64; omega)
theorem lv_ok {c : Nat} {vs : List (Int × Int)} {al : List AV} {t : Tl} (hc : c ≤ mostN) (h : LIs varIs vs al) (hl : al.length ≤ lenB) (ht : t.pure = true) : (Lv.mk c vs).Is (.agg [.int c, .sl al t]) := ⟨t, al, rfl, ht, by show in64 (c : Int); unfold in64; unfold mostN at hc; omega, hl, h⟩
theorem strip_pure2 (t : Tl) : t.strip.pure = true := by cases t <;> rfl
theorem pz_lv {s : ASt} {c : Value} {al : List AV} {t : Tl} (h : pureAVs al = true) : purify 20 s (.agg [.v c, .sl al t]) = some (.agg [.v c, .sl al t.strip]) := by
  rw [pz_agg (n := 18)]
  simp only [mapO, pz_sl (n := 17), mapO_at h, purify_pure (n := 18) (pv_v (x := c)), Option.map_some]
theorem fr_lv {s : ASt} {c : Value} {al : List AV} {t : Tl} (h : pureAVs al = true) : frz 20 s (.agg [.v c, .sl al t]) = s := by
  rw [fr_agg]
  split
  · rfl
  · simp only [List.foldl_cons, List.foldl_nil, fr_pure (pv_v (x := c)), fr_sl h]
theorem level_sh {i : Nat} {s : ByteArray} {p : Nat} {H : List AObj} {T : List Nat} (hi : H[i]? = some (rdr s p)) (hp : p ≤ s.size) (hs : s.size ≤ capB) :
    Sh md pfs 59 [.ptr i 0] ⟨H, T⟩ (LevP i s p H T) (BadP i s H (rLv (s.toList.drop p) = none)) := by
  refine sh_of pf59_is (Nat.le_of_ble_eq_true rfl) ?_
  have f0 := (BR.start hi).f
  rcases number_b (BR.start hi) hp hs [.cells false [.int 0, .sl [] .nil]] T with ⟨c, B1, q1, r1, c1, l1, l2, hB1, k1⟩ | ⟨B1, q1, r1, hB1, k1⟩
  · have f1 := hB1.f
    rcases number_b hB1 l2 hs [.cells false [.int 0, .sl [] .nil], .cells false [.int c, .sl [] .nil]] T with ⟨n, B2, q2, r2, n2, m1, m2, hB2, k2⟩ | ⟨B2, q2, r2, hB2, k2⟩
    · have f2 := hB2.f
      have hL : rLv (s.toList.drop p) = (rVars n (s.toList.drop q2)).map fun l => (⟨c, l.1⟩, l.2) := by
        rw [rLv, r1, Option.bind_some]; simp only; rw [r2, Option.bind_some]
      simp only [pf59, ↓wpre, wset, wcore, ne_eq, if_true, if_false, exists_eq_left', true_implies, false_implies, exists_const, exists_eq_right, binA, intA, loadA, storeA, pickC, setAt, mapO, argsE, X.isC, resA, oneA, unA, boundA, eqiA, eqsA, fillA, fillE, ASt.fz, strA, Nat.reduceEqDiff, Nat.reduceLT, ↓reduceIte, reduceCtorEq, Nat.reduceAdd, Nat.reduceLeDiff, Int.reduceBEq, Int.reduceBNe, Int.reduceLT, Int.reduceLE, Int.reduceGT, Int.reduceGE, Nat.reduceDiv, Nat.reduceMul, Nat.reduceBEq, Nat.reduceMod, Nat.reduceSub, List.length_append, List.append_assoc, k1, k2, f0, f1, f2]
      refine W_loopE (fun j => n - j) (fun j E H' T' => ∃ B Z q vs al t, H' = B ++ (.cells false [.int 0, .sl [] .nil] :: .cells false [.int c, .sl al t] :: Z) ∧ E 0 = .ptr i 0 ∧ E 2 = .ptr H.length 0 ∧ E 3 = .ptr (H.length + 1) 0 ∧ E 9 = .int n ∧ E 10 = .int (j : Nat) ∧ j ≤ n ∧ BR B H i (rdr s q) ∧ q2 ≤ q ∧ q ≤ s.size ∧ j ≤ q ∧ LIs varIs vs al ∧ al.length = j ∧ AppF T.length T' al t ∧ Keep T.length T T' ∧ rVars n (s.toList.drop q2) = (rVars (n - j) (s.toList.drop q)).map fun l => (vs ++ l.1, l.2)) ?_ 0 ⟨B2, [], q2, [], [], .nil, rfl, rfl, rfl, rfl, rfl, rfl, Nat.zero_le _, hB2, Nat.le_refl _, m2, Nat.zero_le _, trivial, rfl, Or.inl ⟨rfl, rfl⟩, .refl _ _ (Nat.le_refl _), by simp⟩
      rintro j E H' T' ⟨B, Z, q, vs, al, t, rfl, e0, e2, e3, e9, e10, hj, hB, hq, hqs, hjq, hV, hal, hA, hK, hR⟩
      have f := hB.f
      rcases Nat.lt_or_ge j n with hlt | hge
      · have hdec : decide ((j : Int) < n) = true := by simpa using hlt
        have hnj : n - j = (n - (j + 1)) + 1 := by omega
        rcases number_b hB hqs hs (.cells false [.int 0, .sl [] .nil] :: .cells false [.int c, .sl al t] :: Z) T' with ⟨a, B3, q3, r3, a3, o1, o2, hB3, k3⟩ | ⟨B3, q3, r3, hB3, k3⟩
        · have f3 := hB3.f
          rcases number_b hB3 o2 hs (.cells false [.int 0, .sl [] .nil] :: .cells false [.int c, .sl al t] :: (Z ++ [.cells false [.int ((a : Int) - 65536), .int 0]])) T' with ⟨b, B4, q4, r4, a4, o3, o4, hB4, k4⟩ | ⟨B4, q4, r4, hB4, k4⟩
          · have f4 := hB4.f
            have hall : (al.all fun x => x.cells.length == 2) = true := hV.all varAgg
            obtain ⟨t', T2, ha, hA', hK'⟩ := app_oneF (x := .agg [.int ((a : Int) - 65536), .int b]) hK.1 hA (by unfold capB at *; omega) hall rfl rfl
            simp only [↓wpre, wset, wcore, ne_eq, if_true, if_false, exists_eq_left', true_implies, false_implies, exists_const, exists_eq_right, binA, intA, loadA, storeA, pickC, setAt, mapO, argsE, X.isC, resA, oneA, unA, boundA, eqiA, eqsA, fillA, fillE, ASt.fz, strA, Nat.reduceEqDiff, Nat.reduceLT, ↓reduceIte, reduceCtorEq, Nat.reduceAdd, Nat.reduceLeDiff, Int.reduceBEq, Int.reduceBNe, Int.reduceLT, Int.reduceLE, Int.reduceGT, Int.reduceGE, Nat.reduceDiv, Nat.reduceMul, Nat.reduceBEq, Nat.reduceMod, Nat.reduceSub, List.length_append, List.append_assoc, e0, e2, e3, e9, e10, hdec, k3, k4, f, f3, f4, sub_in a3, ha]
            refine EQ_in ⟨j + 1, by omega, B4, _, q4, vs ++ [((a : Int) - 65536, (b : Int))], _, t', rfl, e0, e2, e3, e9, next_ixv (by unfold mostN at n2; unfold lenB; omega), by omega, hB4, by omega, o4, by omega, hV.append ⟨⟨rfl, by unfold in64; unfold mostN at a3; omega, by unfold in64; unfold mostN at a4; omega⟩, trivial⟩, by simp [hal], hA', hK.trans hK', ?_⟩
            rw [hR, hnj, rVars, r3, Option.bind_some]; simp only; rw [r4, Option.bind_some, Option.map_map]
            congr 1
            funext x
            simp
          · simp only [↓wpre, wset, wcore, ne_eq, if_true, if_false, exists_eq_left', true_implies, false_implies, exists_const, exists_eq_right, binA, intA, loadA, storeA, pickC, setAt, mapO, argsE, X.isC, resA, oneA, unA, boundA, eqiA, eqsA, fillA, fillE, ASt.fz, strA, Nat.reduceEqDiff, Nat.reduceLT, ↓reduceIte, reduceCtorEq, Nat.reduceAdd, Nat.reduceLeDiff, Int.reduceBEq, Int.reduceBNe, Int.reduceLT, Int.reduceLE, Int.reduceGT, Int.reduceGE, Nat.reduceDiv, Nat.reduceMul, Nat.reduceBEq, Nat.reduceMod, Nat.reduceSub, List.length_append, List.append_assoc, e0, e2, e3, e9, e10, hdec, k3, k4, f, f3, sub_in a3, SQ_pan, pz_fail, fr_fail]
            refine ⟨rfl, ?_, B4, q4, _, _, rfl, hB4⟩
            rw [hL, hR, hnj, rVars, r3, Option.bind_some]; simp only; rw [r4]; rfl
        · simp only [↓wpre, wset, wcore, ne_eq, if_true, if_false, exists_eq_left', true_implies, false_implies, exists_const, exists_eq_right, binA, intA, loadA, storeA, pickC, setAt, mapO, argsE, X.isC, resA, oneA, unA, boundA, eqiA, eqsA, fillA, fillE, ASt.fz, strA, Nat.reduceEqDiff, Nat.reduceLT, ↓reduceIte, reduceCtorEq, Nat.reduceAdd, Nat.reduceLeDiff, Int.reduceBEq, Int.reduceBNe, Int.reduceLT, Int.reduceLE, Int.reduceGT, Int.reduceGE, Nat.reduceDiv, Nat.reduceMul, Nat.reduceBEq, Nat.reduceMod, Nat.reduceSub, List.length_append, List.append_assoc, e0, e2, e3, e9, e10, hdec, k3, f, SQ_pan, pz_fail, fr_fail]
          refine ⟨rfl, ?_, B3, q3, _, _, rfl, hB3⟩
          rw [hL, hR, hnj, rVars, r3]; rfl
      · have hdec : decide ((j : Int) < n) = false := by simpa using hge
        have hjn : j = n := by omega
        subst hjn
        have hpu : pureAVs al = true := hV.pure fun _ _ h => varPure h
        simp only [↓wpre, wset, wcore, ne_eq, if_true, if_false, exists_eq_left', true_implies, false_implies, exists_const, exists_eq_right, binA, intA, loadA, storeA, pickC, setAt, mapO, argsE, X.isC, resA, oneA, unA, boundA, eqiA, eqsA, fillA, fillE, ASt.fz, strA, Nat.reduceEqDiff, Nat.reduceLT, ↓reduceIte, reduceCtorEq, Nat.reduceAdd, Nat.reduceLeDiff, Int.reduceBEq, Int.reduceBNe, Int.reduceLT, Int.reduceLE, Int.reduceGT, Int.reduceGE, Nat.reduceDiv, Nat.reduceMul, Nat.reduceBEq, Nat.reduceMod, Nat.reduceSub, List.length_append, List.append_assoc, e0, e2, e3, e9, e10, hdec, f, pz_lv hpu, fr_lv hpu]
        refine ⟨⟨c, vs⟩, B, q, _, T', ?_, by omega, hqs, lv_ok c1 hV (by unfold capB at hs; unfold lenB; omega) (strip_pure2 t), by rw [← hV.len]; omega, rfl, hB, hK⟩
        rw [hL, hR, Nat.sub_self, rVars]
        simp
    · simp only [pf59, ↓wpre, wset, wcore, ne_eq, if_true, if_false, exists_eq_left', true_implies, false_implies, exists_const, exists_eq_right, binA, intA, loadA, storeA, pickC, setAt, mapO, argsE, X.isC, resA, oneA, unA, boundA, eqiA, eqsA, fillA, fillE, ASt.fz, strA, Nat.reduceEqDiff, Nat.reduceLT, ↓reduceIte, reduceCtorEq, Nat.reduceAdd, Nat.reduceLeDiff, Int.reduceBEq, Int.reduceBNe, Int.reduceLT, Int.reduceLE, Int.reduceGT, Int.reduceGE, Nat.reduceDiv, Nat.reduceMul, Nat.reduceBEq, Nat.reduceMod, Nat.reduceSub, List.length_append, List.append_assoc, k1, k2, f0, f1, SQ_pan, pz_fail, fr_fail]
      refine ⟨rfl, ?_, B2, q2, _, _, rfl, hB2⟩
      rw [rLv, r1, Option.bind_some]; simp only; rw [r2]; rfl
  · simp only [pf59, ↓wpre, wset, wcore, ne_eq, if_true, if_false, exists_eq_left', true_implies, false_implies, exists_const, exists_eq_right, binA, intA, loadA, storeA, pickC, setAt, mapO, argsE, X.isC, resA, oneA, unA, boundA, eqiA, eqsA, fillA, fillE, ASt.fz, strA, Nat.reduceEqDiff, Nat.reduceLT, ↓reduceIte, reduceCtorEq, Nat.reduceAdd, Nat.reduceLeDiff, Int.reduceBEq, Int.reduceBNe, Int.reduceLT, Int.reduceLE, Int.reduceGT, Int.reduceGE, Nat.reduceDiv, Nat.reduceMul, Nat.reduceBEq, Nat.reduceMod, Nat.reduceSub, List.length_append, List.append_assoc, k1, f0, SQ_pan, pz_fail, fr_fail]
    refine ⟨rfl, ?_, B1, q1, _, _, rfl, hB1⟩
    rw [rLv, r1]; rfl
end Go.Proofs.Eng
