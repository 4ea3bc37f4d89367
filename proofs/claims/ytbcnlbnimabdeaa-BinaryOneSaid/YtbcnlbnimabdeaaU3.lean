/- An entry is read: its end. No conditions beyond those in the theorems. -/
import Derived.Test.YtbcnlbnimabdeaaU2
import Derived.Test.YtbcnlbnimabdeaaT4
set_option linter.all false
set_option linter.deprecated false
set_option linter.unnecessarySimpa false
set_option linter.unusedVariables false
set_option linter.unusedSimpArgs false
set_option linter.defProp false
namespace Go.Proofs.Eng
open Go Go.Proofs
set_option maxRecDepth 100000
set_option maxHeartbeats 8000000
theorem pz_tm {s : ASt} {k i n : Value} {las kas : List AV} {t1 t2 : Tl} (h1 : pureAVs las = true) (h2 : pureAVs kas = true) : purify 20 s (.agg [.v k, .v i, .v n, .sl las t1, .sl kas t2]) = some (.agg [.v k, .v i, .v n, .sl las t1.strip, .sl kas t2.strip]) := by
  rw [pz_agg (n := 18)]
  simp only [mapO, pz_sl (n := 17), mapO_at h1, mapO_at h2, purify_pure (n := 18) (pv_v (x := k)), purify_pure (n := 18) (pv_v (x := i)), purify_pure (n := 18) (pv_v (x := n)), Option.map_some]
theorem fr_tm {s : ASt} {k i n : Value} {las kas : List AV} {t1 t2 : Tl} (h1 : pureAVs las = true) (h2 : pureAVs kas = true) : frz 20 s (.agg [.v k, .v i, .v n, .sl las t1, .sl kas t2]) = s := by
  rw [fr_agg]
  split
  · rfl
  · simp only [List.foldl_cons, List.foldl_nil, fr_pure (pv_v (x := k)), fr_pure (pv_v (x := i)), fr_pure (pv_v (x := n)), fr_sl h1, fr_sl h2]
theorem pz_tm7 {s : ASt} {k i n z d : Value} {las kas : List AV} {t1 t2 : Tl} (h1 : pureAVs las = true) (h2 : pureAVs kas = true) : purify 20 s (.agg [.v k, .v i, .v n, .sl las t1, .sl kas t2, .v z, .v d]) = some (.agg [.v k, .v i, .v n, .sl las t1.strip, .sl kas t2.strip, .v z, .v d]) := by
  rw [pz_agg (n := 18)]
  simp only [mapO, pz_sl (n := 17), mapO_at h1, mapO_at h2, purify_pure (n := 18) (pv_v (x := k)), purify_pure (n := 18) (pv_v (x := i)), purify_pure (n := 18) (pv_v (x := n)), purify_pure (n := 18) (pv_v (x := z)), purify_pure (n := 18) (pv_v (x := d)), Option.map_some]
theorem fr_tm7 {s : ASt} {k i n z d : Value} {las kas : List AV} {t1 t2 : Tl} (h1 : pureAVs las = true) (h2 : pureAVs kas = true) : frz 20 s (.agg [.v k, .v i, .v n, .sl las t1, .sl kas t2, .v z, .v d]) = s := by
  rw [fr_agg]
  split
  · rfl
  · simp only [List.foldl_cons, List.foldl_nil, fr_pure (pv_v (x := k)), fr_pure (pv_v (x := i)), fr_pure (pv_v (x := n)), fr_pure (pv_v (x := z)), fr_pure (pv_v (x := d)), fr_sl h1, fr_sl h2]
theorem call_tm {f : FuncId} {k i n : Value} {las kas : List AV} {t1 t2 : Tl} {PR : AV → Prop} (h : Out md pfs f [.agg [.v k, .v i, .v n, .sl las t1.strip, .sl kas t2.strip]] PR fun _ => False) (hm : md f = .pure) (h1 : pureAVs las = true) (h2 : pureAVs kas = true) (s : ASt) : ∃ v, PR v ∧ ∀ K KP, CW (run md pfs) md false s f [.agg [.v k, .v i, .v n, .sl las t1, .sl kas t2]] K KP () = K v s := by
  obtain ⟨v, hv, hc⟩ := h.callP (s := s) (args := [.agg [.v k, .v i, .v n, .sl las t1, .sl kas t2]]) hm (by simp only [mapO, pz_tm h1 h2])
  refine ⟨v, hv, fun K KP => ?_⟩
  rw [hc, List.foldl_cons, List.foldl_nil, fr_tm h1 h2]
theorem ent_end {i : Nat} {s : ByteArray} {H : List AObj} {T : List Nat} {tab : List AV} {tt : Tl} {k : Nat} {pi : Int} {nm : ByteArray} {ls : List Lv} {kids : List Tm} {q : Nat} {E : Env} {H' : List AObj} {T' : List Nat} {PR PP : AV → ASt → Prop} (hk : k ≤ mostN) (hpi : in64 pi) (hnm : nm.size ≤ lenB) (h : KSt i s H T tab tt k pi nm ls kids q E H' T')
    (hgood : (Tm.mk k pi nm ls kids).right = true → (Tm.mk k pi nm ls kids).sz ≤ 4096 → (Tm.mk k pi nm ls kids).dp ≤ 200 → ∀ v B G T', EIs (Tm.mk k pi nm ls kids) v → BR B H i (rdr s q) → Keep T.length T T' → PR v ⟨B ++ G, T'⟩)
    (hbad : ¬ ((Tm.mk k pi nm ls kids).right = true ∧ (Tm.mk k pi nm ls kids).sz ≤ 4096 ∧ (Tm.mk k pi nm ls kids).dp ≤ 200) → ∀ s', Lost i s H s' → PP failV s') : W (run md pfs) md end43 ⟨tmE 130 E, [], ⟨H', T'⟩⟩ (SQ [.c 4 true 7] PR PP) () := by
  obtain ⟨B, Z, las, tl, kas, tk, rfl, e0, e1, e4, e5, e6, hB, hL, hll, hK, hkl, hA, hT, hkk, hsz, hdp⟩ := h
  have f := hB.f
  have hpl := lvsPure hL
  have hpk := tmsPure hK
  have hIs : (Tm.mk k pi nm ls kids).Is (.agg [.int k, .int pi, .str nm, .sl las tl.strip, .sl kas tk.strip]) := Tm.Is.mk (strip_pure2 _) (strip_pure2 _) (by unfold in64; unfold mostN at hk; omega) hpi hnm hll (by unfold lenB; omega) hL hK
  have hs1 : (Tm.mk k pi nm ls kids).sz = 1 + tszL kids := by rw [Tm.sz]
  have hd1 : (Tm.mk k pi nm ls kids).dp = tdpL kids + 1 := by rw [Tm.dp]
  have hadd : IntKind.i64.wrap (((tdpL kids : Nat) : Int) + 1) = ((tdpL kids + 1 : Nat) : Int) := by
    rw [wrap_in (by unfold in64; omega)]; omega
  obtain ⟨_, rfl, hc⟩ := call_tm (right_ret _ hIs) rfl hpl hpk ⟨B ++ (z7 :: blk7 k pi nm las tl kas tk (1 + tszL kids) (tdpL kids + 1) :: Z), T'⟩
  obtain ⟨_, _, ⟨rfl, rfl⟩, hf⟩ := (fail_sh (.ptr i 0) ⟨B ++ (z7 :: blk7 k pi nm las tl kas tk (1 + tszL kids) (tdpL kids + 1) :: Z), T'⟩).callPan rfl
  have hlost : ∀ Y, Lost i s H ⟨B ++ Y, T'⟩ := fun Y => ⟨B, q, Y, T', rfl, hB⟩
  cases hr : (Tm.mk k pi nm ls kids).right
  · simp only [end43, pf43, ↓wpre, wset, wcore, ne_eq, if_true, if_false, exists_eq_left', true_implies, false_implies, exists_const, exists_eq_right, binA, intA, loadA, storeA, pickC, setAt, mapO, argsE, X.isC, resA, oneA, unA, boundA, eqiA, eqsA, fillA, fillE, ASt.fz, strA, Nat.reduceEqDiff, Nat.reduceLT, ↓reduceIte, reduceCtorEq, Nat.reduceAdd, Nat.reduceLeDiff, Int.reduceBEq, Int.reduceBNe, Int.reduceLT, Int.reduceLE, Int.reduceGT, Int.reduceGE, Nat.reduceDiv, Nat.reduceMul, Nat.reduceBEq, Nat.reduceMod, Nat.reduceSub, e0, e4, e5, e6, f, hc, hadd, hr, hf, SQ_pan, pz_fail, fr_fail]
    exact hbad (by rw [hr]; simp) _ (hlost _)
  · cases hz : decide (((1 + tszL kids : Nat) : Int) > 4096)
    · cases hd : decide (((tdpL kids + 1 : Nat) : Int) > 200)
      · simp only [end43, pf43, ↓wpre, wset, wcore, ne_eq, if_true, if_false, exists_eq_left', true_implies, false_implies, exists_const, exists_eq_right, binA, intA, loadA, storeA, pickC, setAt, mapO, argsE, X.isC, resA, oneA, unA, boundA, eqiA, eqsA, fillA, fillE, ASt.fz, strA, Nat.reduceEqDiff, Nat.reduceLT, ↓reduceIte, reduceCtorEq, Nat.reduceAdd, Nat.reduceLeDiff, Int.reduceBEq, Int.reduceBNe, Int.reduceLT, Int.reduceLE, Int.reduceGT, Int.reduceGE, Nat.reduceDiv, Nat.reduceMul, Nat.reduceBEq, Nat.reduceMod, Nat.reduceSub, e0, e4, e5, e6, f, hc, hadd, hr, hz, hd, pz_tm7 hpl hpk, fr_tm7 hpl hpk]
        simp only [decide_eq_false_iff_not] at hz hd
        exact hgood hr (by omega) (by omega) _ B _ T' ⟨_, _, _, _, _, by rw [hs1, hd1], hIs, hr, by omega, by omega⟩ hB hT
      · simp only [end43, pf43, ↓wpre, wset, wcore, ne_eq, if_true, if_false, exists_eq_left', true_implies, false_implies, exists_const, exists_eq_right, binA, intA, loadA, storeA, pickC, setAt, mapO, argsE, X.isC, resA, oneA, unA, boundA, eqiA, eqsA, fillA, fillE, ASt.fz, strA, Nat.reduceEqDiff, Nat.reduceLT, ↓reduceIte, reduceCtorEq, Nat.reduceAdd, Nat.reduceLeDiff, Int.reduceBEq, Int.reduceBNe, Int.reduceLT, Int.reduceLE, Int.reduceGT, Int.reduceGE, Nat.reduceDiv, Nat.reduceMul, Nat.reduceBEq, Nat.reduceMod, Nat.reduceSub, e0, e4, e5, e6, f, hc, hadd, hr, hz, hd, hf, SQ_pan, pz_fail, fr_fail]
        simp only [decide_eq_true_eq] at hd
        exact hbad (by omega) _ (hlost _)
    · simp only [end43, pf43, ↓wpre, wset, wcore, ne_eq, if_true, if_false, exists_eq_left', true_implies, false_implies, exists_const, exists_eq_right, binA, intA, loadA, storeA, pickC, setAt, mapO, argsE, X.isC, resA, oneA, unA, boundA, eqiA, eqsA, fillA, fillE, ASt.fz, strA, Nat.reduceEqDiff, Nat.reduceLT, ↓reduceIte, reduceCtorEq, Nat.reduceAdd, Nat.reduceLeDiff, Int.reduceBEq, Int.reduceBNe, Int.reduceLT, Int.reduceLE, Int.reduceGT, Int.reduceGE, Nat.reduceDiv, Nat.reduceMul, Nat.reduceBEq, Nat.reduceMod, Nat.reduceSub, e0, e4, e5, e6, f, hc, hadd, hr, hz, hf, SQ_pan, pz_fail, fr_fail]
      simp only [decide_eq_true_eq] at hz
      exact hbad (by omega) _ (hlost _)
end Go.Proofs.Eng
