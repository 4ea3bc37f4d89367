/- The reference reads an entry: its end. No conditions beyond those in the theorems. -/
import Derived.Test.YtbcnlbnimabdeaaU10
set_option linter.all false
set_option linter.deprecated false
set_option linter.unnecessarySimpa false
set_option linter.unusedVariables false
set_option linter.unusedSimpArgs false
set_option linter.defProp false
namespace Go.Proofs.Eng
open Go Go.Proofs
set_option maxRecDepth 100000
set_option maxHeartbeats 8000000
def badT (e : Tm) : Bool := !(e.right && decide (e.sz ≤ 4096) && decide (e.dp ≤ 200))
theorem rent_end {i : Nat} {s : ByteArray} {H : List AObj} {T : List Nat} {tab : List AV} {tt : Tl} {k : Nat} {pi : Int} {nm : ByteArray} {ls : List Lv} {kids : List Tm} {q : Nat} {f : Bool} {E : Env} {H' : List AObj} {T' : List Nat} {F : Nat → Bool → Tm → Prop} (hk : k < 34359738368) (hpi : in64 pi) (hnm : nm.size ≤ lenB) (h : RSt i s H T tab tt k pi nm ls kids q f E H' T')
    (h1 : f = true → F q true (.mk k pi nm ls kids)) (h2 : f = false → F q (badT (.mk k pi nm ls kids)) (.mk k pi nm ls kids)) : W (run md pfs) md end46 ⟨tmE 111 E, [], ⟨H', T'⟩⟩ (SQ [.c 4 true 5] (AnyP i s H T F) fun _ _ => False) () := by
  obtain ⟨B, Z, las, tl, kas, tk, rfl, e0, e1, e4, e5, hB, hqs, hL, hll, hK, hkl, hA, hT, hkk⟩ := h
  have g := hB.f5
  have gi := rrd_get hB
  have hpl := lvsPure hL
  have hpk := tmsPure hK
  have hIs : (Tm.mk k pi nm ls kids).Is (.agg [.int k, .int pi, .str nm, .sl las tl.strip, .sl kas tk.strip]) := Tm.Is.mk (strip_pure2 _) (strip_pure2 _) (by unfold in64; omega) hpi hnm hll (by unfold lenB; omega) hL hK
  cases f with
  | true =>
    simp only [end46, pf46, ↓wpre, wset, wcore, ne_eq, if_true, if_false, exists_eq_left', true_implies, false_implies, exists_const, exists_eq_right, binA, intA, loadA, storeA, pickC, setAt, mapO, argsE, X.isC, resA, oneA, unA, boundA, eqiA, eqsA, fillA, fillE, ASt.fz, strA, Nat.reduceEqDiff, Nat.reduceLT, ↓reduceIte, reduceCtorEq, Nat.reduceAdd, Nat.reduceLeDiff, Int.reduceBEq, Int.reduceBNe, Int.reduceLT, Int.reduceLE, Int.reduceGT, Int.reduceGE, Nat.reduceDiv, Nat.reduceMul, Nat.reduceBEq, Nat.reduceMod, Nat.reduceSub, e0, e4, e5, g, gi, pz_tm hpl hpk, fr_tm hpl hpk]
    exact ⟨_, B, q, _, T', true, hIs, rfl, hqs, hB, hT, h1 rfl⟩
  | false =>
    obtain ⟨_, rfl, hr⟩ := call_tm (node_ret _ hIs) rfl hpl hpk ⟨B ++ (z5 :: blk5 k pi nm las tl kas tk :: Z), T'⟩
    have hsi : ∀ Z y, (B ++ Z).set i y = B.set i y ++ Z := fun Z y => hB.app Z y
    have h2 := h2 rfl
    have hdp : (Tm.mk k pi nm ls kids).dp ≤ 201 := by
      rw [Tm.dp]
      have : ∀ l : List Tm, (∀ x ∈ l, x.dp ≤ 200) → tdpL l ≤ 200 := by
        intro l
        induction l with
        | nil => intro _; simp [tdpL]
        | cons x l ih =>
          intro h
          rw [tdpL]
          have := h x (by simp)
          have := ih fun y hy => h y (by simp [hy])
          omega
      have := this kids fun x hx => (hkk x hx).2
      omega
    have fin : ∀ b, b = badT (Tm.mk k pi nm ls kids) → AnyP i s H T F (.agg [.int k, .int pi, .str nm, .sl las tl.strip, .sl kas tk.strip]) ⟨B.set i (.cells false [.str s, .int (q : Nat), .v (.bool b)]) ++ (blk5 k pi nm las tl kas tk :: blk5 k pi nm las tl kas tk :: Z), T'⟩ := by
      rintro _ rfl
      exact ⟨_, _, q, _, T', _, hIs, rfl, hqs, hB.up (rrd s q _), hT, h2⟩
    cases hrr : (Tm.mk k pi nm ls kids).right
    · have g3 := (hB.up (rrd s q true)).f5
      unfold rrd at g3
      simp only [end46, pf46, ↓wpre, wset, wcore, ne_eq, if_true, if_false, exists_eq_left', true_implies, false_implies, exists_const, exists_eq_right, binA, intA, loadA, storeA, pickC, setAt, mapO, argsE, X.isC, resA, oneA, unA, boundA, eqiA, eqsA, fillA, fillE, ASt.fz, strA, Nat.reduceEqDiff, Nat.reduceLT, ↓reduceIte, reduceCtorEq, Nat.reduceAdd, Nat.reduceLeDiff, Int.reduceBEq, Int.reduceBNe, Int.reduceLT, Int.reduceLE, Int.reduceGT, Int.reduceGE, Nat.reduceDiv, Nat.reduceMul, Nat.reduceBEq, Nat.reduceMod, Nat.reduceSub, e0, e4, e5, g, gi, hr, hrr, hsi, g3, pz_tm hpl hpk, fr_tm hpl hpk]
      exact fin true (by rw [badT, hrr]; rfl)
    · have hD := rdepth_ret _ (lim := 202) hIs (by omega) (by omega)
      obtain ⟨_, rfl, hd⟩ := call_tm2 hD rfl hpl hpk ⟨B ++ (z5 :: blk5 k pi nm las tl kas tk :: Z), T'⟩
      by_cases hz : (Tm.mk k pi nm ls kids).sz ≤ 4096
      · obtain ⟨_, rfl, hs4⟩ := call_tm2 (rsize_ret _ (lim := 4096) hIs (by omega) (by omega)) rfl hpl hpk ⟨B ++ (z5 :: blk5 k pi nm las tl kas tk :: Z), T'⟩
        have hz' : decide ((((Tm.mk k pi nm ls kids).sz : Nat) : Int) > 4096) = false := by simp only [decide_eq_false_iff_not]; omega
        cases hd2 : decide ((((Tm.mk k pi nm ls kids).dp : Nat) : Int) > 200)
        · have g3 := (hB.up (rrd s q false)).f5
          unfold rrd at g3
          simp only [end46, pf46, ↓wpre, wset, wcore, ne_eq, if_true, if_false, exists_eq_left', true_implies, false_implies, exists_const, exists_eq_right, binA, intA, loadA, storeA, pickC, setAt, mapO, argsE, X.isC, resA, oneA, unA, boundA, eqiA, eqsA, fillA, fillE, ASt.fz, strA, Nat.reduceEqDiff, Nat.reduceLT, ↓reduceIte, reduceCtorEq, Nat.reduceAdd, Nat.reduceLeDiff, Int.reduceBEq, Int.reduceBNe, Int.reduceLT, Int.reduceLE, Int.reduceGT, Int.reduceGE, Nat.reduceDiv, Nat.reduceMul, Nat.reduceBEq, Nat.reduceMod, Nat.reduceSub, e0, e4, e5, g, gi, hr, hrr, hs4, hz', hd, hd2, hsi, g3, pz_tm hpl hpk, fr_tm hpl hpk]
          exact fin false (by rw [badT, hrr, decide_eq_true hz, decide_eq_true (by simp only [decide_eq_false_iff_not] at hd2; omega)]; rfl)
        · have g3 := (hB.up (rrd s q true)).f5
          unfold rrd at g3
          simp only [end46, pf46, ↓wpre, wset, wcore, ne_eq, if_true, if_false, exists_eq_left', true_implies, false_implies, exists_const, exists_eq_right, binA, intA, loadA, storeA, pickC, setAt, mapO, argsE, X.isC, resA, oneA, unA, boundA, eqiA, eqsA, fillA, fillE, ASt.fz, strA, Nat.reduceEqDiff, Nat.reduceLT, ↓reduceIte, reduceCtorEq, Nat.reduceAdd, Nat.reduceLeDiff, Int.reduceBEq, Int.reduceBNe, Int.reduceLT, Int.reduceLE, Int.reduceGT, Int.reduceGE, Nat.reduceDiv, Nat.reduceMul, Nat.reduceBEq, Nat.reduceMod, Nat.reduceSub, e0, e4, e5, g, gi, hr, hrr, hs4, hz', hd, hd2, hsi, g3, pz_tm hpl hpk, fr_tm hpl hpk]
          exact fin true (by rw [badT, hrr, decide_eq_true hz, decide_eq_false (by simp only [decide_eq_true_eq] at hd2; omega)]; rfl)
      · obtain ⟨_, ⟨r, rfl, hrb⟩, hs4⟩ := call_tm2 (rsize_big _ hIs (fun x hx => (hkk x hx).1) (by omega)) rfl hpl hpk ⟨B ++ (z5 :: blk5 k pi nm las tl kas tk :: Z), T'⟩
        have hz' : decide (((r : Nat) : Int) > 4096) = true := by simp only [decide_eq_true_eq]; omega
        have g3 := (hB.up (rrd s q true)).f5
        unfold rrd at g3
        simp only [end46, pf46, ↓wpre, wset, wcore, ne_eq, if_true, if_false, exists_eq_left', true_implies, false_implies, exists_const, exists_eq_right, binA, intA, loadA, storeA, pickC, setAt, mapO, argsE, X.isC, resA, oneA, unA, boundA, eqiA, eqsA, fillA, fillE, ASt.fz, strA, Nat.reduceEqDiff, Nat.reduceLT, ↓reduceIte, reduceCtorEq, Nat.reduceAdd, Nat.reduceLeDiff, Int.reduceBEq, Int.reduceBNe, Int.reduceLT, Int.reduceLE, Int.reduceGT, Int.reduceGE, Nat.reduceDiv, Nat.reduceMul, Nat.reduceBEq, Nat.reduceMod, Nat.reduceSub, e0, e4, e5, g, gi, hr, hrr, hs4, hz', hsi, g3, pz_tm hpl hpk, fr_tm hpl hpk]
        exact fin true (by rw [badT, hrr, decide_eq_false hz]; rfl)
theorem rtail_run {i : Nat} {s : ByteArray} {p q1 : Nat} {fl : Bool} {H : List AObj} {T : List Nat} {Tb : List Tm} {tab : List AV} {tt : Tl} (hs : s.size ≤ capB) (hTb : LIs Tm.Is Tb tab) (hTs : ∀ x ∈ Tb, x.sz ≤ 4096 ∧ x.dp ≤ 200) (htb : tab.length ≤ lenB) {k : Nat} {pi : Int} {nm : ByteArray} {ls : List Lv} {q : Nat} {f0 : Bool} (hk : k < 34359738368) (hpi : in64 pi) (hnm : nm.size ≤ lenB)
    (hF : Fl fl f0 (rN (s.toList.drop p) = some (k, s.toList.drop q1) ∧ rPay k (s.toList.drop q1) = some ((pi, nm, ls), s.toList.drop q) ∧ p < q) (rEntry Tb (s.toList.drop p) = none)) (hqs : q ≤ s.size)
    {E : Env} {B Z : List AObj} {las : List AV} {tl : Tl} {T' : List Nat} (e0 : E 0 = .ptr i 0) (e1 : E 1 = .sl tab tt) (e4 : E 4 = .ptr H.length 0) (e5 : E 5 = .ptr (H.length + 1) 0) (hB : BR B H i (rrd s q f0)) (hL : LIs Lv.Is ls las) (hl : las.length ≤ lenB) (hT : Keep T.length T T') :
    W (run md pfs) md tail46 ⟨tmE 111 E, [], ⟨B ++ (z5 :: blk5 k pi nm las tl [] .nil :: Z), T'⟩⟩ (SQ [.c 4 true 5] (AnyP i s H T fun q' f e => Fl fl f (rEntry Tb (s.toList.drop p) = some (e, s.toList.drop q') ∧ p < q') (rEntry Tb (s.toList.drop p) = none)) fun _ _ => False) () := by
  have hE : (rN (s.toList.drop p) = some (k, s.toList.drop q1) ∧ rPay k (s.toList.drop q1) = some ((pi, nm, ls), s.toList.drop q) ∧ p < q) → rEntry Tb (s.toList.drop p) = (rKids Tb (kidsN k).toNat (s.toList.drop q)).bind fun l => if (Tm.mk k pi nm ls l.1).right = true ∧ (Tm.mk k pi nm ls l.1).sz ≤ 4096 ∧ (Tm.mk k pi nm ls l.1).dp ≤ 200 then some (Tm.mk k pi nm ls l.1, l.2) else none := fun h => by
    rw [rEntry, h.1, Option.bind_some]; simp only; rw [h.2.1, Option.bind_some]
  simp only [tail46, pf46, ↓wpre, wset, wcore, ne_eq, if_true, if_false, exists_eq_left', true_implies, false_implies, exists_const, exists_eq_right, binA, intA, loadA, storeA, pickC, setAt, mapO, argsE, X.isC, resA, oneA, unA, boundA, eqiA, eqsA, fillA, fillE, ASt.fz, strA, Nat.reduceEqDiff, Nat.reduceLT, ↓reduceIte, reduceCtorEq, Nat.reduceAdd, Nat.reduceLeDiff, Int.reduceBEq, Int.reduceBNe, Int.reduceLT, Int.reduceLE, Int.reduceGT, Int.reduceGE, Nat.reduceDiv, Nat.reduceMul, Nat.reduceBEq, Nat.reduceMod, Nat.reduceSub]
  refine rkid_loop hs hTb hTs htb (k := k) (pi := pi) (nm := nm) (ls := ls) (q0 := q) (f0 := f0) hk rfl ?_ ?_ ⟨B, Z, las, tl, [], .nil, rfl, e0, e1, e4, e5, hB, hqs, hL, hl, trivial, by simp, Or.inl ⟨rfl, rfl⟩, hT, fun x h => by simp at h⟩ rfl
  · intro E H' T' kids q2 f hK hR
    simp only [BQ_e, LQ_n]
    have h3 := hF.comp hR (G3 := rEntry Tb (s.toList.drop p) = (if (Tm.mk k pi nm ls kids).right = true ∧ (Tm.mk k pi nm ls kids).sz ≤ 4096 ∧ (Tm.mk k pi nm ls kids).dp ≤ 200 then some (Tm.mk k pi nm ls kids, s.toList.drop q2) else none) ∧ p < q2) (N3 := rEntry Tb (s.toList.drop p) = none) (fun h h' => ⟨by rw [hE h, h'.1]; rfl, by omega⟩) id (fun h h' => by rw [hE h, h']; rfl)
    refine rent_end hk hpi hnm hK (fun h => ?_) fun h => ?_
    · subst h
      rcases h3 with ⟨_, h, _⟩ | ⟨_, h⟩
      · cases h
      · exact Or.inr ⟨rfl, h⟩
    · subst h
      rcases h3 with ⟨hf, _, h4, h5⟩ | ⟨h, _⟩
      · by_cases hc : (Tm.mk k pi nm ls kids).right = true ∧ (Tm.mk k pi nm ls kids).sz ≤ 4096 ∧ (Tm.mk k pi nm ls kids).dp ≤ 200
        · rw [if_pos hc] at h4
          exact Or.inl ⟨hf, by rw [badT, hc.1, decide_eq_true hc.2.1, decide_eq_true hc.2.2]; rfl, h4, h5⟩
        · rw [if_neg hc] at h4
          refine Or.inr ⟨?_, Or.inr h4⟩
          cases hb : badT (Tm.mk k pi nm ls kids) with
          | true => rfl
          | false =>
            exfalso
            apply hc
            simp only [badT, Bool.not_eq_false', Bool.and_eq_true, decide_eq_true_eq] at hb
            exact ⟨hb.1.1, hb.1.2, hb.2⟩
      · cases h
  · intro E B Z las tl kas tk kids q2 T' e4 hB hq2 hL hll hK hkl hT hR
    have g := hB.f5
    have hpl := lvsPure hL
    have hpk := tmsPure hK
    have hIs : (Tm.mk k pi nm ls kids).Is (.agg [.int k, .int pi, .str nm, .sl las tl.strip, .sl kas tk.strip]) := Tm.Is.mk (strip_pure2 _) (strip_pure2 _) (by unfold in64; omega) hpi hnm hll (by unfold lenB; omega) hL hK
    simp only [↓wpre, wset, wcore, ne_eq, if_true, if_false, exists_eq_left', true_implies, false_implies, exists_const, exists_eq_right, binA, intA, loadA, storeA, pickC, setAt, mapO, argsE, X.isC, resA, oneA, unA, boundA, eqiA, eqsA, fillA, fillE, ASt.fz, strA, Nat.reduceEqDiff, Nat.reduceLT, ↓reduceIte, reduceCtorEq, Nat.reduceAdd, Nat.reduceLeDiff, Int.reduceBEq, Int.reduceBNe, Int.reduceLT, Int.reduceLE, Int.reduceGT, Int.reduceGE, Nat.reduceDiv, Nat.reduceMul, Nat.reduceBEq, Nat.reduceMod, Nat.reduceSub, e4, g, pz_tm hpl hpk, fr_tm hpl hpk]
    refine ⟨_, B, q2, _, T', true, hIs, rfl, hq2, hB, hT, ?_⟩
    exact hF.comp hR (fun _ h => h.elim) id (fun h h' => by rw [hE h, h']; rfl)
end Go.Proofs.Eng
