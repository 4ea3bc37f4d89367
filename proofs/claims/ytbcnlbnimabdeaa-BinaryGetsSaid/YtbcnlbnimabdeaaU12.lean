/- The reference reads an entry. No conditions beyond those in the theorems. -/
import Derived.Test.YtbcnlbnimabdeaaU11
set_option linter.all false
set_option linter.deprecated false
set_option linter.unnecessarySimpa false
set_option linter.unusedVariables false
set_option linter.unusedSimpArgs false
set_option linter.defProp false
namespace Go.Proofs.Eng
open Go Go.Proofs
set_option maxRecDepth 100000
set_option maxHeartbeats 8000000
def a46 : PC := match pf46.body with | .seq a _ => a | _ => .skip
def b46 : PC := match pf46.body with | .seq _ (.seq a _) => a | _ => .skip
def p46 : PC := match pf46.body with | .seq _ (.seq _ (.seq a _)) => a | _ => .skip
theorem body46 : pf46.body = .seq a46 (.seq b46 (.seq p46 tail46)) := rfl
def ll46 : PC := match p46 with | .seq _ (.block _ (.seq _ (.cond _ _ (.seq _ (.cond _ _ (.seq _ (.cond _ (.seq _ (.seq _ (.seq _ (.block _ l)))) _))))))) => l | _ => .skip
def RLSt (i : Nat) (s : ByteArray) (H : List AObj) (T : List Nat) (tab : List AV) (tt : Tl) (k : Nat) (nm : ByteArray) (ls : List Lv) (q : Nat) (f : Bool) (E : Env) (H' : List AObj) (T' : List Nat) : Prop :=
  ∃ B Z las tl, H' = B ++ (z5 :: blk5 k 0 nm las tl [] .nil :: Z) ∧ E 0 = .ptr i 0 ∧ E 1 = .sl tab tt ∧ E 4 = .ptr H.length 0 ∧ E 5 = .ptr (H.length + 1) 0 ∧ BR B H i (rrd s q f) ∧ q ≤ s.size ∧ LIs Lv.Is ls las ∧ AppF T.length T' las tl ∧ Keep T.length T T'
theorem rlvl_loop {i : Nat} {s : ByteArray} {H : List AObj} {T : List Nat} {tab : List AV} {tt : Tl} (hs : s.size + 1 < capB) {k : Nat} {nm : ByteArray} {n q0 : Nat} {f0 : Bool} (hn : n < 34359738368) {Q : AExit → St → Prop}
    (hQ : ∀ E H' T' ls q f, RLSt i s H T tab tt k nm ls q f E H' T' → ls.length ≤ s.size + 1 → Fl f0 f (rLvs n (s.toList.drop q0) = some (ls, s.toList.drop q) ∧ q0 ≤ q) (rLvs n (s.toList.drop q0) = none) → Q (.exit 1) ⟨tmE 111 E, [], ⟨H', T'⟩⟩)
    {E : Env} {H' : List AObj} {T' : List Nat} (h : RLSt i s H T tab tt k nm [] q0 f0 E H' T') (e6 : E 6 = .int n) (e7 : E 7 = .int 0) : W (run md pfs) md ll46 ⟨tmE 111 E, [], ⟨H', T'⟩⟩ Q () := by
  simp only [ll46, p46, pf46]
  refine W_loopE (fun j => n - j) (fun j E H' T' => ∃ ls q f, RLSt i s H T tab tt k nm ls q f E H' T' ∧ E 6 = .int n ∧ E 7 = .int (j : Nat) ∧ ls.length = j ∧ j ≤ s.size + 1 ∧ Fl f0 f (j ≤ n ∧ j ≤ q ∧ q0 ≤ q ∧ rLvs n (s.toList.drop q0) = (rLvs (n - j) (s.toList.drop q)).map fun l => (ls ++ l.1, l.2)) (rLvs n (s.toList.drop q0) = none)) ?_ 0 ⟨[], q0, f0, h, e6, e7, rfl, Nat.zero_le _, by
    cases f0 with
    | true => exact Or.inr ⟨rfl, Or.inl rfl⟩
    | false => exact Or.inl ⟨rfl, rfl, Nat.zero_le _, Nat.zero_le _, Nat.le_refl _, by simp⟩⟩
  clear h e6 e7 E H' T'
  rintro j E H' T' ⟨ls, q, f, ⟨B, Z, las, tl, rfl, e0, e1, e4, e5, hB, hqs, hL, hA, hT⟩, e6, e7, hlj, hjs, hF⟩
  have g := hB.f5
  have gi := rrd_get hB
  have hll : las.length = j := by rw [hL.len, hlj]
  cases hdec : decide ((j : Int) < n)
  · have hge : n ≤ j := by simp only [decide_eq_false_iff_not] at hdec; omega
    simp only [↓wpre, wset, wcore, ne_eq, if_true, if_false, exists_eq_left', true_implies, false_implies, exists_const, exists_eq_right, binA, intA, loadA, storeA, pickC, setAt, mapO, argsE, X.isC, resA, oneA, unA, boundA, eqiA, eqsA, fillA, fillE, ASt.fz, strA, Nat.reduceEqDiff, Nat.reduceLT, ↓reduceIte, reduceCtorEq, Nat.reduceAdd, Nat.reduceLeDiff, Int.reduceBEq, Int.reduceBNe, Int.reduceLT, Int.reduceLE, Int.reduceGT, Int.reduceGE, Nat.reduceDiv, Nat.reduceMul, Nat.reduceBEq, Nat.reduceMod, Nat.reduceSub, e0, e1, e4, e5, e6, e7, hdec, g]
    refine hQ _ _ _ ls q f ⟨B, Z, las, tl, rfl, e0, e1, e4, e5, hB, hqs, hL, hA, hT⟩ (by omega) (hF.mono (fun h => ⟨?_, h.2.2.1⟩) id)
    rw [h.2.2.2, show j = n by omega, Nat.sub_self, rLvs]
    simp
  · have hlt : j < n := by simp only [decide_eq_true_eq] at hdec; omega
    cases f with
    | true =>
      simp only [↓wpre, wset, wcore, ne_eq, if_true, if_false, exists_eq_left', true_implies, false_implies, exists_const, exists_eq_right, binA, intA, loadA, storeA, pickC, setAt, mapO, argsE, X.isC, resA, oneA, unA, boundA, eqiA, eqsA, fillA, fillE, ASt.fz, strA, Nat.reduceEqDiff, Nat.reduceLT, ↓reduceIte, reduceCtorEq, Nat.reduceAdd, Nat.reduceLeDiff, Int.reduceBEq, Int.reduceBNe, Int.reduceLT, Int.reduceLE, Int.reduceGT, Int.reduceGE, Nat.reduceDiv, Nat.reduceMul, Nat.reduceBEq, Nat.reduceMod, Nat.reduceSub, e0, e1, e4, e5, e6, e7, hdec, g, gi]
      refine hQ _ _ _ ls q true ⟨B, Z, las, tl, rfl, e0, e1, e4, e5, hB, hqs, hL, hA, hT⟩ (by omega) ?_
      rcases hF with ⟨_, h2, _⟩ | ⟨_, h2⟩
      · cases h2
      · exact Or.inr ⟨rfl, h2⟩
    | false =>
      have hjq : j ≤ q := by
        rcases hF with ⟨_, _, h⟩ | ⟨h, _⟩
        · exact h.2.1
        · cases h
      have hnj : n - j = (n - (j + 1)) + 1 := by omega
      have heq := eq_lvs (t := tl) hL
      obtain ⟨l, c, al, t, B2, q2, G, T2, f2, k2, hl, l2, hB2, hK2, F2⟩ := rlevel_u hB hqs hs (z5 :: blk5 k 0 nm las tl [] .nil :: Z) T'
      have g2 := hB2.f5
      have hall : (las.all fun x => x.cells.length == 2) = true := hL.all lvAgg
      have hT2 : Keep T.length T T2 := hT.trans (hK2.le hT.1)
      obtain ⟨t', T3, ha, hA', hK'⟩ := app_oneF (x := .agg [.int c, .sl al t]) hT2.1 (hA.keep hK2) (by omega) hall rfl rfl
      simp only [↓wpre, wset, wcore, ne_eq, if_true, if_false, exists_eq_left', true_implies, false_implies, exists_const, exists_eq_right, binA, intA, loadA, storeA, pickC, setAt, mapO, argsE, X.isC, resA, oneA, unA, boundA, eqiA, eqsA, fillA, fillE, ASt.fz, strA, Nat.reduceEqDiff, Nat.reduceLT, ↓reduceIte, reduceCtorEq, Nat.reduceAdd, Nat.reduceLeDiff, Int.reduceBEq, Int.reduceBNe, Int.reduceLT, Int.reduceLE, Int.reduceGT, Int.reduceGE, Nat.reduceDiv, Nat.reduceMul, Nat.reduceBEq, Nat.reduceMod, Nat.reduceSub, List.length_append, List.append_assoc, e0, e1, e4, e5, e6, e7, hdec, k2, g, gi, g2, ha, heq]
      refine EQ_in ⟨j + 1, by omega, ls ++ [l], q2, f2, ⟨B2, _, _, t', rfl, e0, e1, e4, e5, hB2, l2, hL.append ⟨hl, trivial⟩, hA', hT2.trans hK'⟩, e6, next_ixv (by unfold lenB; omega), by simp [hlj], by omega, ?_⟩
      refine hF.comp F2 (fun h h2 => ⟨by omega, by omega, by omega, ?_⟩) id (fun h h2 => ?_)
      · rw [h.2.2.2, hnj, rLvs, h2.1, Option.bind_some]; simp only; rw [Option.map_map]
        congr 1
        funext z
        simp
      · rw [h.2.2.2, hnj, rLvs, h2]; rfl
theorem rentry_sh {i : Nat} {s : ByteArray} {p : Nat} {fl : Bool} {H : List AObj} {T : List Nat} {Tb : List Tm} {tab : List AV} {tt : Tl} (hi : H[i]? = some (rrd s p fl)) (hp : p ≤ s.size) (hs : s.size + 1 < capB) (hTb : LIs Tm.Is Tb tab) (hTs : ∀ x ∈ Tb, x.sz ≤ 4096 ∧ x.dp ≤ 200) (htb : tab.length ≤ lenB) :
    Sh md pfs 46 [.ptr i 0, .sl tab tt] ⟨H, T⟩ (AnyP i s H T fun q' f e => Fl fl f (rEntry Tb (s.toList.drop p) = some (e, s.toList.drop q') ∧ p < q') (rEntry Tb (s.toList.drop p) = none)) fun _ _ => False := by
  refine sh_of pf46_is (Nat.le_of_ble_eq_true rfl) ?_
  rw [body46]
  have g0 := (BR.start hi).f5
  have hK0 := Keep.refl T.length T (Nat.le_refl _)
  have z0 : in64 (0 : Int) := by unfold in64; omega
  have hn0 : ((⟨#[]⟩ : ByteArray)).size ≤ lenB := Nat.zero_le _
  have hs' : s.size ≤ capB := by omega
  obtain ⟨k, B1, q1, f1, k1, kk, l1, hB1, F1⟩ := rnum_u (BR.start hi) hp hs' [z5] T
  have g1 := hB1.f5
  have hno1 : rN (s.toList.drop p) = none → rEntry Tb (s.toList.drop p) = none := fun h => by rw [rEntry, h]; rfl
  have hno2 : rN (s.toList.drop p) = some (k, s.toList.drop q1) → rPay k (s.toList.drop q1) = none → rEntry Tb (s.toList.drop p) = none := fun h h2 => by rw [rEntry, h, Option.bind_some]; simp only; rw [h2]; rfl
  cases gz : (((k : Nat) : Int) == 0 || ((k : Nat) : Int) == 12)
  · simp only [Bool.or_eq_false_iff] at gz
    obtain ⟨ga, gb⟩ := gz
    have hk0 : ¬ (k = 0 ∨ k = 12) := by simp only [beq_eq_false_iff_ne, ne_eq] at ga gb; omega
    cases gt : (((k : Nat) : Int) == 2)
    · have hk2 : ¬ k = 2 := by simp only [beq_eq_false_iff_ne, ne_eq] at gt; omega
      cases gh : (((k : Nat) : Int) == 3)
      · have hk3 : ¬ k = 3 := by simp only [beq_eq_false_iff_ne, ne_eq] at gh; omega
        simp only [a46, b46, p46, pf46, ↓wpre, wset, wcore, ne_eq, if_true, if_false, exists_eq_left', true_implies, false_implies, exists_const, exists_eq_right, binA, intA, loadA, storeA, pickC, setAt, mapO, argsE, X.isC, resA, oneA, unA, boundA, eqiA, eqsA, fillA, fillE, ASt.fz, strA, Nat.reduceEqDiff, Nat.reduceLT, ↓reduceIte, reduceCtorEq, Nat.reduceAdd, Nat.reduceLeDiff, Int.reduceBEq, Int.reduceBNe, Int.reduceLT, Int.reduceLE, Int.reduceGT, Int.reduceGE, Nat.reduceDiv, Nat.reduceMul, Nat.reduceBEq, Nat.reduceMod, Nat.reduceSub, List.length_append, List.append_assoc, k1, g0, g1, ga, gb, gt, gh]
        exact rtail_run hs' hTb hTs htb (ls := []) kk z0 hn0 (F1.mono (fun h => ⟨h.1, by rw [rPay, if_neg hk0, if_neg hk2, if_neg hk3], h.2.2⟩) hno1) l1 rfl rfl rfl rfl hB1 trivial (Nat.zero_le _) hK0
      · have hk3 : k = 3 := by simp only [beq_iff_eq] at gh; omega
        obtain ⟨a, B2, q2, f2, k2, ha, l2, hB2, F2⟩ := rtext_u hB1 l1 hs' [z5, blk5 k 0 ⟨#[]⟩ [] .nil [] .nil] T
        have g2 := hB2.f5
        obtain ⟨n, B3, q3, f3, k3, n3, l3, hB3, F3⟩ := rnum_u hB2 l2 hs' [z5, blk5 k 0 (strOf a) [] .nil [] .nil] T
        have g3 := hB3.f5
        have F4 := (F1.comp F2 (G3 := rN (s.toList.drop p) = some (k, s.toList.drop q1) ∧ rText (s.toList.drop q1) = some (a, s.toList.drop q2) ∧ p < q2) (fun h h2 => ⟨h.1, h2.1, by omega⟩) hno1 (fun h h2 => hno2 h.1 (by rw [rPay, if_neg hk0, if_neg hk2, if_pos hk3, h2]; rfl))).comp F3 (G3 := rN (s.toList.drop p) = some (k, s.toList.drop q1) ∧ rPay k (s.toList.drop q1) = ((rLvs n (s.toList.drop q3)).map fun l => ((0, strOf a, l.1), l.2)) ∧ p < q3) (fun h h2 => ⟨h.1, (by rw [rPay, if_neg hk0, if_neg hk2, if_pos hk3, h.2.1, Option.bind_some]; simp only; rw [h2.1, Option.bind_some]; rfl), by omega⟩) id (fun h h2 => hno2 h.1 (by rw [rPay, if_neg hk0, if_neg hk2, if_pos hk3, h.2.1, Option.bind_some]; simp only; rw [h2]; rfl))
        simp only [a46, b46, p46, pf46, ↓wpre, wset, wcore, ne_eq, if_true, if_false, exists_eq_left', true_implies, false_implies, exists_const, exists_eq_right, binA, intA, loadA, storeA, pickC, setAt, mapO, argsE, X.isC, resA, oneA, unA, boundA, eqiA, eqsA, fillA, fillE, ASt.fz, strA, Nat.reduceEqDiff, Nat.reduceLT, ↓reduceIte, reduceCtorEq, Nat.reduceAdd, Nat.reduceLeDiff, Int.reduceBEq, Int.reduceBNe, Int.reduceLT, Int.reduceLE, Int.reduceGT, Int.reduceGE, Nat.reduceDiv, Nat.reduceMul, Nat.reduceBEq, Nat.reduceMod, Nat.reduceSub, List.length_append, List.append_assoc, k1, k2, k3, g0, g1, g2, g3, ga, gb, gt, gh]
        refine rlvl_loop hs (k := k) (nm := strOf a) (n := n) (q0 := q3) (f0 := f3) (tab := tab) (tt := tt) n3 ?_ ⟨B3, [], [], .nil, rfl, rfl, rfl, rfl, rfl, hB3, l3, trivial, Or.inl ⟨rfl, rfl⟩, hK0⟩ rfl rfl
        rintro E H' T' ls q f ⟨B, Z, las, tl, rfl, e0, e1, e4, e5, hB, hqs, hL, hA, hT⟩ hls hF
        simp only [BQ_e, LQ_n, BQ_n]
        exact rtail_run hs' hTb hTs htb kk z0 (by rw [strOf_size]; unfold capB at hs; unfold lenB; omega) (F4.comp hF (fun h h2 => ⟨h.1, (by rw [h.2.1, h2.1]; rfl), by omega⟩) id (fun h h2 => hno2 h.1 (by rw [h.2.1, h2]; rfl))) hqs e0 e1 e4 e5 hB hL (by rw [hL.len]; unfold capB at hs; unfold lenB; omega) hT
    · have hk2 : k = 2 := by simp only [beq_iff_eq] at gt; omega
      obtain ⟨l, c, al, t, B2, q2, G, T2, f2, k2, hl, l2, hB2, hK2, F2⟩ := rlevel_u hB1 l1 hs [z5, blk5 k 0 ⟨#[]⟩ [] .nil [] .nil] T
      have g2 := hB2.f5
      have heq : eqAV (.sl [] .nil) (.sl [] .nil) = true := eq_lvs (l := []) trivial
      obtain ⟨t', T3, ha, hA', hK'⟩ := app_oneF (n := T.length) (es := 2) (l := []) (x := .agg [.int c, .sl al t]) hK2.1 (Or.inl ⟨rfl, rfl⟩) (by simp) rfl rfl rfl
      simp only [a46, b46, p46, pf46, ↓wpre, wset, wcore, ne_eq, if_true, if_false, exists_eq_left', true_implies, false_implies, exists_const, exists_eq_right, binA, intA, loadA, storeA, pickC, setAt, mapO, argsE, X.isC, resA, oneA, unA, boundA, eqiA, eqsA, fillA, fillE, ASt.fz, strA, Nat.reduceEqDiff, Nat.reduceLT, ↓reduceIte, reduceCtorEq, Nat.reduceAdd, Nat.reduceLeDiff, Int.reduceBEq, Int.reduceBNe, Int.reduceLT, Int.reduceLE, Int.reduceGT, Int.reduceGE, Nat.reduceDiv, Nat.reduceMul, Nat.reduceBEq, Nat.reduceMod, Nat.reduceSub, List.length_append, List.append_assoc, k1, k2, g0, g1, g2, ga, gb, gt, heq, ha]
      exact rtail_run hs' hTb hTs htb (ls := [l]) kk z0 hn0 (F1.comp F2 (fun h h2 => ⟨h.1, (by rw [rPay, if_neg hk0, if_pos hk2, h2.1]; rfl), by omega⟩) hno1 (fun h h2 => hno2 h.1 (by rw [rPay, if_neg hk0, if_pos hk2, h2]; rfl))) l2 rfl rfl rfl rfl hB2 ⟨hl, trivial⟩ (show 1 ≤ lenB by unfold lenB; omega) (hK2.trans hK')
  · have hk0 : k = 0 ∨ k = 12 := by simp only [Bool.or_eq_true, beq_iff_eq] at gz; omega
    obtain ⟨n, B2, q2, f2, k2, n2, l2, hB2, F2⟩ := rnum_u hB1 l1 hs' [z5, blk5 k 0 ⟨#[]⟩ [] .nil [] .nil] T
    have g2 := hB2.f5
    have hin : in64 (n : Int) := by unfold in64; omega
    have F3 := F1.comp F2 (G3 := rN (s.toList.drop p) = some (k, s.toList.drop q1) ∧ rPay k (s.toList.drop q1) = some ((((n : Nat) : Int), ⟨#[]⟩, []), s.toList.drop q2) ∧ p < q2) (fun h h2 => ⟨h.1, (by rw [rPay, if_pos hk0, h2.1]; rfl), by omega⟩) hno1 (fun h h2 => hno2 h.1 (by rw [rPay, if_pos hk0, h2]; rfl))
    cases ga : (((k : Nat) : Int) == 0)
    · have gb : (((k : Nat) : Int) == 12) = true := by rw [ga] at gz; exact gz
      simp only [a46, b46, p46, pf46, ↓wpre, wset, wcore, ne_eq, if_true, if_false, exists_eq_left', true_implies, false_implies, exists_const, exists_eq_right, binA, intA, loadA, storeA, pickC, setAt, mapO, argsE, X.isC, resA, oneA, unA, boundA, eqiA, eqsA, fillA, fillE, ASt.fz, strA, Nat.reduceEqDiff, Nat.reduceLT, ↓reduceIte, reduceCtorEq, Nat.reduceAdd, Nat.reduceLeDiff, Int.reduceBEq, Int.reduceBNe, Int.reduceLT, Int.reduceLE, Int.reduceGT, Int.reduceGE, Nat.reduceDiv, Nat.reduceMul, Nat.reduceBEq, Nat.reduceMod, Nat.reduceSub, List.length_append, List.append_assoc, k1, k2, g0, g1, g2, ga, gb]
      exact rtail_run hs' hTb hTs htb (ls := []) kk hin hn0 F3 l2 rfl rfl rfl rfl hB2 trivial (Nat.zero_le _) hK0
    · simp only [a46, b46, p46, pf46, ↓wpre, wset, wcore, ne_eq, if_true, if_false, exists_eq_left', true_implies, false_implies, exists_const, exists_eq_right, binA, intA, loadA, storeA, pickC, setAt, mapO, argsE, X.isC, resA, oneA, unA, boundA, eqiA, eqsA, fillA, fillE, ASt.fz, strA, Nat.reduceEqDiff, Nat.reduceLT, ↓reduceIte, reduceCtorEq, Nat.reduceAdd, Nat.reduceLeDiff, Int.reduceBEq, Int.reduceBNe, Int.reduceLT, Int.reduceLE, Int.reduceGT, Int.reduceGE, Nat.reduceDiv, Nat.reduceMul, Nat.reduceBEq, Nat.reduceMod, Nat.reduceSub, List.length_append, List.append_assoc, k1, k2, g0, g1, g2, ga]
      exact rtail_run hs' hTb hTs htb (ls := []) kk hin hn0 F3 l2 rfl rfl rfl rfl hB2 trivial (Nat.zero_le _) hK0
end Go.Proofs.Eng
