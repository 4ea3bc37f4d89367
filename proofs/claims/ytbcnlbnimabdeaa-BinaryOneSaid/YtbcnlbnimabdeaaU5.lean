/- An entry is read. No conditions beyond those in the theorems. -/
import Derived.Test.YtbcnlbnimabdeaaU4
set_option linter.all false
set_option linter.deprecated false
set_option linter.unnecessarySimpa false
set_option linter.unusedVariables false
set_option linter.unusedSimpArgs false
set_option linter.defProp false
namespace Go.Proofs.Eng
open Go Go.Proofs
set_option maxRecDepth 100000
set_option maxHeartbeats 8000000
def a43 : PC := match pf43.body with | .seq a _ => a | _ => .skip
def b43 : PC := match pf43.body with | .seq _ (.seq a _) => a | _ => .skip
def c43 : PC := match pf43.body with | .seq _ (.seq _ (.seq a _)) => a | _ => .skip
def d43 : PC := match pf43.body with | .seq _ (.seq _ (.seq _ (.seq a _))) => a | _ => .skip
def p43 : PC := match pf43.body with | .seq _ (.seq _ (.seq _ (.seq _ (.seq a _)))) => a | _ => .skip
theorem body43 : pf43.body = .seq a43 (.seq b43 (.seq c43 (.seq d43 (.seq p43 tail43)))) := rfl
def ll43 : PC := match p43 with | .seq _ (.block _ (.seq _ (.cond _ _ (.seq _ (.cond _ _ (.seq _ (.cond _ (.seq _ (.seq _ (.block _ l))) _))))))) => l | _ => .skip
def LSt (i : Nat) (s : ByteArray) (H : List AObj) (T : List Nat) (tab : List AV) (tt : Tl) (k : Nat) (nm : ByteArray) (ls : List Lv) (q : Nat) (E : Env) (H' : List AObj) (T' : List Nat) : Prop :=
  ∃ B Z las tl, H' = B ++ (z7 :: blk1 k 0 nm las tl :: Z) ∧ E 0 = .ptr i 0 ∧ E 1 = .sl tab tt ∧ E 4 = .ptr H.length 0 ∧ E 5 = .ptr (H.length + 1) 0 ∧ E 6 = .ptr (H.length + 1) 0 ∧ BR B H i (rdr s q) ∧ LIs Lv.Is ls las ∧ AppF T.length T' las tl ∧ Keep T.length T T'
theorem lvl_loop {i : Nat} {s : ByteArray} {H : List AObj} {T : List Nat} {tab : List AV} {tt : Tl} (hs : s.size ≤ capB) {k : Nat} {nm : ByteArray} {n q0 : Nat} (hn : n ≤ mostN) (hq0 : q0 ≤ s.size) {Q : AExit → St → Prop}
    (hQ : ∀ E H' T' ls q, LSt i s H T tab tt k nm ls q E H' T' → rLvs n (s.toList.drop q0) = some (ls, s.toList.drop q) → q0 ≤ q → q ≤ s.size → ls.length ≤ s.size → Q (.exit 1) ⟨tmE 130 E, [], ⟨H', T'⟩⟩)
    (hbad : ∀ tm s', rLvs n (s.toList.drop q0) = none → Lost i s H s' → Q (.pan failV) ⟨tm, [], s'⟩)
    {E : Env} {H' : List AObj} {T' : List Nat} (h : LSt i s H T tab tt k nm [] q0 E H' T') (e43 : E 43 = .int n) (e44 : E 44 = .int 0) : W (run md pfs) md ll43 ⟨tmE 130 E, [], ⟨H', T'⟩⟩ Q () := by
  simp only [ll43, p43, pf43]
  refine W_loopE (fun j => n - j) (fun j E H' T' => ∃ ls q, LSt i s H T tab tt k nm ls q E H' T' ∧ E 43 = .int n ∧ E 44 = .int (j : Nat) ∧ j ≤ n ∧ ls.length = j ∧ q0 ≤ q ∧ j ≤ q ∧ q ≤ s.size ∧ rLvs n (s.toList.drop q0) = (rLvs (n - j) (s.toList.drop q)).map fun l => (ls ++ l.1, l.2)) ?_ 0 ⟨[], q0, h, e43, e44, Nat.zero_le _, rfl, Nat.le_refl _, Nat.zero_le _, hq0, by simp⟩
  clear h e43 e44 E H' T'
  rintro j E H' T' ⟨ls, q, ⟨B, Z, las, tl, rfl, e0, e1, e4, e5, e6, hB, hL, hA, hT⟩, e43, e44, hj, hlj, hq, hjq, hqs, hR⟩
  have f := hB.f
  have hll : las.length = j := by rw [hL.len, hlj]
  rcases Nat.lt_or_ge j n with hlt | hge
  · have hdec : decide ((j : Int) < n) = true := by simpa using hlt
    have hnj : n - j = (n - (j + 1)) + 1 := by omega
    have heq := eq_lvs (t := tl) hL
    rcases level_b hB hqs hs (z7 :: blk1 k 0 nm las tl :: Z) T' with ⟨l, c, al, t, B2, q2, G, T2, r2, l1, l2, hl, hB2, hK2, k2⟩ | ⟨B2, q2, G, T2, r2, hB2, k2⟩
    · have f2 := hB2.f
      have hall : (las.all fun x => x.cells.length == 2) = true := hL.all lvAgg
      have hT2 : Keep T.length T T2 := hT.trans (hK2.le hT.1)
      obtain ⟨t', T3, ha, hA', hK'⟩ := app_oneF (x := .agg [.int c, .sl al t]) hT2.1 (hA.keep hK2) (by unfold capB at *; omega) hall rfl rfl
      simp only [↓wpre, wset, wcore, ne_eq, if_true, if_false, exists_eq_left', true_implies, false_implies, exists_const, exists_eq_right, binA, intA, loadA, storeA, pickC, setAt, mapO, argsE, X.isC, resA, oneA, unA, boundA, eqiA, eqsA, fillA, fillE, ASt.fz, strA, Nat.reduceEqDiff, Nat.reduceLT, ↓reduceIte, reduceCtorEq, Nat.reduceAdd, Nat.reduceLeDiff, Int.reduceBEq, Int.reduceBNe, Int.reduceLT, Int.reduceLE, Int.reduceGT, Int.reduceGE, Nat.reduceDiv, Nat.reduceMul, Nat.reduceBEq, Nat.reduceMod, Nat.reduceSub, List.length_append, List.append_assoc, e0, e1, e4, e5, e6, e43, e44, hdec, k2, f, f2, ha, heq]
      refine EQ_in ⟨j + 1, by omega, ls ++ [l], q2, ⟨B2, _, _, t', rfl, e0, e1, e4, e5, e6, hB2, hL.append ⟨hl, trivial⟩, hA', hT2.trans hK'⟩, e43, next_ixv (by unfold mostN at hn; unfold lenB; omega), by omega, by simp [hlj], by omega, by omega, l2, ?_⟩
      rw [hR, hnj, rLvs, r2, Option.bind_some]; simp only; rw [Option.map_map]
      congr 1
      funext z
      simp
    · simp only [↓wpre, wset, wcore, ne_eq, if_true, if_false, exists_eq_left', true_implies, false_implies, exists_const, exists_eq_right, binA, intA, loadA, storeA, pickC, setAt, mapO, argsE, X.isC, resA, oneA, unA, boundA, eqiA, eqsA, fillA, fillE, ASt.fz, strA, Nat.reduceEqDiff, Nat.reduceLT, ↓reduceIte, reduceCtorEq, Nat.reduceAdd, Nat.reduceLeDiff, Int.reduceBEq, Int.reduceBNe, Int.reduceLT, Int.reduceLE, Int.reduceGT, Int.reduceGE, Nat.reduceDiv, Nat.reduceMul, Nat.reduceBEq, Nat.reduceMod, Nat.reduceSub, List.length_append, List.append_assoc, e0, e1, e4, e5, e6, e43, e44, hdec, k2, f]
      exact hbad _ _ (by rw [hR, hnj, rLvs, r2]; rfl) ⟨B2, q2, _, _, rfl, hB2⟩
  · have hdec : decide ((j : Int) < n) = false := by simpa using hge
    have hjn : j = n := by omega
    simp only [↓wpre, wset, wcore, ne_eq, if_true, if_false, exists_eq_left', true_implies, false_implies, exists_const, exists_eq_right, binA, intA, loadA, storeA, pickC, setAt, mapO, argsE, X.isC, resA, oneA, unA, boundA, eqiA, eqsA, fillA, fillE, ASt.fz, strA, Nat.reduceEqDiff, Nat.reduceLT, ↓reduceIte, reduceCtorEq, Nat.reduceAdd, Nat.reduceLeDiff, Int.reduceBEq, Int.reduceBNe, Int.reduceLT, Int.reduceLE, Int.reduceGT, Int.reduceGE, Nat.reduceDiv, Nat.reduceMul, Nat.reduceBEq, Nat.reduceMod, Nat.reduceSub, e43, e44, hdec]
    refine hQ _ _ _ ls q ⟨B, Z, las, tl, rfl, e0, e1, e4, e5, e6, hB, hL, hA, hT⟩ ?_ hq hqs (by omega)
    rw [hR, hjn, Nat.sub_self, rLvs]
    simp
theorem entry_sh {i : Nat} {s : ByteArray} {p : Nat} {H : List AObj} {T : List Nat} {Tb : List Tm} {tab : List AV} {tt : Tl} (hi : H[i]? = some (rdr s p)) (hp : p ≤ s.size) (hs : s.size ≤ capB) (hTb : LIs EIs Tb tab) (htb : tab.length ≤ lenB) :
    Sh md pfs 43 [.ptr i 0, .sl tab tt] ⟨H, T⟩ (EntP i s p H T Tb) (EntB i s p H Tb) := by
  refine sh_of pf43_is (Nat.le_of_ble_eq_true rfl) ?_
  rw [body43]
  have f0 := (BR.start hi).f
  have hK0 := Keep.refl T.length T (Nat.le_refl _)
  rcases number_b (BR.start hi) hp hs [z7, .cells false [.int 0, .int 0, .str ⟨#[]⟩, .sl [] .nil, .sl [] .nil, .int 1, .int 0]] T with ⟨k, B1, q1, r1, kk, l1, l2, hB1, k1⟩ | ⟨B1, q1, r1, hB1, k1⟩
  · have f1 := hB1.f
    have z0 : in64 (0 : Int) := by unfold in64; omega
    have hn0 : ((⟨#[]⟩ : ByteArray)).size ≤ lenB := Nat.zero_le _
    cases g0 : (((k : Nat) : Int) == 0 || ((k : Nat) : Int) == 12)
    · simp only [Bool.or_eq_false_iff] at g0
      obtain ⟨ga, gb⟩ := g0
      have hk0 : ¬ (k = 0 ∨ k = 12) := by simp only [beq_eq_false_iff_ne, ne_eq] at ga gb; omega
      cases g2 : (((k : Nat) : Int) == 2)
      · have hk2 : ¬ k = 2 := by simp only [beq_eq_false_iff_ne, ne_eq] at g2; omega
        cases g3 : (((k : Nat) : Int) == 3)
        · have hk3 : ¬ k = 3 := by simp only [beq_eq_false_iff_ne, ne_eq] at g3; omega
          simp only [a43, b43, c43, d43, p43, pf43, ↓wpre, wset, wcore, ne_eq, if_true, if_false, exists_eq_left', true_implies, false_implies, exists_const, exists_eq_right, binA, intA, loadA, storeA, pickC, setAt, mapO, argsE, X.isC, resA, oneA, unA, boundA, eqiA, eqsA, fillA, fillE, ASt.fz, strA, Nat.reduceEqDiff, Nat.reduceLT, ↓reduceIte, reduceCtorEq, Nat.reduceAdd, Nat.reduceLeDiff, Int.reduceBEq, Int.reduceBNe, Int.reduceLT, Int.reduceLE, Int.reduceGT, Int.reduceGE, Nat.reduceDiv, Nat.reduceMul, Nat.reduceBEq, Nat.reduceMod, Nat.reduceSub, List.length_append, List.append_assoc, k1, f0, f1, ga, gb, g2, g3]
          exact tail_run hs hTb htb (ls := []) kk z0 hn0 r1 (by rw [rPay, if_neg hk0, if_neg hk2, if_neg hk3]) l1 l2 rfl rfl rfl rfl rfl hB1 trivial (Nat.zero_le _) hK0
        · have hk3 : k = 3 := by simp only [beq_iff_eq] at g3; omega
          rcases text_b hB1 l2 hs [z7, blk1 k 0 ⟨#[]⟩ [] .nil] T with ⟨a, B2, q2, r2, m1, m2, ha, hB2, k2⟩ | ⟨B2, q2, r2, hB2, k2⟩
          · have f2 := hB2.f
            rcases number_b hB2 m2 hs [z7, blk1 k 0 (strOf a) [] .nil] T with ⟨n, B3, q3, r3, n3, o1, o2, hB3, k3⟩ | ⟨B3, q3, r3, hB3, k3⟩
            · have f3 := hB3.f
              have hP : rPay k (s.toList.drop q1) = (rLvs n (s.toList.drop q3)).map fun l => ((0, strOf a, l.1), l.2) := by
                rw [rPay, if_neg hk0, if_neg hk2, if_pos hk3, r2, Option.bind_some]; simp only; rw [r3, Option.bind_some]; rfl
              simp only [a43, b43, c43, d43, p43, pf43, ↓wpre, wset, wcore, ne_eq, if_true, if_false, exists_eq_left', true_implies, false_implies, exists_const, exists_eq_right, binA, intA, loadA, storeA, pickC, setAt, mapO, argsE, X.isC, resA, oneA, unA, boundA, eqiA, eqsA, fillA, fillE, ASt.fz, strA, Nat.reduceEqDiff, Nat.reduceLT, ↓reduceIte, reduceCtorEq, Nat.reduceAdd, Nat.reduceLeDiff, Int.reduceBEq, Int.reduceBNe, Int.reduceLT, Int.reduceLE, Int.reduceGT, Int.reduceGE, Nat.reduceDiv, Nat.reduceMul, Nat.reduceBEq, Nat.reduceMod, Nat.reduceSub, List.length_append, List.append_assoc, k1, k2, k3, f0, f1, f2, f3, ga, gb, g2, g3]
              refine lvl_loop hs (k := k) (nm := strOf a) (n := n) (q0 := q3) (tab := tab) (tt := tt) n3 o2 ?_ ?_ ⟨B3, [], [], .nil, rfl, rfl, rfl, rfl, rfl, rfl, hB3, trivial, Or.inl ⟨rfl, rfl⟩, hK0⟩ rfl rfl
              · rintro E H' T' ls q ⟨B, Z, las, tl, rfl, e0, e1, e4, e5, e6, hB, hL, hA, hT⟩ hR hq hqs hls
                simp only [BQ_e, LQ_n, BQ_n]
                exact tail_run hs hTb htb kk z0 (by rw [strOf_size]; unfold capB at hs; unfold lenB; omega) r1 (by rw [hP, hR]; rfl) (by omega) hqs e0 e1 e4 e5 e6 hB hL (by rw [hL.len]; unfold capB at hs; unfold lenB; omega) hT
              · intro tm s' hR hl
                simp only [BQ_p, LQ_p, SQ_pan, pz_fail, fr_fail]
                exact ⟨trivial, _, rfl, rfl, by rw [rEntry, r1, Option.bind_some]; simp only; rw [hP, hR]; rfl, hl⟩
            · simp only [a43, b43, c43, d43, p43, pf43, ↓wpre, wset, wcore, ne_eq, if_true, if_false, exists_eq_left', true_implies, false_implies, exists_const, exists_eq_right, binA, intA, loadA, storeA, pickC, setAt, mapO, argsE, X.isC, resA, oneA, unA, boundA, eqiA, eqsA, fillA, fillE, ASt.fz, strA, Nat.reduceEqDiff, Nat.reduceLT, ↓reduceIte, reduceCtorEq, Nat.reduceAdd, Nat.reduceLeDiff, Int.reduceBEq, Int.reduceBNe, Int.reduceLT, Int.reduceLE, Int.reduceGT, Int.reduceGE, Nat.reduceDiv, Nat.reduceMul, Nat.reduceBEq, Nat.reduceMod, Nat.reduceSub, List.length_append, List.append_assoc, k1, k2, k3, f0, f1, f2, ga, gb, g2, g3, SQ_pan, pz_fail, fr_fail]
              exact ⟨rfl, by rw [rEntry, r1, Option.bind_some]; simp only; rw [rPay, if_neg hk0, if_neg hk2, if_pos hk3, r2, Option.bind_some]; simp only; rw [r3]; rfl, B3, q3, _, _, rfl, hB3⟩
          · simp only [a43, b43, c43, d43, p43, pf43, ↓wpre, wset, wcore, ne_eq, if_true, if_false, exists_eq_left', true_implies, false_implies, exists_const, exists_eq_right, binA, intA, loadA, storeA, pickC, setAt, mapO, argsE, X.isC, resA, oneA, unA, boundA, eqiA, eqsA, fillA, fillE, ASt.fz, strA, Nat.reduceEqDiff, Nat.reduceLT, ↓reduceIte, reduceCtorEq, Nat.reduceAdd, Nat.reduceLeDiff, Int.reduceBEq, Int.reduceBNe, Int.reduceLT, Int.reduceLE, Int.reduceGT, Int.reduceGE, Nat.reduceDiv, Nat.reduceMul, Nat.reduceBEq, Nat.reduceMod, Nat.reduceSub, List.length_append, List.append_assoc, k1, k2, f0, f1, ga, gb, g2, g3, SQ_pan, pz_fail, fr_fail]
            exact ⟨rfl, by rw [rEntry, r1, Option.bind_some]; simp only; rw [rPay, if_neg hk0, if_neg hk2, if_pos hk3, r2]; rfl, B2, q2, _, _, rfl, hB2⟩
      · have hk2 : k = 2 := by simp only [beq_iff_eq] at g2; omega
        rcases level_b hB1 l2 hs [z7, blk1 k 0 ⟨#[]⟩ [] .nil] T with ⟨l, c, al, t, B2, q2, G, T2, r2, m1, m2, hl, hB2, hK2, k2⟩ | ⟨B2, q2, G, T2, r2, hB2, k2⟩
        · have f2 := hB2.f
          simp only [a43, b43, c43, d43, p43, pf43, ↓wpre, wset, wcore, ne_eq, if_true, if_false, exists_eq_left', true_implies, false_implies, exists_const, exists_eq_right, binA, intA, loadA, storeA, pickC, setAt, mapO, argsE, X.isC, resA, oneA, unA, boundA, eqiA, eqsA, fillA, fillE, ASt.fz, strA, Nat.reduceEqDiff, Nat.reduceLT, ↓reduceIte, reduceCtorEq, Nat.reduceAdd, Nat.reduceLeDiff, Int.reduceBEq, Int.reduceBNe, Int.reduceLT, Int.reduceLE, Int.reduceGT, Int.reduceGE, Nat.reduceDiv, Nat.reduceMul, Nat.reduceBEq, Nat.reduceMod, Nat.reduceSub, List.length_append, List.append_assoc, k1, k2, f0, f1, f2, ga, gb, g2]
          exact tail_run hs hTb htb (ls := [l]) kk z0 hn0 r1 (by rw [rPay, if_neg hk0, if_pos hk2, r2]; rfl) (by omega) m2 rfl rfl rfl rfl rfl hB2 ⟨hl, trivial⟩ (show 1 ≤ lenB by unfold lenB; omega) hK2
        · simp only [a43, b43, c43, d43, p43, pf43, ↓wpre, wset, wcore, ne_eq, if_true, if_false, exists_eq_left', true_implies, false_implies, exists_const, exists_eq_right, binA, intA, loadA, storeA, pickC, setAt, mapO, argsE, X.isC, resA, oneA, unA, boundA, eqiA, eqsA, fillA, fillE, ASt.fz, strA, Nat.reduceEqDiff, Nat.reduceLT, ↓reduceIte, reduceCtorEq, Nat.reduceAdd, Nat.reduceLeDiff, Int.reduceBEq, Int.reduceBNe, Int.reduceLT, Int.reduceLE, Int.reduceGT, Int.reduceGE, Nat.reduceDiv, Nat.reduceMul, Nat.reduceBEq, Nat.reduceMod, Nat.reduceSub, List.length_append, List.append_assoc, k1, k2, f0, f1, ga, gb, g2, SQ_pan, pz_fail, fr_fail]
          exact ⟨rfl, by rw [rEntry, r1, Option.bind_some]; simp only; rw [rPay, if_neg hk0, if_pos hk2, r2]; rfl, B2, q2, _, _, rfl, hB2⟩
    · have hk0 : k = 0 ∨ k = 12 := by simp only [Bool.or_eq_true, beq_iff_eq] at g0; omega
      rcases number_b hB1 l2 hs [z7, blk1 k 0 ⟨#[]⟩ [] .nil] T with ⟨n, B2, q2, r2, n2, m1, m2, hB2, k2⟩ | ⟨B2, q2, r2, hB2, k2⟩
      · have f2 := hB2.f
        have hin : in64 (n : Int) := by unfold in64; unfold mostN at n2; omega
        have hP : rPay k (s.toList.drop q1) = some ((((n : Nat) : Int), ⟨#[]⟩, []), s.toList.drop q2) := by rw [rPay, if_pos hk0, r2]; rfl
        cases ga : (((k : Nat) : Int) == 0)
        · have gb : (((k : Nat) : Int) == 12) = true := by rw [ga] at g0; exact g0
          simp only [a43, b43, c43, d43, p43, pf43, ↓wpre, wset, wcore, ne_eq, if_true, if_false, exists_eq_left', true_implies, false_implies, exists_const, exists_eq_right, binA, intA, loadA, storeA, pickC, setAt, mapO, argsE, X.isC, resA, oneA, unA, boundA, eqiA, eqsA, fillA, fillE, ASt.fz, strA, Nat.reduceEqDiff, Nat.reduceLT, ↓reduceIte, reduceCtorEq, Nat.reduceAdd, Nat.reduceLeDiff, Int.reduceBEq, Int.reduceBNe, Int.reduceLT, Int.reduceLE, Int.reduceGT, Int.reduceGE, Nat.reduceDiv, Nat.reduceMul, Nat.reduceBEq, Nat.reduceMod, Nat.reduceSub, List.length_append, List.append_assoc, k1, k2, f0, f1, f2, ga, gb]
          exact tail_run hs hTb htb (ls := []) kk hin hn0 r1 hP (by omega) m2 rfl rfl rfl rfl rfl hB2 trivial (Nat.zero_le _) hK0
        · simp only [a43, b43, c43, d43, p43, pf43, ↓wpre, wset, wcore, ne_eq, if_true, if_false, exists_eq_left', true_implies, false_implies, exists_const, exists_eq_right, binA, intA, loadA, storeA, pickC, setAt, mapO, argsE, X.isC, resA, oneA, unA, boundA, eqiA, eqsA, fillA, fillE, ASt.fz, strA, Nat.reduceEqDiff, Nat.reduceLT, ↓reduceIte, reduceCtorEq, Nat.reduceAdd, Nat.reduceLeDiff, Int.reduceBEq, Int.reduceBNe, Int.reduceLT, Int.reduceLE, Int.reduceGT, Int.reduceGE, Nat.reduceDiv, Nat.reduceMul, Nat.reduceBEq, Nat.reduceMod, Nat.reduceSub, List.length_append, List.append_assoc, k1, k2, f0, f1, f2, ga]
          exact tail_run hs hTb htb (ls := []) kk hin hn0 r1 hP (by omega) m2 rfl rfl rfl rfl rfl hB2 trivial (Nat.zero_le _) hK0
      · have hN : rEntry Tb (s.toList.drop p) = none := by rw [rEntry, r1, Option.bind_some]; simp only; rw [rPay, if_pos hk0, r2]; rfl
        cases ga : (((k : Nat) : Int) == 0)
        · have gb : (((k : Nat) : Int) == 12) = true := by rw [ga] at g0; exact g0
          simp only [a43, b43, c43, d43, p43, pf43, ↓wpre, wset, wcore, ne_eq, if_true, if_false, exists_eq_left', true_implies, false_implies, exists_const, exists_eq_right, binA, intA, loadA, storeA, pickC, setAt, mapO, argsE, X.isC, resA, oneA, unA, boundA, eqiA, eqsA, fillA, fillE, ASt.fz, strA, Nat.reduceEqDiff, Nat.reduceLT, ↓reduceIte, reduceCtorEq, Nat.reduceAdd, Nat.reduceLeDiff, Int.reduceBEq, Int.reduceBNe, Int.reduceLT, Int.reduceLE, Int.reduceGT, Int.reduceGE, Nat.reduceDiv, Nat.reduceMul, Nat.reduceBEq, Nat.reduceMod, Nat.reduceSub, List.length_append, List.append_assoc, k1, k2, f0, f1, ga, gb, SQ_pan, pz_fail, fr_fail]
          exact ⟨rfl, hN, B2, q2, _, _, rfl, hB2⟩
        · simp only [a43, b43, c43, d43, p43, pf43, ↓wpre, wset, wcore, ne_eq, if_true, if_false, exists_eq_left', true_implies, false_implies, exists_const, exists_eq_right, binA, intA, loadA, storeA, pickC, setAt, mapO, argsE, X.isC, resA, oneA, unA, boundA, eqiA, eqsA, fillA, fillE, ASt.fz, strA, Nat.reduceEqDiff, Nat.reduceLT, ↓reduceIte, reduceCtorEq, Nat.reduceAdd, Nat.reduceLeDiff, Int.reduceBEq, Int.reduceBNe, Int.reduceLT, Int.reduceLE, Int.reduceGT, Int.reduceGE, Nat.reduceDiv, Nat.reduceMul, Nat.reduceBEq, Nat.reduceMod, Nat.reduceSub, List.length_append, List.append_assoc, k1, k2, f0, f1, ga, SQ_pan, pz_fail, fr_fail]
          exact ⟨rfl, hN, B2, q2, _, _, rfl, hB2⟩
  · simp only [a43, b43, c43, d43, p43, pf43, ↓wpre, wset, wcore, ne_eq, if_true, if_false, exists_eq_left', true_implies, false_implies, exists_const, exists_eq_right, binA, intA, loadA, storeA, pickC, setAt, mapO, argsE, X.isC, resA, oneA, unA, boundA, eqiA, eqsA, fillA, fillE, ASt.fz, strA, Nat.reduceEqDiff, Nat.reduceLT, ↓reduceIte, reduceCtorEq, Nat.reduceAdd, Nat.reduceLeDiff, Int.reduceBEq, Int.reduceBNe, Int.reduceLT, Int.reduceLE, Int.reduceGT, Int.reduceGE, Nat.reduceDiv, Nat.reduceMul, Nat.reduceBEq, Nat.reduceMod, Nat.reduceSub, List.length_append, List.append_assoc, k1, f0, SQ_pan, pz_fail, fr_fail]
    exact ⟨rfl, by rw [rEntry, r1]; rfl, B1, q1, _, _, rfl, hB1⟩
end Go.Proofs.Eng
