/- The reference's GetTerms: its loops. No conditions beyond those in the theorems. -/
import Derived.Test.YtbcnlbnimabdeaaU12
import Derived.Test.YtbcnlbnimabdeaaU7
set_option linter.all false
set_option linter.deprecated false
set_option linter.unnecessarySimpa false
set_option linter.unusedVariables false
set_option linter.unusedSimpArgs false
set_option linter.defProp false
namespace Go.Proofs.Eng
open Go Go.Proofs
set_option maxRecDepth 100000
set_option maxHeartbeats 8000000
theorem rentry_u {i : Nat} {s : ByteArray} {p : Nat} {fl : Bool} {B H : List AObj} {Tb : List Tm} {tab : List AV} (hB : BR B H i (rrd s p fl)) (hp : p ≤ s.size) (hs : s.size + 1 < capB) (hTb : LIs Tm.Is Tb tab) (hTs : ∀ x ∈ Tb, x.sz ≤ 4096 ∧ x.dp ≤ 200) (htb : tab.length ≤ lenB) (tt : Tl) (Z : List AObj) (T : List Nat) :
    ∃ (e : Tm) (c : List AV) (B' : List AObj) (q : Nat) (G : List AObj) (T' : List Nat) (fl' : Bool), (∀ K KP, CW (run md pfs) md false ⟨B ++ Z, T⟩ 46 [.ptr i 0, .sl tab tt] K KP () = K (.agg c) ⟨B' ++ (Z ++ G), T'⟩) ∧ e.Is (.agg c) ∧ c.length = 5 ∧ c.take 5 = c ∧ c.all oneCell = true ∧ q ≤ s.size ∧ BR B' H i (rrd s q fl') ∧ Keep T.length T T' ∧ Fl fl fl' (rEntry Tb (s.toList.drop p) = some (e, s.toList.drop q) ∧ p < q) (rEntry Tb (s.toList.drop p) = none) := by
  obtain ⟨v, _, ⟨e, B2, q, G, T', fl', h1, rfl, h3, h4, h5, h6⟩, hc⟩ := (rentry_sh (T := T) (tt := tt) (app_get_of hB.get Z) hp hs hTb hTs htb).callRet rfl
  obtain ⟨c, rfl, o1, o2, o3⟩ := tmCells h1
  rw [h4.eq, hB.app, List.append_assoc] at hc
  exact ⟨e, c, _, q, G, T', fl', hc, h1, o1, o2, o3, h3, hB.up _, h5, h6⟩
def tl20 : PC := match pf20.body with | .seq _ (.seq _ (.seq _ (.seq _ (.seq (.seq _ (.block _ l)) _)))) => l | _ => .skip
def rl20 : PC := match pf20.body with | .seq _ (.seq _ (.seq _ (.seq _ (.seq _ (.seq _ (.seq _ (.seq (.seq _ (.block _ l)) _))))))) => l | _ => .skip
def end20 : PC := match pf20.body with | .seq _ (.seq _ (.seq _ (.seq _ (.seq _ (.seq _ (.seq _ (.seq _ r))))))) => r | _ => .skip
theorem rtab_loop {s : ByteArray} {H : List AObj} {T : List Nat} (hs : s.size + 1 < capB) {n q0 : Nat} {f0 : Bool} (hn : n < 34359738368) (hq0 : q0 ≤ s.size) {Q : AExit → St → Prop}
    (hQ : ∀ E T' Tb tab tt B Z q f, E 0 = .str s → E 5 = .ptr 0 0 → E 7 = .sl tab tt → E 8 = .sl [] .nil → BR B H 0 (rrd s q f) → q ≤ s.size → LIs Tm.Is Tb tab → tab.length ≤ s.size + 1 → Fl f0 f (rTab n [] (s.toList.drop q0) = some (Tb, s.toList.drop q) ∧ q0 ≤ q) (rTab n [] (s.toList.drop q0) = none) → Q (.exit 0) ⟨tmE 99 E, [], ⟨B ++ Z, T'⟩⟩)
    {E : Env} {H' B Z : List AObj} (hH : H' = B ++ Z) (hB : BR B H 0 (rrd s q0 f0)) (e0 : E 0 = .str s) (e5 : E 5 = .ptr 0 0) (e6 : E 6 = .int n) (e7 : E 7 = .sl [] .nil) (e8 : E 8 = .sl [] .nil) (e9 : E 9 = .int 0) : W (run md pfs) md tl20 ⟨tmE 99 E, [], ⟨H', T⟩⟩ Q () := by
  subst hH
  simp only [tl20, pf20]
  refine W_loopE (fun j => n - j) (fun j E H' T' => ∃ Tb tab tt B Z q f, H' = B ++ Z ∧ E 0 = .str s ∧ E 5 = .ptr 0 0 ∧ E 6 = .int n ∧ E 7 = .sl tab tt ∧ E 8 = .sl [] .nil ∧ E 9 = .int (j : Nat) ∧ BR B H 0 (rrd s q f) ∧ q ≤ s.size ∧ LIs Tm.Is Tb tab ∧ tab.length = j ∧ j ≤ s.size + 1 ∧ AppF 0 T' tab tt ∧ Fl f0 f (j ≤ n ∧ j ≤ q ∧ q0 ≤ q ∧ (∀ x ∈ Tb, x.sz ≤ 4096 ∧ x.dp ≤ 200) ∧ rTab n [] (s.toList.drop q0) = rTab (n - j) Tb (s.toList.drop q)) (rTab n [] (s.toList.drop q0) = none)) ?_ 0 ⟨[], [], .nil, B, Z, q0, f0, rfl, e0, e5, e6, e7, e8, e9, hB, hq0, trivial, rfl, Nat.zero_le _, Or.inl ⟨rfl, rfl⟩, by
    cases f0 with
    | true => exact Or.inr ⟨rfl, Or.inl rfl⟩
    | false => exact Or.inl ⟨rfl, rfl, Nat.zero_le _, Nat.zero_le _, Nat.le_refl _, (fun x h => by simp at h), rfl⟩⟩
  clear hB e0 e5 e6 e7 e8 e9 E B Z
  rintro j E H' T' ⟨Tb, tab, tt, B, Z, q, f, rfl, e0, e5, e6, e7, e8, e9, hB, hqs, hTb, htj, hjs, hA, hF⟩
  have gi := rrd_get hB
  cases hdec : decide ((j : Int) < n)
  · have hge : n ≤ j := by simp only [decide_eq_false_iff_not] at hdec; omega
    simp only [↓wpre, wset, wcore, ne_eq, if_true, if_false, exists_eq_left', true_implies, false_implies, exists_const, exists_eq_right, binA, intA, loadA, storeA, pickC, setAt, mapO, argsE, X.isC, resA, oneA, unA, boundA, eqiA, eqsA, fillA, fillE, ASt.fz, strA, Nat.reduceEqDiff, Nat.reduceLT, ↓reduceIte, reduceCtorEq, Nat.reduceAdd, Nat.reduceLeDiff, Int.reduceBEq, Int.reduceBNe, Int.reduceLT, Int.reduceLE, Int.reduceGT, Int.reduceGE, Nat.reduceDiv, Nat.reduceMul, Nat.reduceBEq, Nat.reduceMod, Nat.reduceSub, e0, e5, e6, e7, e8, e9, hdec]
    refine hQ _ _ Tb tab tt B Z q f e0 e5 e7 e8 hB hqs hTb (by omega) (hF.mono (fun h => ⟨?_, h.2.2.1⟩) id)
    rw [h.2.2.2.2, show j = n by omega, Nat.sub_self, rTab]
  · have hlt : j < n := by simp only [decide_eq_true_eq] at hdec; omega
    cases f with
    | true =>
      simp only [↓wpre, wset, wcore, ne_eq, if_true, if_false, exists_eq_left', true_implies, false_implies, exists_const, exists_eq_right, binA, intA, loadA, storeA, pickC, setAt, mapO, argsE, X.isC, resA, oneA, unA, boundA, eqiA, eqsA, fillA, fillE, ASt.fz, strA, Nat.reduceEqDiff, Nat.reduceLT, ↓reduceIte, reduceCtorEq, Nat.reduceAdd, Nat.reduceLeDiff, Int.reduceBEq, Int.reduceBNe, Int.reduceLT, Int.reduceLE, Int.reduceGT, Int.reduceGE, Nat.reduceDiv, Nat.reduceMul, Nat.reduceBEq, Nat.reduceMod, Nat.reduceSub, e0, e5, e6, e7, e8, e9, hdec, gi]
      refine hQ _ _ Tb tab tt B Z q true e0 e5 e7 e8 hB hqs hTb (by omega) ?_
      rcases hF with ⟨_, h2, _⟩ | ⟨_, h2⟩
      · cases h2
      · exact Or.inr ⟨rfl, h2⟩
    | false =>
      have hG := hF
      rcases hG with ⟨_, _, hjn, hjq, hqq, hTs, hR⟩ | ⟨h, _⟩
      · have hnj : n - j = (n - (j + 1)) + 1 := by omega
        obtain ⟨e, c, B2, q2, G, T2, f2, k2, he, o1, o2, o3, l2, hB2, hK2, F2⟩ := rentry_u hB hqs hs hTb hTs (by rw [htj]; unfold capB at hs; unfold lenB; omega) tt Z T'
        have hall : (tab.all fun x => x.cells.length == 5) = true := hTb.all tmAgg
        obtain ⟨t', T3, ha, hA', hK'⟩ := app_oneF (x := .agg c) (Nat.zero_le _) (hA.keep hK2) (by omega) hall (by rw [cells_agg, o1]) o3
        simp only [↓wpre, wset, wcore, ne_eq, if_true, if_false, exists_eq_left', true_implies, false_implies, exists_const, exists_eq_right, binA, intA, loadA, storeA, pickC, setAt, mapO, argsE, X.isC, resA, oneA, unA, boundA, eqiA, eqsA, fillA, fillE, ASt.fz, strA, Nat.reduceEqDiff, Nat.reduceLT, ↓reduceIte, reduceCtorEq, Nat.reduceAdd, Nat.reduceLeDiff, Int.reduceBEq, Int.reduceBNe, Int.reduceLT, Int.reduceLE, Int.reduceGT, Int.reduceGE, Nat.reduceDiv, Nat.reduceMul, Nat.reduceBEq, Nat.reduceMod, Nat.reduceSub, List.append_assoc, e0, e5, e6, e7, e8, e9, hdec, gi, k2, ha, o1, o2, o3]
        refine EQ_in ⟨j + 1, by omega, Tb ++ [e], tab ++ [.agg c], t', B2, _, q2, f2, rfl, e0, e5, e6, rfl, e8, next_ixv (by unfold lenB; omega), hB2, l2, hTb.append ⟨he, trivial⟩, by simp [htj], by omega, hA', ?_⟩
        refine hF.comp F2 (fun h h2 => ⟨by omega, by omega, by omega, fun x hx => ?_, ?_⟩) id (fun h h2 => ?_)
        · rcases List.mem_append.1 hx with hx | hx
          · exact h.2.2.2.1 x hx
          · simp only [List.mem_singleton] at hx; subst hx
            obtain ⟨_, b, c, _⟩ := rEntry_inv h2.1
            exact ⟨b, c⟩
        · rw [h.2.2.2.2, hnj, rTab, h2.1, Option.bind_some]
        · rw [h.2.2.2.2, hnj, rTab, h2]; rfl
      · cases h
theorem rroot_loop {s : ByteArray} {H : List AObj} {T : List Nat} (hs : s.size + 1 < capB) {Tb : List Tm} {tab : List AV} {tt : Tl} (hTb : LIs Tm.Is Tb tab) {n q0 : Nat} {f0 : Bool} (hn : n < 34359738368) (hn2 : f0 = false → n ≤ 65536) (hq0 : q0 ≤ s.size) {Q : AExit → St → Prop}
    (hQ : ∀ E T' l al t B Z q f, E 0 = .str s → E 5 = .ptr 0 0 → E 8 = .sl al t → BR B H 0 (rrd s q f) → q ≤ s.size → LIs Tm.Is l al → (f = false → al.length ≤ 65536) → Fl f0 f (rKids Tb n (s.toList.drop q0) = some (l, s.toList.drop q) ∧ q0 ≤ q) (rKids Tb n (s.toList.drop q0) = none) → Q (.exit 2) ⟨tmE 99 E, [], ⟨B ++ Z, T'⟩⟩)
    {E : Env} {H' B Z : List AObj} (hH : H' = B ++ Z) (hB : BR B H 0 (rrd s q0 f0)) (e0 : E 0 = .str s) (e5 : E 5 = .ptr 0 0) (e7 : E 7 = .sl tab tt) (e8 : E 8 = .sl [] .nil) (e10 : E 10 = .int n) (e11 : E 11 = .int 0) : W (run md pfs) md rl20 ⟨tmE 99 E, [], ⟨H', T⟩⟩ Q () := by
  subst hH
  simp only [rl20, pf20]
  refine W_loopE (fun j => n - j) (fun j E H' T' => ∃ l al t B Z q f, H' = B ++ Z ∧ E 0 = .str s ∧ E 5 = .ptr 0 0 ∧ E 7 = .sl tab tt ∧ E 8 = .sl al t ∧ E 10 = .int n ∧ E 11 = .int (j : Nat) ∧ BR B H 0 (rrd s q f) ∧ q ≤ s.size ∧ LIs Tm.Is l al ∧ AppF 0 T' al t ∧ Fl f0 f (j ≤ n ∧ al.length = j ∧ q0 ≤ q ∧ rKids Tb n (s.toList.drop q0) = (rKids Tb (n - j) (s.toList.drop q)).map fun z => (l ++ z.1, z.2)) (rKids Tb n (s.toList.drop q0) = none)) ?_ 0 ⟨[], [], .nil, B, Z, q0, f0, rfl, e0, e5, e7, e8, e10, e11, hB, hq0, trivial, Or.inl ⟨rfl, rfl⟩, by
    cases f0 with
    | true => exact Or.inr ⟨rfl, Or.inl rfl⟩
    | false => exact Or.inl ⟨rfl, rfl, Nat.zero_le _, rfl, Nat.le_refl _, by simp⟩⟩
  clear hB e0 e5 e7 e8 e10 e11 E B Z
  rintro j E H' T' ⟨l, al, t, B, Z, q, f, rfl, e0, e5, e7, e8, e10, e11, hB, hqs, hL, hA, hF⟩
  have gi := rrd_get hB
  have hal : f = false → f0 = false ∧ j ≤ n ∧ al.length = j ∧ q0 ≤ q ∧ rKids Tb n (s.toList.drop q0) = (rKids Tb (n - j) (s.toList.drop q)).map fun z => (l ++ z.1, z.2) := fun h => by
    rcases hF with ⟨h0, _, h⟩ | ⟨h2, _⟩
    · exact ⟨h0, h⟩
    · rw [h] at h2; cases h2
  have hl6 : f = false → al.length ≤ 65536 := fun h => by
    obtain ⟨a, b, c, _⟩ := hal h
    have := hn2 a
    omega
  cases hdec : decide ((j : Int) < n)
  · have hge : n ≤ j := by simp only [decide_eq_false_iff_not] at hdec; omega
    simp only [↓wpre, wset, wcore, ne_eq, if_true, if_false, exists_eq_left', true_implies, false_implies, exists_const, exists_eq_right, binA, intA, loadA, storeA, pickC, setAt, mapO, argsE, X.isC, resA, oneA, unA, boundA, eqiA, eqsA, fillA, fillE, ASt.fz, strA, Nat.reduceEqDiff, Nat.reduceLT, ↓reduceIte, reduceCtorEq, Nat.reduceAdd, Nat.reduceLeDiff, Int.reduceBEq, Int.reduceBNe, Int.reduceLT, Int.reduceLE, Int.reduceGT, Int.reduceGE, Nat.reduceDiv, Nat.reduceMul, Nat.reduceBEq, Nat.reduceMod, Nat.reduceSub, e0, e5, e7, e8, e10, e11, hdec]
    refine hQ _ _ l al t B Z q f e0 e5 e8 hB hqs hL hl6 (hF.mono (fun h => ⟨?_, h.2.2.1⟩) id)
    rw [h.2.2.2, show j = n by omega, Nat.sub_self, rKids]
    simp
  · have hlt : j < n := by simp only [decide_eq_true_eq] at hdec; omega
    cases f with
    | true =>
      simp only [↓wpre, wset, wcore, ne_eq, if_true, if_false, exists_eq_left', true_implies, false_implies, exists_const, exists_eq_right, binA, intA, loadA, storeA, pickC, setAt, mapO, argsE, X.isC, resA, oneA, unA, boundA, eqiA, eqsA, fillA, fillE, ASt.fz, strA, Nat.reduceEqDiff, Nat.reduceLT, ↓reduceIte, reduceCtorEq, Nat.reduceAdd, Nat.reduceLeDiff, Int.reduceBEq, Int.reduceBNe, Int.reduceLT, Int.reduceLE, Int.reduceGT, Int.reduceGE, Nat.reduceDiv, Nat.reduceMul, Nat.reduceBEq, Nat.reduceMod, Nat.reduceSub, e0, e5, e7, e8, e10, e11, hdec, gi]
      refine hQ _ _ l al t B Z q true e0 e5 e8 hB hqs hL (fun h => by cases h) ?_
      rcases hF with ⟨_, h2, _⟩ | ⟨_, h2⟩
      · cases h2
      · exact Or.inr ⟨rfl, h2⟩
    | false =>
      obtain ⟨h00, hjn, halj, hqq, hR⟩ := hal rfl
      have hn6 := hn2 h00
      have hnj : n - j = (n - (j + 1)) + 1 := by omega
      obtain ⟨a, B2, q2, f2, k2, a2, l2, hB2, F2⟩ := rnum_u hB hqs (by omega) Z T'
      have gi2 := rrd_get hB2
      cases hge : decide ((a : Int) ≥ tab.length)
      · have hat : a < tab.length := by simp only [decide_eq_false_iff_not] at hge; omega
        obtain ⟨x, c, d0, _, d3, d4, _, _, _, d8⟩ := hTb.get tmAgg hat
        have hall : (tab.all fun x => x.cells.length == 5) = true := hTb.all tmAgg
        have hallk : (al.all fun x => x.cells.length == 5) = true := hL.all tmAgg
        obtain ⟨c5, hc5, o1, o3, o2⟩ := tmCells d8
        cases hc5
        obtain ⟨t', T2, ha, hA', hK'⟩ := app_oneF (x := .agg c) (Nat.zero_le _) hA (by unfold capB; omega) hallk (by rw [cells_agg, o1]) o2
        have h0 : (0 ≤ (a : Int)) = True := eq_true (Int.natCast_nonneg _)
        simp only [↓wpre, wset, wcore, ne_eq, if_true, if_false, exists_eq_left', true_implies, false_implies, exists_const, exists_eq_right, binA, intA, loadA, storeA, pickC, setAt, mapO, argsE, X.isC, resA, oneA, unA, boundA, eqiA, eqsA, fillA, fillE, ASt.fz, strA, Nat.reduceEqDiff, Nat.reduceLT, ↓reduceIte, reduceCtorEq, Nat.reduceAdd, Nat.reduceLeDiff, Int.reduceBEq, Int.reduceBNe, Int.reduceLT, Int.reduceLE, Int.reduceGT, Int.reduceGE, Nat.reduceDiv, Nat.reduceMul, Nat.reduceBEq, Nat.reduceMod, Nat.reduceSub, List.append_assoc, e0, e5, e7, e8, e10, e11, hdec, gi, hge, k2, h0, d4, hall, ha, o1, o2, o3]
        refine EQ_in ⟨j + 1, by omega, l ++ [x], al ++ [.agg c], t', B2, Z, q2, f2, rfl, e0, e5, e7, rfl, e10, next_ixv (by unfold lenB; omega), hB2, l2, hL.append ⟨d8, trivial⟩, hA', ?_⟩
        refine hF.comp F2 (fun h h2 => ⟨by omega, by simp [halj], by omega, ?_⟩) id (fun h h2 => ?_)
        · rw [h.2.2.2, hnj, rKids, h2.1, Option.bind_some]; simp only; rw [d0]; simp only
          rw [Option.map_map]
          congr 1
          funext z
          simp
        · rw [h.2.2.2, hnj, rKids, h2]; rfl
      · have hnone : Tb[a]? = none := by
          rw [List.getElem?_eq_none_iff, ← hTb.len]
          simp only [decide_eq_true_eq] at hge; omega
        have hsi : ∀ Z y, (B2 ++ Z).set 0 y = B2.set 0 y ++ Z := fun Z y => hB2.app Z y
        simp only [↓wpre, wset, wcore, ne_eq, if_true, if_false, exists_eq_left', true_implies, false_implies, exists_const, exists_eq_right, binA, intA, loadA, storeA, pickC, setAt, mapO, argsE, X.isC, resA, oneA, unA, boundA, eqiA, eqsA, fillA, fillE, ASt.fz, strA, Nat.reduceEqDiff, Nat.reduceLT, ↓reduceIte, reduceCtorEq, Nat.reduceAdd, Nat.reduceLeDiff, Int.reduceBEq, Int.reduceBNe, Int.reduceLT, Int.reduceLE, Int.reduceGT, Int.reduceGE, Nat.reduceDiv, Nat.reduceMul, Nat.reduceBEq, Nat.reduceMod, Nat.reduceSub, List.append_assoc, e0, e5, e7, e8, e10, e11, hdec, gi, gi2, hge, k2, hsi]
        refine EQ_in ⟨j + 1, by omega, l, al, t, _, Z, q2, true, rfl, e0, e5, e7, e8, e10, next_ixv (by unfold lenB; omega), hB2.up (rrd s q2 true), l2, hL, hA, ?_⟩
        refine Or.inr ⟨rfl, Or.inr ?_⟩
        rcases F2 with ⟨_, _, h2⟩ | ⟨_, h2⟩
        · rw [hR, hnj, rKids, h2.1, Option.bind_some]; simp only; rw [hnone]; rfl
        · rcases h2 with h2 | h2
          · cases h2
          · rw [hR, hnj, rKids, h2]; rfl
end Go.Proofs.Eng
