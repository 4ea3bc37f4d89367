/- A table and its roots are read. No conditions beyond those in the theorems. -/
import Derived.Test.YtbcnlbnimabdeaaU5
set_option linter.all false
set_option linter.deprecated false
set_option linter.unnecessarySimpa false
set_option linter.unusedVariables false
set_option linter.unusedSimpArgs false
set_option linter.defProp false
namespace Go.Proofs.Eng
open Go Go.Proofs
set_option maxRecDepth 100000
set_option maxHeartbeats 8000000
theorem BR.other {B H : List AObj} {i o : Nat} {v x : AObj} (h : BR B H i v) (hio : i ≠ o) (ho : H[o]? = some x) : B[o]? = some x := by
  rw [h.eq, List.getElem?_set_ne hio]; exact ho
theorem BR.setO {B H : List AObj} {i o : Nat} {v y : AObj} (h : BR B H i v) (hio : i ≠ o) : BR (B.set o y) (H.set o y) i v :=
  ⟨by rw [List.length_set, List.length_set, h.len], by rw [List.getElem?_set_ne (by omega)]; exact h.get, fun x => (List.set_comm y x hio.symm).trans ((congrArg (fun l : List AObj => l.set o y) (h.set x)).trans (List.set_comm x y hio))⟩
theorem entry_b {i : Nat} {s : ByteArray} {p : Nat} {B H : List AObj} {Tb : List Tm} {tab : List AV} (hB : BR B H i (rdr s p)) (hp : p ≤ s.size) (hs : s.size ≤ capB) (hTb : LIs EIs Tb tab) (htb : tab.length ≤ lenB) (tt : Tl) (Z : List AObj) (T : List Nat) :
    (∃ t x1 x2 x3 x4 x5 B' q G T', rEntry Tb (s.toList.drop p) = some (t, s.toList.drop q) ∧ p < q ∧ q ≤ s.size ∧ EIs t (.agg [x1, x2, x3, x4, x5, .int (t.sz : Nat), .int (t.dp : Nat)]) ∧ BR B' H i (rdr s q) ∧ Keep T.length T T' ∧ ∀ K KP, CW (run md pfs) md false ⟨B ++ Z, T⟩ 43 [.ptr i 0, .sl tab tt] K KP () = K (.agg [x1, x2, x3, x4, x5, .int (t.sz : Nat), .int (t.dp : Nat)]) ⟨B' ++ (Z ++ G), T'⟩) ∨
    (∃ B' q G T', rEntry Tb (s.toList.drop p) = none ∧ BR B' H i (rdr s q) ∧ ∀ K KP, CW (run md pfs) md false ⟨B ++ Z, T⟩ 43 [.ptr i 0, .sl tab tt] K KP () = KP failV ⟨B' ++ (Z ++ G), T'⟩) := by
  rcases (entry_sh (T := T) (tt := tt) (app_get_of hB.get Z) hp hs hTb htb).call rfl with ⟨v, _, ⟨t, B2, q, G, T', h1, h2, h3, h4, rfl, h6, h7⟩, hc⟩ | ⟨v, _, ⟨rfl, h1, B2, q, G, T', rfl, h6⟩, hc⟩
  · obtain ⟨x1, x2, x3, x4, x5, rfl, _⟩ := id h4
    rw [h6.eq, hB.app, List.append_assoc] at hc
    exact Or.inl ⟨t, x1, x2, x3, x4, x5, _, q, G, T', h1, h2, h3, h4, hB.up _, h7, hc⟩
  · rw [h6.eq, hB.app, List.append_assoc] at hc
    exact Or.inr ⟨_, q, G, T', h1, hB.up _, hc⟩
def tl42 : PC := match pf42.body with | .seq _ (.seq (.seq _ (.block _ l)) _) => l | _ => .skip
def rl42 : PC := match pf42.body with | .seq _ (.seq _ (.seq _ (.seq _ (.seq _ (.block _ l))))) => l | _ => .skip
theorem tab_loop {i o : Nat} {s : ByteArray} {H : List AObj} {T : List Nat} (hs : s.size ≤ capB) {n q0 : Nat} (hn : n ≤ mostN) (hq0 : q0 ≤ s.size) {Q : AExit → St → Prop}
    (hQ : ∀ E T' Tb tab tt B Z q, E 0 = .ptr i 0 → E 1 = .ptr o 0 → E 3 = .sl tab tt → BR B H i (rdr s q) → LIs EIs Tb tab → tab.length ≤ s.size → rTab n [] (s.toList.drop q0) = some (Tb, s.toList.drop q) → q0 ≤ q → q ≤ s.size → Q (.exit 0) ⟨tmE 45 E, [], ⟨B ++ Z, T'⟩⟩)
    (hbad : ∀ tm s', rTab n [] (s.toList.drop q0) = none → Lost i s H s' → Q (.pan failV) ⟨tm, [], s'⟩)
    {E : Env} {H' B Z : List AObj} (hH : H' = B ++ Z) (hB : BR B H i (rdr s q0)) (e0 : E 0 = .ptr i 0) (e1 : E 1 = .ptr o 0) (e3 : E 3 = .sl [] .nil) (e7 : E 7 = .int n) (e8 : E 8 = .int 0) : W (run md pfs) md tl42 ⟨tmE 45 E, [], ⟨H', T⟩⟩ Q () := by
  subst hH
  simp only [tl42, pf42]
  refine W_loopE (fun j => n - j) (fun j E H' T' => ∃ Tb tab tt B Z q, H' = B ++ Z ∧ E 0 = .ptr i 0 ∧ E 1 = .ptr o 0 ∧ E 3 = .sl tab tt ∧ E 7 = .int n ∧ E 8 = .int (j : Nat) ∧ j ≤ n ∧ BR B H i (rdr s q) ∧ LIs EIs Tb tab ∧ tab.length = j ∧ j ≤ q ∧ q0 ≤ q ∧ q ≤ s.size ∧ AppF 0 T' tab tt ∧ rTab n [] (s.toList.drop q0) = rTab (n - j) Tb (s.toList.drop q)) ?_ 0 ⟨[], [], .nil, B, Z, q0, rfl, e0, e1, e3, e7, e8, Nat.zero_le _, hB, trivial, rfl, Nat.zero_le _, Nat.le_refl _, hq0, Or.inl ⟨rfl, rfl⟩, rfl⟩
  clear hB e0 e1 e3 e7 e8 E B Z
  rintro j E H' T' ⟨Tb, tab, tt, B, Z, q, rfl, e0, e1, e3, e7, e8, hj, hB, hTb, htj, hjq, hq, hqs, hA, hR⟩
  rcases Nat.lt_or_ge j n with hlt | hge
  · have hdec : decide ((j : Int) < n) = true := by simpa using hlt
    have hnj : n - j = (n - (j + 1)) + 1 := by omega
    rcases entry_b hB hqs hs hTb (by rw [htj]; unfold capB at hs; unfold lenB; omega) tt Z T' with ⟨t, x1, x2, x3, x4, x5, B2, q2, G, T2, r2, l1, l2, ht, hB2, hK2, k2⟩ | ⟨B2, q2, G, T2, r2, hB2, k2⟩
    · have hall : (tab.all fun x => x.cells.length == 7) = true := hTb.all eAgg
      obtain ⟨c7, hc7, _, o2⟩ := eAgg.cells ht
      cases hc7
      obtain ⟨t', T3, ha, hA', hK'⟩ := app_oneF (x := .agg [x1, x2, x3, x4, x5, .int (t.sz : Nat), .int (t.dp : Nat)]) (Nat.zero_le _) (hA.keep hK2) (by unfold capB at *; omega) hall rfl o2
      simp only [↓wpre, wset, wcore, ne_eq, if_true, if_false, exists_eq_left', true_implies, false_implies, exists_const, exists_eq_right, binA, intA, loadA, storeA, pickC, setAt, mapO, argsE, X.isC, resA, oneA, unA, boundA, eqiA, eqsA, fillA, fillE, ASt.fz, strA, Nat.reduceEqDiff, Nat.reduceLT, ↓reduceIte, reduceCtorEq, Nat.reduceAdd, Nat.reduceLeDiff, Int.reduceBEq, Int.reduceBNe, Int.reduceLT, Int.reduceLE, Int.reduceGT, Int.reduceGE, Nat.reduceDiv, Nat.reduceMul, Nat.reduceBEq, Nat.reduceMod, Nat.reduceSub, List.append_assoc, e0, e1, e3, e7, e8, hdec, k2, ha, o2]
      refine EQ_in ⟨j + 1, by omega, Tb ++ [t], tab ++ [.agg [x1, x2, x3, x4, x5, .int (t.sz : Nat), .int (t.dp : Nat)]], t', B2, _, q2, rfl, e0, e1, rfl, e7, next_ixv (by unfold mostN at hn; unfold lenB; omega), by omega, hB2, hTb.append ⟨ht, trivial⟩, by simp [htj], by omega, by omega, l2, hA', ?_⟩
      rw [hR, hnj, rTab, r2, Option.bind_some]
    · simp only [↓wpre, wset, wcore, ne_eq, if_true, if_false, exists_eq_left', true_implies, false_implies, exists_const, exists_eq_right, binA, intA, loadA, storeA, pickC, setAt, mapO, argsE, X.isC, resA, oneA, unA, boundA, eqiA, eqsA, fillA, fillE, ASt.fz, strA, Nat.reduceEqDiff, Nat.reduceLT, ↓reduceIte, reduceCtorEq, Nat.reduceAdd, Nat.reduceLeDiff, Int.reduceBEq, Int.reduceBNe, Int.reduceLT, Int.reduceLE, Int.reduceGT, Int.reduceGE, Nat.reduceDiv, Nat.reduceMul, Nat.reduceBEq, Nat.reduceMod, Nat.reduceSub, List.append_assoc, e0, e1, e3, e7, e8, hdec, k2]
      exact hbad _ _ (by rw [hR, hnj, rTab, r2]; rfl) ⟨B2, q2, _, _, rfl, hB2⟩
  · have hdec : decide ((j : Int) < n) = false := by simpa using hge
    have hjn : j = n := by omega
    simp only [↓wpre, wset, wcore, ne_eq, if_true, if_false, exists_eq_left', true_implies, false_implies, exists_const, exists_eq_right, binA, intA, loadA, storeA, pickC, setAt, mapO, argsE, X.isC, resA, oneA, unA, boundA, eqiA, eqsA, fillA, fillE, ASt.fz, strA, Nat.reduceEqDiff, Nat.reduceLT, ↓reduceIte, reduceCtorEq, Nat.reduceAdd, Nat.reduceLeDiff, Int.reduceBEq, Int.reduceBNe, Int.reduceLT, Int.reduceLE, Int.reduceGT, Int.reduceGE, Nat.reduceDiv, Nat.reduceMul, Nat.reduceBEq, Nat.reduceMod, Nat.reduceSub, e7, e8, hdec]
    exact hQ _ _ Tb tab tt B Z q e0 e1 e3 hB hTb (by omega) (by rw [hR, hjn, Nat.sub_self, rTab]) hq hqs
theorem root_loop {i o : Nat} (hio : i ≠ o) {s : ByteArray} {H : List AObj} {T : List Nat} (ho : o < H.length) (hs : s.size ≤ capB) {Tb : List Tm} {tab : List AV} {tt : Tl} (hTb : LIs EIs Tb tab) {n q0 : Nat} (hn : n ≤ 65536) (hq0 : q0 ≤ s.size) {Q : AExit → St → Prop}
    (hQ : ∀ E T' l al t B Z q, BR B (H.set o (.cells false [.sl al t])) i (rdr s q) → LIs Tm.Is l al → al.length = n → rKids Tb n (s.toList.drop q0) = some (l, s.toList.drop q) → q0 ≤ q → q ≤ s.size → Q (.exit 2) ⟨tmE 45 E, [], ⟨B ++ Z, T'⟩⟩)
    (hbad : ∀ tm s' x, rKids Tb n (s.toList.drop q0) = none → Lost i s (H.set o x) s' → Q (.pan failV) ⟨tm, [], s'⟩)
    {E : Env} {B Z : List AObj} (hB : BR B (H.set o (.cells false [.sl [] .nil])) i (rdr s q0)) (e0 : E 0 = .ptr i 0) (e1 : E 1 = .ptr o 0) (e3 : E 3 = .sl tab tt) (e23 : E 23 = .int n) (e24 : E 24 = .int 0) : W (run md pfs) md rl42 ⟨tmE 45 E, [], ⟨B ++ Z, T⟩⟩ Q () := by
  simp only [rl42, pf42]
  refine W_loopE (fun j => n - j) (fun j E H' T' => ∃ l al t B Z q, H' = B ++ Z ∧ E 0 = .ptr i 0 ∧ E 1 = .ptr o 0 ∧ E 3 = .sl tab tt ∧ E 23 = .int n ∧ E 24 = .int (j : Nat) ∧ j ≤ n ∧ BR B (H.set o (.cells false [.sl al t])) i (rdr s q) ∧ LIs Tm.Is l al ∧ al.length = j ∧ q0 ≤ q ∧ q ≤ s.size ∧ AppF 0 T' al t ∧ rKids Tb n (s.toList.drop q0) = (rKids Tb (n - j) (s.toList.drop q)).map fun z => (l ++ z.1, z.2)) ?_ 0 ⟨[], [], .nil, B, Z, q0, rfl, e0, e1, e3, e23, e24, Nat.zero_le _, hB, trivial, rfl, Nat.le_refl _, hq0, Or.inl ⟨rfl, rfl⟩, by simp⟩
  clear hB e0 e1 e3 e23 e24 E B Z
  rintro j E H' T' ⟨l, al, t, B, Z, q, rfl, e0, e1, e3, e23, e24, hj, hB, hL, hal, hq, hqs, hA, hR⟩
  rcases Nat.lt_or_ge j n with hlt | hge
  · have hdec : decide ((j : Int) < n) = true := by simpa using hlt
    have hnj : n - j = (n - (j + 1)) + 1 := by omega
    rcases number_b hB hqs hs Z T' with ⟨a, B2, q2, r2, a2, l1, l2, hB2, k2⟩ | ⟨B2, q2, r2, hB2, k2⟩
    · rw [hnj, rKids, r2, Option.bind_some] at hR
      simp only at hR
      cases hge : decide ((a : Int) ≥ tab.length)
      · have hat : a < tab.length := by simp only [decide_eq_false_iff_not] at hge; omega
        obtain ⟨x, c, d0, _, d3, d4, _, _, _, d8⟩ := hTb.get eAgg hat
        obtain ⟨x1, x2, x3, x4, x5, hc, dx, dr, ds, dd⟩ := d8
        cases hc
        have hall : (tab.all fun x => x.cells.length == 7) = true := hTb.all eAgg
        have hallk : (al.all fun x => x.cells.length == 5) = true := hL.all tmAgg
        obtain ⟨c5, hc5, o1, _, o2⟩ := tmCells dx
        cases hc5
        obtain ⟨t', T2, ha, hA', hK'⟩ := app_oneF (x := .agg [x1, x2, x3, x4, x5]) (Nat.zero_le _) hA (by unfold capB; omega) hallk rfl o2
        have h0 : (0 ≤ (a : Int)) = True := eq_true (Int.natCast_nonneg _)
        have hbo : B2[o]? = some (.cells false [.sl al t]) := hB2.other hio (by rw [List.getElem?_set]; simp [ho])
        have hgo : ∀ Z, (B2 ++ Z)[o]? = some (.cells false [.sl al t]) := fun Z => app_get_of hbo Z
        have hso : ∀ Z y, (B2 ++ Z).set o y = B2.set o y ++ Z := fun Z y => (List.set_append_left _ _ (lt_of_get hbo))
        simp only [↓wpre, wset, wcore, ne_eq, if_true, if_false, exists_eq_left', true_implies, false_implies, exists_const, exists_eq_right, binA, intA, loadA, storeA, pickC, setAt, mapO, argsE, X.isC, resA, oneA, unA, boundA, eqiA, eqsA, fillA, fillE, ASt.fz, strA, Nat.reduceEqDiff, Nat.reduceLT, ↓reduceIte, reduceCtorEq, Nat.reduceAdd, Nat.reduceLeDiff, Int.reduceBEq, Int.reduceBNe, Int.reduceLT, Int.reduceLE, Int.reduceGT, Int.reduceGE, Nat.reduceDiv, Nat.reduceMul, Nat.reduceBEq, Nat.reduceMod, Nat.reduceSub, List.append_assoc, e0, e1, e3, e23, e24, hdec, hge, k2, h0, d4, hall, hallk, ha, o2, hgo, hso]
        refine EQ_in ⟨j + 1, by omega, l ++ [x], al ++ [.agg [x1, x2, x3, x4, x5]], t', B2.set o _, _, q2, rfl, e0, e1, e3, e23, next_ixv (by unfold lenB; omega), by omega, ?_, hL.append ⟨dx, trivial⟩, by simp [hal], by omega, l2, hA', ?_⟩
        · have := hB2.setO (y := .cells false [.sl (al ++ [.agg [x1, x2, x3, x4, x5]]) t']) hio
          rw [List.set_set] at this; exact this
        · rw [hR, d0]; simp only
          rw [Option.map_map]
          congr 1
          funext z
          simp
      · obtain ⟨_, _, ⟨rfl, rfl⟩, hf⟩ := (fail_sh (.ptr i 0) ⟨B2 ++ Z, T'⟩).callPan rfl
        have hnone : Tb[a]? = none := by
          rw [List.getElem?_eq_none_iff, ← hTb.len]
          simp only [decide_eq_true_eq] at hge; omega
        rw [hnone] at hR
        simp only [↓wpre, wset, wcore, ne_eq, if_true, if_false, exists_eq_left', true_implies, false_implies, exists_const, exists_eq_right, binA, intA, loadA, storeA, pickC, setAt, mapO, argsE, X.isC, resA, oneA, unA, boundA, eqiA, eqsA, fillA, fillE, ASt.fz, strA, Nat.reduceEqDiff, Nat.reduceLT, ↓reduceIte, reduceCtorEq, Nat.reduceAdd, Nat.reduceLeDiff, Int.reduceBEq, Int.reduceBNe, Int.reduceLT, Int.reduceLE, Int.reduceGT, Int.reduceGE, Nat.reduceDiv, Nat.reduceMul, Nat.reduceBEq, Nat.reduceMod, Nat.reduceSub, List.append_assoc, e0, e1, e3, e23, e24, hdec, hge, k2, hf]
        exact hbad _ _ _ (by rw [hR]; rfl) ⟨B2, q2, _, _, rfl, hB2⟩
    · simp only [↓wpre, wset, wcore, ne_eq, if_true, if_false, exists_eq_left', true_implies, false_implies, exists_const, exists_eq_right, binA, intA, loadA, storeA, pickC, setAt, mapO, argsE, X.isC, resA, oneA, unA, boundA, eqiA, eqsA, fillA, fillE, ASt.fz, strA, Nat.reduceEqDiff, Nat.reduceLT, ↓reduceIte, reduceCtorEq, Nat.reduceAdd, Nat.reduceLeDiff, Int.reduceBEq, Int.reduceBNe, Int.reduceLT, Int.reduceLE, Int.reduceGT, Int.reduceGE, Nat.reduceDiv, Nat.reduceMul, Nat.reduceBEq, Nat.reduceMod, Nat.reduceSub, List.append_assoc, e0, e1, e3, e23, e24, hdec, k2]
      exact hbad _ _ _ (by rw [hR, hnj, rKids, r2]; rfl) ⟨B2, q2, _, _, rfl, hB2⟩
  · have hdec : decide ((j : Int) < n) = false := by simpa using hge
    have hjn : j = n := by omega
    simp only [↓wpre, wset, wcore, ne_eq, if_true, if_false, exists_eq_left', true_implies, false_implies, exists_const, exists_eq_right, binA, intA, loadA, storeA, pickC, setAt, mapO, argsE, X.isC, resA, oneA, unA, boundA, eqiA, eqsA, fillA, fillE, ASt.fz, strA, Nat.reduceEqDiff, Nat.reduceLT, ↓reduceIte, reduceCtorEq, Nat.reduceAdd, Nat.reduceLeDiff, Int.reduceBEq, Int.reduceBNe, Int.reduceLT, Int.reduceLE, Int.reduceGT, Int.reduceGE, Nat.reduceDiv, Nat.reduceMul, Nat.reduceBEq, Nat.reduceMod, Nat.reduceSub, e23, e24, hdec]
    exact hQ _ _ l al t B Z q hB hL (by omega) (by rw [hR, hjn, Nat.sub_self, rKids]; simp) hq hqs
def GT1P (i o : Nat) (s : ByteArray) (H : List AObj) (s' : ASt) : Prop := ∃ l al t B G q T', getT s.toList = some (l, s.toList.drop q) ∧ q ≤ s.size ∧ s' = ⟨B ++ G, T'⟩ ∧ BR B (H.set o (.cells false [.sl al t])) i (rdr s q) ∧ LIs Tm.Is l al ∧ al.length ≤ 65536
def GT1B (i o : Nat) (s : ByteArray) (H : List AObj) (v : AV) (s' : ASt) : Prop := v = failV ∧ getT s.toList = none ∧ ∃ x, Lost i s (H.set o x) s'
theorem getTerms1_sh {s : ByteArray} {i o : Nat} {H : List AObj} {T : List Nat} (hi : H[i]? = some (rdr s 0)) (ho : H[o]? = some (.cells false [.sl [] .nil])) (hio : i ≠ o) (hs : s.size ≤ capB) :
    Sh md pfs 42 [.ptr i 0, .ptr o 0] ⟨H, T⟩ (fun _ s' => GT1P i o s H s') (GT1B i o s H) := by
  refine sh_of pf42_is (Nat.le_of_ble_eq_true rfl) ?_
  have hsame : H.set o (.cells false [.sl [] .nil]) = H := set_self ho
  have hol := lt_of_get ho
  have hB0 := BR.start hi
  have key := number_b hB0 (Nat.zero_le _) hs [] T
  rw [List.append_nil] at key
  have hlost : ∀ {s' : ASt}, Lost i s H s' → ∃ x, Lost i s (H.set o x) s' := fun h => ⟨.cells false [.sl [] .nil], by rw [hsame]; exact h⟩
  rcases key with ⟨n, B1, q1, r1, n1, l1, l2, hB1, k1⟩ | ⟨B1, q1, r1, hB1, k1⟩
  · rw [List.drop_zero] at r1
    rw [List.append_nil B1] at k1
    simp only [pf42, ↓wpre, wset, wcore, ne_eq, if_true, if_false, exists_eq_left', true_implies, false_implies, exists_const, exists_eq_right, binA, intA, loadA, storeA, pickC, setAt, mapO, argsE, X.isC, resA, oneA, unA, boundA, eqiA, eqsA, fillA, fillE, ASt.fz, strA, Nat.reduceEqDiff, Nat.reduceLT, ↓reduceIte, reduceCtorEq, Nat.reduceAdd, Nat.reduceLeDiff, Int.reduceBEq, Int.reduceBNe, Int.reduceLT, Int.reduceLE, Int.reduceGT, Int.reduceGE, Nat.reduceDiv, Nat.reduceMul, Nat.reduceBEq, Nat.reduceMod, Nat.reduceSub, k1]
    refine tab_loop (o := o) (T := T) hs (n := n) (q0 := q1) n1 l2 ?_ ?_ (Z := []) (List.append_nil B1).symm hB1 rfl rfl rfl rfl rfl
    · intro E T' Tb tab tt B Z q e0 e1 e3 hB hTb htl hR hq hqs
      have hG : getT s.toList = (rN (s.toList.drop q)).bind fun m => if m.1 > 65536 then none else rKids Tb m.1 m.2 := by
        rw [getT, r1, Option.bind_some]; simp only; rw [hR, Option.bind_some]
      simp only [BQ_e, LQ_n, BQ_n]
      rcases number_b hB hqs hs Z T' with ⟨m, B2, q2, r2, m1, l3, l4, hB2, k2⟩ | ⟨B2, q2, r2, hB2, k2⟩
      · rw [r2, Option.bind_some] at hG
        simp only at hG
        cases hm : decide ((m : Int) > 65536)
        · have hm' : ¬ m > 65536 := by simp only [decide_eq_false_iff_not] at hm; omega
          rw [if_neg hm'] at hG
          simp only [↓wpre, wset, wcore, ne_eq, if_true, if_false, exists_eq_left', true_implies, false_implies, exists_const, exists_eq_right, binA, intA, loadA, storeA, pickC, setAt, mapO, argsE, X.isC, resA, oneA, unA, boundA, eqiA, eqsA, fillA, fillE, ASt.fz, strA, Nat.reduceEqDiff, Nat.reduceLT, ↓reduceIte, reduceCtorEq, Nat.reduceAdd, Nat.reduceLeDiff, Int.reduceBEq, Int.reduceBNe, Int.reduceLT, Int.reduceLE, Int.reduceGT, Int.reduceGE, Nat.reduceDiv, Nat.reduceMul, Nat.reduceBEq, Nat.reduceMod, Nat.reduceSub, e0, e1, e3, k2, hm]
          refine root_loop hio (T := T') (H := H) hol hs hTb (n := m) (q0 := q2) (tt := tt) (by omega) l4 ?_ ?_ (Z := Z) (by rw [hsame]; exact hB2) e0 e1 e3 rfl rfl
          · intro E T' l al t B Z q hB hL hal hR hq hqs
            simp only [↓wpre, wset, wcore, ne_eq, if_true, if_false, exists_eq_left', true_implies, false_implies, exists_const, exists_eq_right, binA, intA, loadA, storeA, pickC, setAt, mapO, argsE, X.isC, resA, oneA, unA, boundA, eqiA, eqsA, fillA, fillE, ASt.fz, strA, Nat.reduceEqDiff, Nat.reduceLT, ↓reduceIte, reduceCtorEq, Nat.reduceAdd, Nat.reduceLeDiff, Int.reduceBEq, Int.reduceBNe, Int.reduceLT, Int.reduceLE, Int.reduceGT, Int.reduceGE, Nat.reduceDiv, Nat.reduceMul, Nat.reduceBEq, Nat.reduceMod, Nat.reduceSub, SQ_normal]
            exact ⟨l, al, t, B, Z, q, T', by rw [hG, hR], hqs, rfl, hB, hL, by omega⟩
          · intro tm s' x hR hl
            simp only [BQ_p, LQ_p, SQ_pan, pz_fail, fr_fail]
            exact ⟨trivial, _, rfl, rfl, by rw [hG, hR], x, hl⟩
        · have hm' : m > 65536 := by simp only [decide_eq_true_eq] at hm; omega
          rw [if_pos hm'] at hG
          obtain ⟨_, _, ⟨rfl, rfl⟩, hf⟩ := (fail_sh (.ptr i 0) ⟨B2 ++ Z, T'⟩).callPan rfl
          simp only [↓wpre, wset, wcore, ne_eq, if_true, if_false, exists_eq_left', true_implies, false_implies, exists_const, exists_eq_right, binA, intA, loadA, storeA, pickC, setAt, mapO, argsE, X.isC, resA, oneA, unA, boundA, eqiA, eqsA, fillA, fillE, ASt.fz, strA, Nat.reduceEqDiff, Nat.reduceLT, ↓reduceIte, reduceCtorEq, Nat.reduceAdd, Nat.reduceLeDiff, Int.reduceBEq, Int.reduceBNe, Int.reduceLT, Int.reduceLE, Int.reduceGT, Int.reduceGE, Nat.reduceDiv, Nat.reduceMul, Nat.reduceBEq, Nat.reduceMod, Nat.reduceSub, e0, e1, e3, k2, hm, hf, SQ_pan, pz_fail, fr_fail]
          exact ⟨rfl, hG, hlost ⟨B2, q2, Z, T', rfl, hB2⟩⟩
      · rw [r2] at hG
        simp only [↓wpre, wset, wcore, ne_eq, if_true, if_false, exists_eq_left', true_implies, false_implies, exists_const, exists_eq_right, binA, intA, loadA, storeA, pickC, setAt, mapO, argsE, X.isC, resA, oneA, unA, boundA, eqiA, eqsA, fillA, fillE, ASt.fz, strA, Nat.reduceEqDiff, Nat.reduceLT, ↓reduceIte, reduceCtorEq, Nat.reduceAdd, Nat.reduceLeDiff, Int.reduceBEq, Int.reduceBNe, Int.reduceLT, Int.reduceLE, Int.reduceGT, Int.reduceGE, Nat.reduceDiv, Nat.reduceMul, Nat.reduceBEq, Nat.reduceMod, Nat.reduceSub, e0, e1, e3, k2, SQ_pan, pz_fail, fr_fail]
        exact ⟨rfl, hG, hlost ⟨B2, q2, Z, T', rfl, hB2⟩⟩
    · intro tm s' hR hl
      simp only [BQ_p, LQ_p, SQ_pan, pz_fail, fr_fail]
      exact ⟨trivial, _, rfl, rfl, by rw [getT, r1, Option.bind_some]; simp only; rw [hR]; rfl, hlost hl⟩
  · rw [List.drop_zero] at r1
    simp only [pf42, ↓wpre, wset, wcore, ne_eq, if_true, if_false, exists_eq_left', true_implies, false_implies, exists_const, exists_eq_right, binA, intA, loadA, storeA, pickC, setAt, mapO, argsE, X.isC, resA, oneA, unA, boundA, eqiA, eqsA, fillA, fillE, ASt.fz, strA, Nat.reduceEqDiff, Nat.reduceLT, ↓reduceIte, reduceCtorEq, Nat.reduceAdd, Nat.reduceLeDiff, Int.reduceBEq, Int.reduceBNe, Int.reduceLT, Int.reduceLE, Int.reduceGT, Int.reduceGE, Nat.reduceDiv, Nat.reduceMul, Nat.reduceBEq, Nat.reduceMod, Nat.reduceSub, k1, SQ_pan, pz_fail, fr_fail]
    exact ⟨rfl, by rw [getT, r1]; rfl, hlost ⟨B1, q1, [], T, by simp, hB1⟩⟩
end Go.Proofs.Eng
