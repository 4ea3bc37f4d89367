/- An entry is read: its kids. No conditions beyond those in the theorems. -/
import Derived.Test.YtbcnlbnimabdeaaU1
import Derived.Test.YtbcnlbnimabdeaaT6
set_option linter.all false
set_option linter.deprecated false
set_option linter.unnecessarySimpa false
set_option linter.unusedVariables false
set_option linter.unusedSimpArgs false
set_option linter.defProp false
namespace Go.Proofs.Eng
open Go Go.Proofs
set_option maxRecDepth 100000
set_option maxHeartbeats 8000000
/-- An entry of the table: a term, its size and depth. -/
def EIs (e : Tm) (a : AV) : Prop := ∃ x1 x2 x3 x4 x5, a = .agg [x1, x2, x3, x4, x5, .int (e.sz : Nat), .int (e.dp : Nat)] ∧ e.Is (.agg [x1, x2, x3, x4, x5]) ∧ e.right = true ∧ e.sz ≤ 4096 ∧ e.dp ≤ 200
theorem ePure {e : Tm} {a : AV} (h : EIs e a) : pureAV a = true := by
  obtain ⟨x1, x2, x3, x4, x5, rfl, h1, _⟩ := h
  have := tmPure e h1
  simp only [pv_agg, pvs_cons, pvs_nil, Bool.and_true, pv_v, Bool.and_eq_true] at this ⊢
  exact this
theorem eAgg : AggR EIs 7 := ⟨fun {x a} h => by
    obtain ⟨x1, x2, x3, x4, x5, rfl, h1, _⟩ := h
    obtain ⟨c, hc, h2, _, h4⟩ := tmCells h1
    cases hc
    refine ⟨_, rfl, rfl, ?_⟩
    simp only [List.all_cons, List.all_nil, Bool.and_true, Bool.and_eq_true] at h4 ⊢
    exact ⟨h4.1, h4.2.1, h4.2.2.1, h4.2.2.2.1, h4.2.2.2.2, rfl, rfl⟩, fun {x a} h => ePure h⟩
theorem tszL_app : ∀ (l : List Tm) (x : Tm), tszL (l ++ [x]) = tszL l + x.sz
  | [], x => by simp [tszL]
  | y :: l, x => by rw [List.cons_append, tszL, tszL, tszL_app l]; omega
theorem tdpL_app : ∀ (l : List Tm) (x : Tm), tdpL (l ++ [x]) = max (tdpL l) x.dp
  | [], x => by simp [tdpL]
  | y :: l, x => by rw [List.cons_append, tdpL, tdpL, tdpL_app l]; omega
theorem kids3 (k : Int) : (kidsN k).toNat ≤ 3 := by
  unfold kidsN
  split
  · simp
  split
  · simp
  split
  · simp
  split
  · simp
  · simp
abbrev z7 : AObj := .cells false [.int 0, .int 0, .str ⟨#[]⟩, .sl [] .nil, .sl [] .nil, .int 0, .int 0]
abbrev blk7 (k : Nat) (pi : Int) (nm : ByteArray) (las : List AV) (tl : Tl) (kas : List AV) (tk : Tl) (sz dp : Nat) : AObj := .cells false [.int k, .int pi, .str nm, .sl las tl, .sl kas tk, .int (sz : Nat), .int (dp : Nat)]
def KSt (i : Nat) (s : ByteArray) (H : List AObj) (T : List Nat) (tab : List AV) (tt : Tl) (k : Nat) (pi : Int) (nm : ByteArray) (ls : List Lv) (kids : List Tm) (q : Nat) (E : Env) (H' : List AObj) (T' : List Nat) : Prop :=
  ∃ B Z las tl kas tk, H' = B ++ (z7 :: blk7 k pi nm las tl kas tk (1 + tszL kids) (tdpL kids) :: Z) ∧ E 0 = .ptr i 0 ∧ E 1 = .sl tab tt ∧ E 4 = .ptr H.length 0 ∧ E 5 = .ptr (H.length + 1) 0 ∧ E 6 = .ptr (H.length + 1) 0 ∧ BR B H i (rdr s q) ∧ LIs Lv.Is ls las ∧ las.length ≤ lenB ∧ LIs Tm.Is kids kas ∧ kas.length ≤ 3 ∧ AppF T.length T' kas tk ∧ Keep T.length T T' ∧ (∀ x ∈ kids, x.sz ≤ 4096 ∧ x.dp ≤ 200) ∧ tszL kids ≤ kas.length * 4096 ∧ tdpL kids ≤ 200
def kl43 : PC := match pf43.body with | .seq _ (.seq _ (.seq _ (.seq _ (.seq _ (.seq (.seq _ (.block _ l)) _))))) => l | _ => .skip
def end43 : PC := match pf43.body with | .seq _ (.seq _ (.seq _ (.seq _ (.seq _ (.seq _ r))))) => r | _ => .skip
def Lost (i : Nat) (s : ByteArray) (H : List AObj) (s' : ASt) : Prop := ∃ B q G T', s' = ⟨B ++ G, T'⟩ ∧ BR B H i (rdr s q)
theorem kid_loop {i : Nat} {s : ByteArray} {H : List AObj} {T : List Nat} {Tb : List Tm} {tab : List AV} {tt : Tl} (hs : s.size ≤ capB) (hTb : LIs EIs Tb tab) (htb : tab.length ≤ lenB) {k : Nat} {pi : Int} {nm : ByteArray} {ls : List Lv} {m q0 : Nat} (hm : m ≤ 3) (hq0 : q0 ≤ s.size) {Q : AExit → St → Prop}
    (hQ : ∀ E H' T' kids q, KSt i s H T tab tt k pi nm ls kids q E H' T' → rKids Tb m (s.toList.drop q0) = some (kids, s.toList.drop q) → q0 ≤ q → q ≤ s.size → Q (.exit 3) ⟨tmE 130 E, [], ⟨H', T'⟩⟩)
    (hbad : ∀ tm s', rKids Tb m (s.toList.drop q0) = none → Lost i s H s' → Q (.pan failV) ⟨tm, [], s'⟩)
    {E : Env} {H' : List AObj} {T' : List Nat} (h : KSt i s H T tab tt k pi nm ls [] q0 E H' T') (e63 : E 63 = .int m) (e64 : E 64 = .int 0) : W (run md pfs) md kl43 ⟨tmE 130 E, [], ⟨H', T'⟩⟩ Q () := by
  simp only [kl43, pf43]
  refine W_loopE (fun j => m - j) (fun j E H' T' => ∃ kids q, KSt i s H T tab tt k pi nm ls kids q E H' T' ∧ E 63 = .int m ∧ E 64 = .int (j : Nat) ∧ j ≤ m ∧ kids.length = j ∧ q0 ≤ q ∧ q ≤ s.size ∧ rKids Tb m (s.toList.drop q0) = (rKids Tb (m - j) (s.toList.drop q)).map fun l => (kids ++ l.1, l.2)) ?_ 0 ⟨[], q0, h, e63, e64, Nat.zero_le _, rfl, Nat.le_refl _, hq0, by simp⟩
  clear h e63 e64 E H' T'
  rintro j E H' T' ⟨kids, q, ⟨B, Z, las, tl, kas, tk, rfl, e0, e1, e4, e5, e6, hB, hL, hll, hK, hkl, hA, hT, hkk, hsz, hdp⟩, e63, e64, hj, hkj, hq, hqs, hR⟩
  have f := hB.f
  have hkj2 : kas.length = j := by rw [hK.len, hkj]
  rcases Nat.lt_or_ge j m with hlt | hge
  · have hdec : decide ((j : Int) < m) = true := by simpa using hlt
    have hmj : m - j = (m - (j + 1)) + 1 := by omega
    rcases number_b hB hqs hs (z7 :: blk7 k pi nm las tl kas tk (1 + tszL kids) (tdpL kids) :: Z) T' with ⟨a, B2, q2, r2, a2, l1, l2, hB2, k2⟩ | ⟨B2, q2, r2, hB2, k2⟩
    · have f2 := hB2.f
      rw [hmj, rKids, r2, Option.bind_some] at hR
      simp only at hR
      cases hge : decide ((a : Int) ≥ tab.length)
      · have hat : a < tab.length := by simp only [decide_eq_false_iff_not] at hge; omega
        obtain ⟨x, c, d0, _, d3, d4, _, _, _, d8⟩ := hTb.get eAgg hat
        obtain ⟨x1, x2, x3, x4, x5, hc, dx, dr, ds, dd⟩ := d8
        cases hc
        have hall : (tab.all fun x => x.cells.length == 7) = true := hTb.all eAgg
        have hallk : (kas.all fun x => x.cells.length == 5) = true := hK.all tmAgg
        obtain ⟨c5, hc5, o1, _, o2⟩ := tmCells dx
        cases hc5
        obtain ⟨t', T2, ha, hA', hK'⟩ := app_oneF (x := .agg [x1, x2, x3, x4, x5]) hT.1 hA (by unfold capB; omega) hallk rfl o2
        have h0 : (0 ≤ (a : Int)) = True := eq_true (Int.natCast_nonneg _)
        have hadd : IntKind.i64.wrap (((1 + tszL kids : Nat) : Int) + ((x.sz : Nat) : Int)) = ((1 + tszL (kids ++ [x]) : Nat) : Int) := by
          rw [tszL_app, wrap_in (by unfold in64; omega)]; omega
        have hmax : (if ((x.dp : Nat) : Int) > ((tdpL kids : Nat) : Int) then ((x.dp : Nat) : Int) else ((tdpL kids : Nat) : Int)) = ((tdpL (kids ++ [x]) : Nat) : Int) := by
          rw [tdpL_app, i_max]
        simp only [↓wpre, wset, wcore, ne_eq, if_true, if_false, exists_eq_left', true_implies, false_implies, exists_const, exists_eq_right, binA, intA, loadA, storeA, pickC, setAt, mapO, argsE, X.isC, resA, oneA, unA, boundA, eqiA, eqsA, fillA, fillE, ASt.fz, strA, Nat.reduceEqDiff, Nat.reduceLT, ↓reduceIte, reduceCtorEq, Nat.reduceAdd, Nat.reduceLeDiff, Int.reduceBEq, Int.reduceBNe, Int.reduceLT, Int.reduceLE, Int.reduceGT, Int.reduceGE, Nat.reduceDiv, Nat.reduceMul, Nat.reduceBEq, Nat.reduceMod, Nat.reduceSub, List.length_append, List.append_assoc, e0, e1, e4, e5, e6, e63, e64, hdec, hge, k2, f, f2, h0, d4, hall, ha, o2, hadd, hmax]
        refine EQ_in ⟨j + 1, by omega, kids ++ [x], q2, ⟨B2, _, las, tl, kas ++ [.agg [x1, x2, x3, x4, x5]], t', rfl, e0, e1, e4, e5, e6, hB2, hL, hll, hK.append ⟨dx, trivial⟩, by simp; omega, hA', hT.trans hK', ?_, ?_, ?_⟩, e63, next_ixv (by unfold lenB; omega), by omega, by simp [hkj], by omega, l2, ?_⟩
        · intro y hy
          rcases List.mem_append.1 hy with h | h
          · exact hkk y h
          · simp only [List.mem_singleton] at h; subst h; exact ⟨ds, dd⟩
        · rw [tszL_app, List.length_append]; simp only [List.length_cons, List.length_nil]; omega
        · rw [tdpL_app]; omega
        · rw [hR, d0]; simp only
          rw [Option.map_map]
          congr 1
          funext z
          simp
      · obtain ⟨_, _, ⟨rfl, rfl⟩, hf⟩ := (fail_sh (.ptr i 0) ⟨B2 ++ (z7 :: blk7 k pi nm las tl kas tk (1 + tszL kids) (tdpL kids) :: Z), T'⟩).callPan rfl
        have hnone : Tb[a]? = none := by
          rw [List.getElem?_eq_none_iff, ← hTb.len]
          simp only [decide_eq_true_eq] at hge; omega
        rw [hnone] at hR
        simp only [↓wpre, wset, wcore, ne_eq, if_true, if_false, exists_eq_left', true_implies, false_implies, exists_const, exists_eq_right, binA, intA, loadA, storeA, pickC, setAt, mapO, argsE, X.isC, resA, oneA, unA, boundA, eqiA, eqsA, fillA, fillE, ASt.fz, strA, Nat.reduceEqDiff, Nat.reduceLT, ↓reduceIte, reduceCtorEq, Nat.reduceAdd, Nat.reduceLeDiff, Int.reduceBEq, Int.reduceBNe, Int.reduceLT, Int.reduceLE, Int.reduceGT, Int.reduceGE, Nat.reduceDiv, Nat.reduceMul, Nat.reduceBEq, Nat.reduceMod, Nat.reduceSub, List.length_append, List.append_assoc, e0, e1, e4, e5, e6, e63, e64, hdec, hge, k2, f, f2, hf]
        exact hbad _ _ (by rw [hR]; rfl) ⟨B2, q2, _, _, rfl, hB2⟩
    · simp only [↓wpre, wset, wcore, ne_eq, if_true, if_false, exists_eq_left', true_implies, false_implies, exists_const, exists_eq_right, binA, intA, loadA, storeA, pickC, setAt, mapO, argsE, X.isC, resA, oneA, unA, boundA, eqiA, eqsA, fillA, fillE, ASt.fz, strA, Nat.reduceEqDiff, Nat.reduceLT, ↓reduceIte, reduceCtorEq, Nat.reduceAdd, Nat.reduceLeDiff, Int.reduceBEq, Int.reduceBNe, Int.reduceLT, Int.reduceLE, Int.reduceGT, Int.reduceGE, Nat.reduceDiv, Nat.reduceMul, Nat.reduceBEq, Nat.reduceMod, Nat.reduceSub, List.length_append, List.append_assoc, e0, e1, e4, e5, e6, e63, e64, hdec, k2, f]
      exact hbad _ _ (by rw [hR, hmj, rKids, r2]; rfl) ⟨B2, q2, _, _, rfl, hB2⟩
  · have hdec : decide ((j : Int) < m) = false := by simpa using hge
    have hjm : j = m := by omega
    simp only [↓wpre, wset, wcore, ne_eq, if_true, if_false, exists_eq_left', true_implies, false_implies, exists_const, exists_eq_right, binA, intA, loadA, storeA, pickC, setAt, mapO, argsE, X.isC, resA, oneA, unA, boundA, eqiA, eqsA, fillA, fillE, ASt.fz, strA, Nat.reduceEqDiff, Nat.reduceLT, ↓reduceIte, reduceCtorEq, Nat.reduceAdd, Nat.reduceLeDiff, Int.reduceBEq, Int.reduceBNe, Int.reduceLT, Int.reduceLE, Int.reduceGT, Int.reduceGE, Nat.reduceDiv, Nat.reduceMul, Nat.reduceBEq, Nat.reduceMod, Nat.reduceSub, e63, e64, hdec]
    refine hQ _ _ _ kids q ⟨B, Z, las, tl, kas, tk, rfl, e0, e1, e4, e5, e6, hB, hL, hll, hK, hkl, hA, hT, hkk, hsz, hdp⟩ ?_ hq hqs
    rw [hR, hjm, Nat.sub_self, rKids]
    simp
end Go.Proofs.Eng
