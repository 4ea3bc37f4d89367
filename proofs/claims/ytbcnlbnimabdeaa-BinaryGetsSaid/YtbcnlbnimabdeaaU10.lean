/- The reference reads an entry: its kids and its end. No conditions beyond those in the theorems. -/
import Derived.Test.YtbcnlbnimabdeaaU9
set_option linter.all false
set_option linter.deprecated false
set_option linter.unnecessarySimpa false
set_option linter.unusedVariables false
set_option linter.unusedSimpArgs false
set_option linter.defProp false
namespace Go.Proofs.Eng
open Go Go.Proofs
set_option maxRecDepth 100000
set_option maxHeartbeats 8000000
abbrev z5 : AObj := .cells false [.int 0, .int 0, .str ⟨#[]⟩, .sl [] .nil, .sl [] .nil]
abbrev blk5 (k : Nat) (pi : Int) (nm : ByteArray) (las : List AV) (tl : Tl) (kas : List AV) (tk : Tl) : AObj := .cells false [.int k, .int pi, .str nm, .sl las tl, .sl kas tk]
def RSt (i : Nat) (s : ByteArray) (H : List AObj) (T : List Nat) (tab : List AV) (tt : Tl) (k : Nat) (pi : Int) (nm : ByteArray) (ls : List Lv) (kids : List Tm) (q : Nat) (f : Bool) (E : Env) (H' : List AObj) (T' : List Nat) : Prop :=
  ∃ B Z las tl kas tk, H' = B ++ (z5 :: blk5 k pi nm las tl kas tk :: Z) ∧ E 0 = .ptr i 0 ∧ E 1 = .sl tab tt ∧ E 4 = .ptr H.length 0 ∧ E 5 = .ptr (H.length + 1) 0 ∧ BR B H i (rrd s q f) ∧ q ≤ s.size ∧ LIs Lv.Is ls las ∧ las.length ≤ lenB ∧ LIs Tm.Is kids kas ∧ kas.length ≤ 3 ∧ AppF T.length T' kas tk ∧ Keep T.length T T' ∧ ∀ x ∈ kids, x.sz ≤ 4096 ∧ x.dp ≤ 200
def kl46 : PC := match pf46.body with | .seq _ (.seq _ (.seq _ (.seq (.seq _ (.block _ l)) _))) => l | _ => .skip
def end46 : PC := match pf46.body with | .seq _ (.seq _ (.seq _ (.seq _ r))) => r | _ => .skip
def tail46 : PC := match pf46.body with | .seq _ (.seq _ (.seq _ r)) => r | _ => .skip
/-- A term, however it was read. -/
def AnyP (i : Nat) (s : ByteArray) (H : List AObj) (T : List Nat) (F : Nat → Bool → Tm → Prop) (v : AV) (s' : ASt) : Prop := ∃ e B q G T' f, Tm.Is e v ∧ s' = ⟨B ++ G, T'⟩ ∧ q ≤ s.size ∧ BR B H i (rrd s q f) ∧ Keep T.length T T' ∧ F q f e
theorem rkid_loop {i : Nat} {s : ByteArray} {H : List AObj} {T : List Nat} {Tb : List Tm} {tab : List AV} {tt : Tl} (hs : s.size ≤ capB) (hTb : LIs Tm.Is Tb tab) (hTs : ∀ x ∈ Tb, x.sz ≤ 4096 ∧ x.dp ≤ 200) (htb : tab.length ≤ lenB) {k : Nat} {pi : Int} {nm : ByteArray} {ls : List Lv} {m q0 : Nat} {f0 : Bool} (hkn : k < 34359738368) (hm : m = (kidsN k).toNat) {Q : AExit → St → Prop}
    (hQ : ∀ E H' T' kids q f, RSt i s H T tab tt k pi nm ls kids q f E H' T' → Fl f0 f (rKids Tb m (s.toList.drop q0) = some (kids, s.toList.drop q) ∧ q0 ≤ q) (rKids Tb m (s.toList.drop q0) = none) → Q (.exit 3) ⟨tmE 111 E, [], ⟨H', T'⟩⟩)
    (hret : ∀ E B Z las tl kas tk kids q T', E 4 = .ptr H.length 0 → BR B H i (rrd s q true) → q ≤ s.size → LIs Lv.Is ls las → las.length ≤ lenB → LIs Tm.Is kids kas → kas.length ≤ 3 → Keep T.length T T' → Fl f0 true False (rKids Tb m (s.toList.drop q0) = none) → Q .ret ⟨tmE 111 E, [], ⟨B ++ (blk5 k pi nm las tl kas tk :: blk5 k pi nm las tl kas tk :: Z), T'⟩⟩)
    {E : Env} {H' : List AObj} {T' : List Nat} (h : RSt i s H T tab tt k pi nm ls [] q0 f0 E H' T') (e8 : E 8 = .int 0) : W (run md pfs) md kl46 ⟨tmE 111 E, [], ⟨H', T'⟩⟩ Q () := by
  simp only [kl46, pf46]
  refine W_loopE (fun j => m - j) (fun j E H' T' => ∃ kids q f, RSt i s H T tab tt k pi nm ls kids q f E H' T' ∧ E 8 = .int (j : Nat) ∧ kids.length = j ∧ j ≤ m ∧ Fl f0 f (q0 ≤ q ∧ rKids Tb m (s.toList.drop q0) = (rKids Tb (m - j) (s.toList.drop q)).map fun l => (kids ++ l.1, l.2)) (rKids Tb m (s.toList.drop q0) = none)) ?_ 0 ⟨[], q0, f0, h, e8, rfl, Nat.zero_le _, by
    cases f0 with
    | true => exact Or.inr ⟨rfl, Or.inl rfl⟩
    | false => exact Or.inl ⟨rfl, rfl, Nat.le_refl _, by simp⟩⟩
  clear h e8 E H' T'
  rintro j E H' T' ⟨kids, q, f, ⟨B, Z, las, tl, kas, tk, rfl, e0, e1, e4, e5, hB, hqs, hL, hll, hK, hkl, hA, hT, hkk⟩, e8, hkj, hjm, hF⟩
  have g := hB.f5
  have gi := rrd_get hB
  have hkj2 : kas.length = j := by rw [hK.len, hkj]
  obtain ⟨_, rfl, ck⟩ := (rkids_ret k).call rfl (by simp [pvs_cons, pvs_nil, pv_v])
  have hm3 : m ≤ 3 := by rw [hm]; exact kids3 _
  cases hdec : decide ((j : Int) < kidsN k)
  · have hjm' : j = m := by simp only [decide_eq_false_iff_not] at hdec; omega
    simp only [↓wpre, wset, wcore, ne_eq, if_true, if_false, exists_eq_left', true_implies, false_implies, exists_const, exists_eq_right, binA, intA, loadA, storeA, pickC, setAt, mapO, argsE, X.isC, resA, oneA, unA, boundA, eqiA, eqsA, fillA, fillE, ASt.fz, strA, Nat.reduceEqDiff, Nat.reduceLT, ↓reduceIte, reduceCtorEq, Nat.reduceAdd, Nat.reduceLeDiff, Int.reduceBEq, Int.reduceBNe, Int.reduceLT, Int.reduceLE, Int.reduceGT, Int.reduceGE, Nat.reduceDiv, Nat.reduceMul, Nat.reduceBEq, Nat.reduceMod, Nat.reduceSub, e0, e1, e4, e5, e8, hdec, ck, g]
    refine hQ _ _ _ kids q f ⟨B, Z, las, tl, kas, tk, rfl, e0, e1, e4, e5, hB, hqs, hL, hll, hK, hkl, hA, hT, hkk⟩ (hF.mono (fun h => ?_) id)
    refine ⟨?_, h.1⟩
    rw [h.2, hjm', Nat.sub_self, rKids]
    simp
  · have hlt : j < m := by simp only [decide_eq_true_eq] at hdec; omega
    cases f with
    | true =>
      simp only [↓wpre, wset, wcore, ne_eq, if_true, if_false, exists_eq_left', true_implies, false_implies, exists_const, exists_eq_right, binA, intA, loadA, storeA, pickC, setAt, mapO, argsE, X.isC, resA, oneA, unA, boundA, eqiA, eqsA, fillA, fillE, ASt.fz, strA, Nat.reduceEqDiff, Nat.reduceLT, ↓reduceIte, reduceCtorEq, Nat.reduceAdd, Nat.reduceLeDiff, Int.reduceBEq, Int.reduceBNe, Int.reduceLT, Int.reduceLE, Int.reduceGT, Int.reduceGE, Nat.reduceDiv, Nat.reduceMul, Nat.reduceBEq, Nat.reduceMod, Nat.reduceSub, e0, e1, e4, e5, e8, hdec, ck, g, gi]
      exact hQ _ _ _ kids q true ⟨B, Z, las, tl, kas, tk, rfl, e0, e1, e4, e5, hB, hqs, hL, hll, hK, hkl, hA, hT, hkk⟩ (by
        rcases hF with ⟨_, h2, _⟩ | ⟨_, h2⟩
        · cases h2
        · exact Or.inr ⟨rfl, h2⟩)
    | false =>
      have hmj : m - j = (m - (j + 1)) + 1 := by omega
      obtain ⟨a, B2, q2, f2, k2, a2, l2, hB2, F2⟩ := rnum_u hB hqs hs (z5 :: blk5 k pi nm las tl kas tk :: Z) T'
      have g2 := hB2.f5
      have gi2 := rrd_get hB2
      cases hge : decide ((a : Int) ≥ tab.length)
      · have hat : a < tab.length := by simp only [decide_eq_false_iff_not] at hge; omega
        obtain ⟨x, c, d0, _, d3, d4, _, _, _, d8⟩ := hTb.get tmAgg hat
        have hall : (tab.all fun x => x.cells.length == 5) = true := hTb.all tmAgg
        have hallk : (kas.all fun x => x.cells.length == 5) = true := hK.all tmAgg
        obtain ⟨c5, hc5, o1, o3, o2⟩ := tmCells d8
        cases hc5
        obtain ⟨t', T2, ha, hA', hK'⟩ := app_oneF (x := .agg c) hT.1 hA (by unfold capB; omega) hallk (by rw [cells_agg, o1]) o2
        have h0 : (0 ≤ (a : Int)) = True := eq_true (Int.natCast_nonneg _)
        simp only [↓wpre, wset, wcore, ne_eq, if_true, if_false, exists_eq_left', true_implies, false_implies, exists_const, exists_eq_right, binA, intA, loadA, storeA, pickC, setAt, mapO, argsE, X.isC, resA, oneA, unA, boundA, eqiA, eqsA, fillA, fillE, ASt.fz, strA, Nat.reduceEqDiff, Nat.reduceLT, ↓reduceIte, reduceCtorEq, Nat.reduceAdd, Nat.reduceLeDiff, Int.reduceBEq, Int.reduceBNe, Int.reduceLT, Int.reduceLE, Int.reduceGT, Int.reduceGE, Nat.reduceDiv, Nat.reduceMul, Nat.reduceBEq, Nat.reduceMod, Nat.reduceSub, List.length_append, List.append_assoc, e0, e1, e4, e5, e8, hdec, ck, hge, k2, g, gi, g2, h0, d4, hall, ha, o1, o2, o3]
        refine EQ_in ⟨j + 1, by omega, kids ++ [x], q2, f2, ⟨B2, _, las, tl, kas ++ [.agg c], t', rfl, e0, e1, e4, e5, hB2, l2, hL, hll, hK.append ⟨d8, trivial⟩, by simp; omega, hA', hT.trans hK', ?_⟩, next_ixv (by unfold lenB; omega), by simp [hkj], by omega, ?_⟩
        · intro y hy
          rcases List.mem_append.1 hy with h | h
          · exact hkk y h
          · simp only [List.mem_singleton] at h; subst h; exact hTs y d3
        · refine hF.comp F2 (fun h h2 => ⟨by omega, ?_⟩) id (fun h h2 => ?_)
          · rw [h.2, hmj, rKids, h2.1, Option.bind_some]; simp only; rw [d0]; simp only
            rw [Option.map_map]
            congr 1
            funext z
            simp
          · rw [h.2, hmj, rKids, h2]; rfl
      · have hnone : Tb[a]? = none := by
          rw [List.getElem?_eq_none_iff, ← hTb.len]
          simp only [decide_eq_true_eq] at hge; omega
        have hsi : ∀ Z y, (B2 ++ Z).set i y = B2.set i y ++ Z := fun Z y => hB2.app Z y
        have hB3 := hB2.up (rrd s q2 true)
        have g3 := hB3.f5
        unfold rrd at g3
        simp only [↓wpre, wset, wcore, ne_eq, if_true, if_false, exists_eq_left', true_implies, false_implies, exists_const, exists_eq_right, binA, intA, loadA, storeA, pickC, setAt, mapO, argsE, X.isC, resA, oneA, unA, boundA, eqiA, eqsA, fillA, fillE, ASt.fz, strA, Nat.reduceEqDiff, Nat.reduceLT, ↓reduceIte, reduceCtorEq, Nat.reduceAdd, Nat.reduceLeDiff, Int.reduceBEq, Int.reduceBNe, Int.reduceLT, Int.reduceLE, Int.reduceGT, Int.reduceGE, Nat.reduceDiv, Nat.reduceMul, Nat.reduceBEq, Nat.reduceMod, Nat.reduceSub, List.length_append, List.append_assoc, e0, e1, e4, e5, e8, hdec, ck, hge, k2, g, gi, g2, gi2, hsi, g3]
        refine hret _ _ Z las tl kas tk kids q2 T' e4 hB3 l2 hL hll hK hkl hT ?_
        have := hF.comp (c := true) (G2 := False) (N2 := rKids Tb m (s.toList.drop q0) = none) (G3 := False) (N3 := rKids Tb m (s.toList.drop q0) = none) (Or.inr ⟨rfl, Or.inr ?_⟩) (fun _ h => h) id (fun _ h => h)
        · exact this
        · rcases hF with ⟨_, _, h⟩ | ⟨h, _⟩
          · rcases F2 with ⟨_, _, h2⟩ | ⟨_, h2⟩
            · rw [h.2, hmj, rKids, h2.1, Option.bind_some]; simp only; rw [hnone]; rfl
            · rcases h2 with h2 | h2
              · cases h2
              · rw [h.2, hmj, rKids, h2]; rfl
          · cases h
end Go.Proofs.Eng
