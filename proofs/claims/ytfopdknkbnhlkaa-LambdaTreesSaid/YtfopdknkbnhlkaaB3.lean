/- B3: what functions of the program return. No conditions beyond those in the theorems. -/
import Derived.Test.YtfopdknkbnhlkaaB2
set_option linter.all false
set_option linter.deprecated false
set_option linter.unnecessarySimpa false
set_option linter.unusedVariables false
set_option linter.unusedSimpArgs false
set_option linter.defProp false
namespace Go.Proofs.Eng
open Go Go.Proofs
set_option maxRecDepth 100000
/-- The panic value of an error. -/
def wr (c : Int) : AV := .iface 90 (.agg [.int c])
theorem wrPure (c : Int) : pureAV (wr c) = true := by simp [wr, pv_iface, pv_agg, pvs_cons, pvs_nil, pv_v]
theorem demand_t (c : Int) : Out md pfs 37 [.bool true, .int c] (· = .tup []) fun _ => False := by
  refine out_of pf37_is (Nat.le_of_ble_eq_true rfl) ?_
  simp only [pf37, ↓wpre, wset, wcore, ne_eq, if_true, if_false, exists_eq_left', true_implies, false_implies, exists_const, exists_eq_right, binA, intA, loadA, storeA, pickC, setAt, mapO, argsE, X.isC, resA, oneA, unA, boundA, eqiA, eqsA, fillA, fillE, ASt.fz, strA, Nat.reduceEqDiff, Nat.reduceLT, ↓reduceIte, reduceCtorEq, Nat.reduceAdd, Nat.reduceLeDiff, Int.reduceBEq, Int.reduceBNe, Int.reduceLT, Int.reduceLE, Int.reduceGT, Int.reduceGE, Nat.reduceDiv, Nat.reduceMul]
theorem demand_f (c : Int) : Out md pfs 37 [.bool false, .int c] (fun _ => False) (· = wr c) := by
  refine out_of pf37_is (Nat.le_of_ble_eq_true rfl) ?_
  simp only [pf37, ↓wpre, wset, wcore, ne_eq, if_true, if_false, exists_eq_left', true_implies, false_implies, exists_const, exists_eq_right, binA, intA, loadA, storeA, pickC, setAt, mapO, argsE, X.isC, resA, oneA, unA, boundA, eqiA, eqsA, fillA, fillE, ASt.fz, strA, Nat.reduceEqDiff, Nat.reduceLT, ↓reduceIte, reduceCtorEq, Nat.reduceAdd, Nat.reduceLeDiff, Int.reduceBEq, Int.reduceBNe, Int.reduceLT, Int.reduceLE, Int.reduceGT, Int.reduceGE, Nat.reduceDiv, Nat.reduceMul]
  rfl
theorem dem_t (c : Int) (pm : Bool) (s : ASt) (K KP : AV → ASt → Prop) : CW (run md pfs) md pm s 37 [.bool true, .int c] K KP () = K (.tup []) s := by
  obtain ⟨_, rfl, h⟩ := (demand_t c).call rfl (by simp [pvs_cons, pvs_nil, pv_v])
  exact h pm s K KP
theorem dem_f (c : Int) (pm : Bool) (s : ASt) (K KP : AV → ASt → Prop) : CW (run md pfs) md pm s 37 [.bool false, .int c] K KP () = KP (wr c) s := by
  obtain ⟨_, rfl, h⟩ := (demand_f c).callPan rfl (by simp [pvs_cons, pvs_nil, pv_v])
  exact h pm s K KP
def MapSet (es : List (AV × AV)) (gl : ByteArray → Bool) : Prop := ∀ n, lookA (.str n) es = some (if gl n then some (.bool true) else none)
theorem expr_sh (gl : ByteArray → Bool) (ci mi : Nat) (fz : Bool) (es : List (AV × AV)) (hS : MapSet es gl) (e : Ex) : ∀ {a v H0 T}, e.Is a → H0[ci]? = some (.cells fz (tabL ++ [.mp mi])) → H0[mi]? = some (.map es) →
    Sh md pfs 68 [.ptr ci 0, a, .int v] ⟨H0, T⟩ (fun x s' => e.err gl v = 0 ∧ x = .tup [.int e.size, .int e.deep] ∧ More H0 s') (fun x s' => e.err gl v ≠ 0 ∧ x = wr (e.err gl v) ∧ More H0 s') := by
  induction e using Ex.ind with
  | h k i n s kids ih =>
  intro a v H0 T h hc0 hm0
  obtain ⟨t1, t2, kas, rfl, g1, g2, g3, g4, g5, g6⟩ := h.opn
  have hc := app_get_of hc0
  have hm := app_get_of hm0
  have tl1 : (tabL ++ [AV.mp mi]).length = 13 := rfl
  have tl2 : (tabL ++ [AV.mp mi]).take 12 = tabL := rfl
  have tl3 : (tabL ++ [AV.mp mi]).drop 12 = [AV.mp mi] := rfl
  have tlp : pureAVs tabL = true := by decide
  obtain ⟨_, rfl, cf⟩ := (formed_ret h).call rfl (by simp [pvs_cons, pvs_nil, pv_agg, tlp, exPure _ h])
  obtain ⟨_, rfl, cn⟩ := (name_ret n g3.2).call rfl (by simp [pvs_cons, pvs_nil, pv_v])
  obtain ⟨_, rfl, cd⟩ := (named_ret k).call rfl (by simp [pvs_cons, pvs_nil, pv_v])
  refine sh_of pf68_is (Nat.le_of_ble_eq_true rfl) ?_
  have hmore : ∀ G T, More H0 ⟨H0 ++ G, T⟩ := fun G T => ⟨G, T, rfl⟩
  simp only [Ex.err]
  rw [show fmB k i n s kids.length = Ex.fm (.mk k i n s kids) from rfl]
  cases hf : (Ex.fm (.mk k i n s kids))
  · simp only [pf68, ↓wpre, wset, wcore, ne_eq, if_true, if_false, exists_eq_left', true_implies, false_implies, exists_const, exists_eq_right, binA, intA, loadA, storeA, pickC, setAt, mapO, argsE, X.isC, resA, oneA, unA, boundA, eqiA, eqsA, fillA, fillE, ASt.fz, strA, Nat.reduceEqDiff, Nat.reduceLT, ↓reduceIte, reduceCtorEq, Nat.reduceAdd, Nat.reduceLeDiff, Int.reduceBEq, Int.reduceBNe, Int.reduceLT, Int.reduceLE, Int.reduceGT, Int.reduceGE, Nat.reduceDiv, Nat.reduceMul, List.length_append, List.append_assoc, app_get_len, app_get_add, app_set_len, app_set_add, hc, hm, tl1, tl2, tl3, cf, hf, dem_f, wrPure]
    exact ⟨by decide, hmore _ _⟩
  · rw [if_neg (by decide)]
    have hnb : namedB k = (k == 3 || k == 5) := rfl
    obtain ⟨gb, hgb⟩ : ∃ b, gl n = b := ⟨_, rfl⟩
    obtain ⟨nm, hnm⟩ : ∃ b, isName n = b := ⟨_, rfl⟩
    obtain ⟨iv, hiv⟩ : ∃ b, decide (i ≥ v) = b := ⟨_, rfl⟩
    obtain ⟨nb, hnb2⟩ : ∃ b, namedB k = b := ⟨_, rfl⟩
    have hiv' : decide (i < v) = !iv := by rw [← hiv, Bool.eq_iff_iff]; simp
    have hlk := hS n
    rw [hnm, hgb, hiv, hnb2]
    rw [hnm] at cn
    rw [hnb2] at cd
    rw [hgb] at hlk
    by_cases hN : nb = true ∧ nm = false
    · rw [if_pos hN]
      obtain ⟨rfl, rfl⟩ := hN
      simp only [pf68, ↓wpre, wset, wcore, ne_eq, if_true, if_false, exists_eq_left', true_implies, false_implies, exists_const, exists_eq_right, binA, intA, loadA, storeA, pickC, setAt, mapO, argsE, X.isC, resA, oneA, unA, boundA, eqiA, eqsA, fillA, fillE, ASt.fz, strA, Nat.reduceEqDiff, Nat.reduceLT, ↓reduceIte, reduceCtorEq, Nat.reduceAdd, Nat.reduceLeDiff, Int.reduceBEq, Int.reduceBNe, Int.reduceLT, Int.reduceLE, Int.reduceGT, Int.reduceGE, Nat.reduceDiv, Nat.reduceMul, List.length_append, List.append_assoc, app_get_len, app_get_add, app_set_len, app_set_add, hc, hm, tl1, tl2, tl3, cf, hf, cd, cn, dem_f, dem_t, wrPure]
      exact ⟨by decide, hmore _ _⟩
    rw [if_neg hN]
    have key : ∀ x0 x5 : Bool, (k != 0) = !x0 → (k != 5) = !x5 → (nb = true → nm = true) → (x5 = true → nb = true) → W (run md pfs) md pf68.body ⟨tmE pf68.nt (argsE [.ptr ci 0, .agg [.int k, .int i, .str n, .sl (ints s) t1, .sl kas t2], .int v]), [], ⟨H0, T⟩⟩ (SQ pf68.res (fun x s' => (if x0 = true ∧ iv = true then 24 else if x5 = true ∧ gb = false then 9 else errL gl k s v 0 kids) = 0 ∧ x = .tup [.int (Ex.size (.mk k i n s kids)), .int (Ex.deep (.mk k i n s kids))] ∧ More H0 s') (fun x s' => (if x0 = true ∧ iv = true then 24 else if x5 = true ∧ gb = false then 9 else errL gl k s v 0 kids) ≠ 0 ∧ x = wr (if x0 = true ∧ iv = true then 24 else if x5 = true ∧ gb = false then 9 else errL gl k s v 0 kids) ∧ More H0 s')) () := by
      intro x0 x5 hx0 hx5 a1 a2
      by_cases hS' : x0 = true ∧ iv = true
      · rw [if_pos hS']
        obtain ⟨rfl, rfl⟩ := hS'
        cases nb
        all_goals try (have b1 := a1 rfl; subst b1)
        all_goals
          simp only [pf68, ↓wpre, wset, wcore, ne_eq, if_true, if_false, exists_eq_left', true_implies, false_implies, exists_const, exists_eq_right, binA, intA, loadA, storeA, pickC, setAt, mapO, argsE, X.isC, resA, oneA, unA, boundA, eqiA, eqsA, fillA, fillE, ASt.fz, strA, Nat.reduceEqDiff, Nat.reduceLT, ↓reduceIte, reduceCtorEq, Nat.reduceAdd, Nat.reduceLeDiff, Int.reduceBEq, Int.reduceBNe, Int.reduceLT, Int.reduceLE, Int.reduceGT, Int.reduceGE, Nat.reduceDiv, Nat.reduceMul, List.length_append, List.append_assoc, app_get_len, app_get_add, app_set_len, app_set_add, hc, hm, tl1, tl2, tl3, cf, hf, cd, cn, hx0, hiv', dem_f, dem_t, wrPure]
          exact ⟨by decide, hmore _ _⟩
      rw [if_neg hS']
      by_cases hG : x5 = true ∧ gb = false
      · rw [if_pos hG]
        obtain ⟨rfl, rfl⟩ := hG
        have b2 := a2 rfl; subst b2
        have b1 := a1 rfl; subst b1
        simp only [Bool.false_eq_true, if_false] at hlk
        have a3 : x0 = true → iv = false := fun h => by cases iv; rfl; exact absurd ⟨h, rfl⟩ hS'
        cases x0
        all_goals try (have b3 := a3 rfl; subst b3)
        all_goals
          simp only [pf68, ↓wpre, wset, wcore, ne_eq, if_true, if_false, exists_eq_left', true_implies, false_implies, exists_const, exists_eq_right, binA, intA, loadA, storeA, pickC, setAt, mapO, argsE, X.isC, resA, oneA, unA, boundA, eqiA, eqsA, fillA, fillE, ASt.fz, strA, Nat.reduceEqDiff, Nat.reduceLT, ↓reduceIte, reduceCtorEq, Nat.reduceAdd, Nat.reduceLeDiff, Int.reduceBEq, Int.reduceBNe, Int.reduceLT, Int.reduceLE, Int.reduceGT, Int.reduceGE, Nat.reduceDiv, Nat.reduceMul, List.length_append, List.append_assoc, app_get_len, app_get_add, app_set_len, app_set_add, hc, hm, tl1, tl2, tl3, cf, hf, cd, cn, hx0, hx5, hiv', hlk, keyOK, dem_f, dem_t, wrPure]
          exact ⟨by decide, hmore _ _⟩
      rw [if_neg hG]
      have a3 : x0 = true → iv = false := fun h => by cases iv; rfl; exact absurd ⟨h, rfl⟩ hS'
      have a4 : x5 = true → gb = true := fun h => by cases gb; exact absurd ⟨h, rfl⟩ hG; rfl
      cases x0 <;> cases x5 <;> cases nb
      all_goals try (have b1 := a1 rfl; subst b1)
      all_goals try (have b2 := a2 rfl; cases b2)
      all_goals try (have b3 := a3 rfl; subst b3)
      all_goals try (have b4 := a4 rfl; subst b4; simp only [if_true] at hlk)
      all_goals
        simp only [pf68, ↓wpre, wset, wcore, ne_eq, if_true, if_false, exists_eq_left', true_implies, false_implies, exists_const, exists_eq_right, binA, intA, loadA, storeA, pickC, setAt, mapO, argsE, X.isC, resA, oneA, unA, boundA, eqiA, eqsA, fillA, fillE, ASt.fz, strA, Nat.reduceEqDiff, Nat.reduceLT, ↓reduceIte, reduceCtorEq, Nat.reduceAdd, Nat.reduceLeDiff, Int.reduceBEq, Int.reduceBNe, Int.reduceLT, Int.reduceLE, Int.reduceGT, Int.reduceGE, Nat.reduceDiv, Nat.reduceMul, List.length_append, List.append_assoc, app_get_len, app_get_add, app_set_len, app_set_add, hc, hm, tl1, tl2, tl3, cf, hf, cd, cn, hx0, hx5, hiv', hlk, keyOK, dem_f, dem_t, wrPure]
        refine W_loopE (fun j => kas.length - j) (fun j E H T => ∃ G acc dep, H = H0 ++ (.cells false [.int k, .int i, .str n, .sl (ints s) t1, .sl kas t2] :: G) ∧ E 0 = .ptr ci 0 ∧ E 2 = .int v ∧ E 4 = .ptr H0.length 0 ∧ E 8 = .int acc ∧ E 9 = .int dep ∧ E 55 = .sl kas t2 ∧ E 56 = .int kas.length ∧ E 57 = .int j ∧ j ≤ kas.length ∧
          errL gl k s v j (kids.drop j) = errL gl k s v 0 kids ∧ Ex.sizes acc (kids.drop j) = Ex.sizes 1 kids ∧ Ex.deeps dep (kids.drop j) = Ex.deeps 0 kids) ?_ 0 ⟨_, 1, 0, rfl, rfl, rfl, rfl, rfl, rfl, rfl, rfl, rfl, Nat.zero_le _, rfl, rfl, rfl⟩
        rintro j E H T ⟨G, acc, dep, rfl, e0, e2, e4, e8, e9, e55, e56, e57, hj, hn1, hn2, hn3⟩
        rcases Nat.lt_or_ge j kas.length with hlt | hge
        · obtain ⟨y, c2, d0, d1, d3, d4, d5, d6, d7, d8⟩ := g6.get exAgg hlt
          have hdec : decide ((j : Int) < kas.length) = true := by simpa using hlt
          have hall := g6.all exAgg
          obtain ⟨_, rfl, cb⟩ := (under_ret k i n s t1 t2 kas j (by omega) g4).call rfl (by simp [pvs_cons, pvs_nil, pv_v, exPure _ h])
          rw [d1] at hn1 hn2 hn3
          simp only [errL, Ex.sizes, Ex.deeps] at hn1 hn2 hn3
          rcases (ih y d3 (v := w64 (v + under k s j)) (H0 := H0 ++ (.cells false [.int k, .int i, .str n, .sl (ints s) t1, .sl kas t2] :: (G ++ [.cells false c2]))) (T := T) d8 (hc _) (hm _)).call rfl with ⟨r, s1, ⟨z1, rfl, G', T', rfl⟩, cr⟩ | ⟨r, s1, ⟨z1, rfl, G', T', rfl⟩, cr⟩
          · simp only [↓wpre, wset, wcore, ne_eq, if_true, if_false, exists_eq_left', true_implies, false_implies, exists_const, exists_eq_right, binA, intA, loadA, storeA, pickC, setAt, mapO, argsE, X.isC, resA, oneA, unA, boundA, eqiA, eqsA, fillA, fillE, ASt.fz, strA, Nat.reduceEqDiff, Nat.reduceLT, ↓reduceIte, reduceCtorEq, Nat.reduceAdd, Nat.reduceLeDiff, Int.reduceBEq, Int.reduceBNe, Int.reduceLT, Int.reduceLE, Int.reduceGT, Int.reduceGE, Nat.reduceDiv, Nat.reduceMul, List.length_append, List.append_assoc, app_get_len, app_get_add, app_set_len, app_set_add, hc, hm, e0, e2, e4, e8, e9, e55, e56, e57, hdec, d4, d5, d6, d7, hall, cb, cr]
            rw [if_pos z1] at hn1
            exact EQ_in ⟨j + 1, by omega, _, _, _, rfl, e0, e2, e4, rfl, rfl, e55, e56, next_ixv (by omega), by omega, hn1, hn2, hn3⟩
          · simp only [↓wpre, wset, wcore, ne_eq, if_true, if_false, exists_eq_left', true_implies, false_implies, exists_const, exists_eq_right, binA, intA, loadA, storeA, pickC, setAt, mapO, argsE, X.isC, resA, oneA, unA, boundA, eqiA, eqsA, fillA, fillE, ASt.fz, strA, Nat.reduceEqDiff, Nat.reduceLT, ↓reduceIte, reduceCtorEq, Nat.reduceAdd, Nat.reduceLeDiff, Int.reduceBEq, Int.reduceBNe, Int.reduceLT, Int.reduceLE, Int.reduceGT, Int.reduceGE, Nat.reduceDiv, Nat.reduceMul, List.length_append, List.append_assoc, app_get_len, app_get_add, app_set_len, app_set_add, hc, hm, e0, e2, e4, e8, e9, e55, e56, e57, hdec, d4, d5, d6, d7, hall, cb, cr, wrPure]
            rw [if_neg z1] at hn1
            rw [← hn1]
            exact ⟨z1, rfl, hmore _ _⟩
        · have hdec : decide ((j : Int) < kas.length) = false := by simpa using hge
          rw [List.drop_eq_nil_of_le (by rw [← g6.len]; omega)] at hn1 hn2 hn3
          simp only [↓wpre, wset, wcore, ne_eq, if_true, if_false, exists_eq_left', true_implies, false_implies, exists_const, exists_eq_right, binA, intA, loadA, storeA, pickC, setAt, mapO, argsE, X.isC, resA, oneA, unA, boundA, eqiA, eqsA, fillA, fillE, ASt.fz, strA, Nat.reduceEqDiff, Nat.reduceLT, ↓reduceIte, reduceCtorEq, Nat.reduceAdd, Nat.reduceLeDiff, Int.reduceBEq, Int.reduceBNe, Int.reduceLT, Int.reduceLE, Int.reduceGT, Int.reduceGE, Nat.reduceDiv, Nat.reduceMul, List.length_append, List.append_assoc, app_get_len, app_get_add, app_set_len, app_set_add, e0, e2, e4, e8, e9, e55, e56, e57, hdec]
          refine ⟨hn1.symm, ?_, hmore _ _⟩
          simp only [Ex.size, Ex.deep, ← hn2, ← hn3, Ex.sizes, Ex.deeps]
    have e0 : (k != 0) = !(k == 0) := rfl
    have e5 : (k != 5) = !(k == 5) := rfl
    have := key (k == 0) (k == 5) e0 e5 (fun h => by cases nm; exact absurd ⟨h, rfl⟩ hN; rfl) (fun h => by rw [← hnb2, hnb, h]; simp)
    exact this.mono fun r st hr => by simpa only [beq_iff_eq] using hr
end Go.Proofs.Eng
