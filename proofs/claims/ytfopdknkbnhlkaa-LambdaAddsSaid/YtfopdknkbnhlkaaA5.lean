/- A5: what functions of the program return. No conditions beyond those in the theorems. -/
import Derived.Test.YtfopdknkbnhlkaaA3
set_option linter.all false
set_option linter.deprecated false
set_option linter.unnecessarySimpa false
set_option linter.unusedVariables false
set_option linter.unusedSimpArgs false
set_option linter.defProp false
namespace Go.Proofs.Eng
open Go Go.Proofs
set_option maxRecDepth 100000
mutual
/-- The reference's way through an expression. -/
def Ex.mw (g : Ex → Int → Ex) : Int → Ex → Ex
  | d, .mk k i n s kids => if k = 0 then g (.mk k i n s kids) d else .mk k i n s (mwL g k s d 0 kids)
def mwL (g : Ex → Int → Ex) (k : Int) (s : List Int) (d : Int) : Nat → List Ex → List Ex
  | _, [] => []
  | j, e :: es => Ex.mw g (w64 (d + under k s j)) e :: mwL g k s d (j + 1) es
end
theorem mwL_append (g : Ex → Int → Ex) (k : Int) (s : List Int) (d : Int) : ∀ (j : Nat) (l m : List Ex), mwL g k s d j (l ++ m) = mwL g k s d j l ++ mwL g k s d (j + l.length) m
  | _, [], m => by simp [mwL]
  | j, e :: es, m => by simp [mwL, mwL_append g k s d (j + 1) es m, Nat.add_assoc, Nat.add_comm 1]
def shG (b : Int) : Ex → Int → Ex
  | .mk k i n s kids, d => if i ≥ d then .mk k (w64 (i + b)) n s kids else .mk k i n s kids
def Ex.shift (b d : Int) (e : Ex) : Ex := e.mw (shG b) d
theorem with_ret {k i : Int} {n : ByteArray} {s : List Int} {t1 t2 t : Tl} {kas kas2 : List AV} (hx : pureAV (.agg [.int k, .int i, .str n, .sl (ints s) t1, .sl kas t2]) = true) (h1 : t1.pure = true) (h2 : t.pure = true) (h3 : pureAVs kas2 = true) : Out md pfs 76 [.agg [.int k, .int i, .str n, .sl (ints s) t1, .sl kas t2], .sl kas2 t] (· = .agg [.int k, .int i, .str n, .sl (ints s) t1, .sl kas2 t]) fun _ => False := by
  refine out_of pf76_is (Nat.le_of_ble_eq_true rfl) ?_
  simp only [pf76, ↓wpre, wset, wcore, ne_eq, if_true, if_false, exists_eq_left', true_implies, false_implies, exists_const, exists_eq_right, binA, intA, loadA, storeA, pickC, setAt, mapO, argsE, X.isC, resA, oneA, unA, boundA, eqiA, eqsA, fillA, fillE, ASt.fz, strA, Nat.reduceEqDiff, Nat.reduceLT, ↓reduceIte, reduceCtorEq, Nat.reduceAdd, Nat.reduceLeDiff, Int.reduceBEq, Int.reduceBNe, Int.reduceLT, Int.reduceLE, Int.reduceGT, Int.reduceGE, Nat.reduceDiv, Nat.reduceMul, h1, h2, h3, ints_pure]
theorem shift_ret (b : Int) (e : Ex) : ∀ {a d}, e.Is a → e.slim → Out md pfs 74 [a, .int b, .int d] (fun v => (e.shift b d).Is v) fun _ => False := by
  induction e using Ex.ind with
  | h k i n s kids ih =>
  intro a d h hsl
  rw [Ex.slim_iff] at hsl
  obtain ⟨t1, t2, kas, rfl, h1, h2, h3, h4, h5, h6⟩ := h.opn
  refine out_of pf74_is (Nat.le_of_ble_eq_true rfl) ?_
  cases hk : (k == 0)
  · simp only [pf74, ↓wpre, wset, wcore, ne_eq, if_true, if_false, exists_eq_left', true_implies, false_implies, exists_const, exists_eq_right, binA, intA, loadA, storeA, pickC, setAt, mapO, argsE, X.isC, resA, oneA, unA, boundA, eqiA, eqsA, fillA, fillE, ASt.fz, strA, Nat.reduceEqDiff, Nat.reduceLT, ↓reduceIte, reduceCtorEq, Nat.reduceAdd, Nat.reduceLeDiff, Int.reduceBEq, Int.reduceBNe, Int.reduceLT, Int.reduceLE, Int.reduceGT, Int.reduceGE, Nat.reduceDiv, Nat.reduceMul, hk]
    refine W_loopE (fun j => kas.length - j) (fun j E H T => ∃ done t, H = [.cells false [.int k, .int i, .str n, .sl (ints s) t1, .sl kas t2], .cells false [.int 0, .int 0, .str ⟨#[]⟩, .sl [] .nil, .sl [] .nil]] ∧
      E 1 = .int b ∧ E 2 = .int d ∧ E 3 = .ptr 0 0 ∧ E 6 = .ptr 1 0 ∧ E 7 = .sl done t ∧ E 8 = .int j ∧ App T done t ∧
      j ≤ kas.length ∧ done.length = j ∧ LIs Ex.Is (mwL (shG b) k s d 0 (kids.take j)) done) ?_ 0 ?_
    · rintro j E H T ⟨done, t, rfl, e1, e2, e3, e6, e7, e8, hA, hj, hdl, hdone⟩
      rcases Nat.lt_or_ge j kas.length with hlt | hge
      · obtain ⟨e, c, d0, d1, d3, d4, d5, d6, d7, d8⟩ := h6.get exAgg hlt
        have hdec : decide ((j : Int) < kas.length) = true := by simpa using hlt
        have hall := h6.all exAgg
        obtain ⟨v, rfl, hc⟩ := (binds_ret k i n s t1 t2 kas j (by omega) h4).call rfl (by simp [pvs_cons, pvs_nil, pv_v, exPure _ h])
        obtain ⟨v, hv, hc2⟩ := (ih e d3 (d := w64 (d + under k s j)) d8 (hsl.2 e d3)).call rfl (by simp [pvs_cons, pvs_nil, pv_v, exPure _ d8])
        obtain ⟨cv, rfl, hvl, hvo⟩ := exAgg.cells hv
        obtain ⟨t', T', hap, hA', _⟩ := app_one hA (by have := hsl.1; rw [← h6.len] at this; omega) (hdone.all exAgg) (x := .agg cv) hvl hvo
        simp only [↓wpre, wset, wcore, ne_eq, if_true, if_false, exists_eq_left', true_implies, false_implies, exists_const, exists_eq_right, binA, intA, loadA, storeA, pickC, setAt, mapO, argsE, X.isC, resA, oneA, unA, boundA, eqiA, eqsA, fillA, fillE, ASt.fz, strA, Nat.reduceEqDiff, Nat.reduceLT, ↓reduceIte, reduceCtorEq, Nat.reduceAdd, Nat.reduceLeDiff, Int.reduceBEq, Int.reduceBNe, Int.reduceLT, Int.reduceLE, Int.reduceGT, Int.reduceGE, Nat.reduceDiv, Nat.reduceMul, e1, e2, e3, e6, e7, e8, hdec, d4, d5, d6, d7, hall, hc, hc2, hvl, hvo, hap]
        exact EQ_in ⟨j + 1, by omega, done ++ [.agg cv], t', rfl, e1, e2, e3, e6, rfl, next_ixv (by omega), hA', by omega, by simp [hdl], by
          rw [List.take_add_one, d0, mwL_append]
          refine hdone.append ?_
          rw [Nat.zero_add, List.length_take, ← h6.len, Nat.min_eq_left (by omega)]
          exact LIs.one hv⟩
      · have hdec : decide ((j : Int) < kas.length) = false := by simpa using hge
        rw [List.take_of_length_le (by rw [← h6.len]; omega)] at hdone
        obtain ⟨t', ht', hap⟩ := app_purify (s := ⟨[.cells false [.int k, .int i, .str n, .sl (ints s) t1, .sl kas t2], .cells false [.int 0, .int 0, .str ⟨#[]⟩, .sl [] .nil, .sl [] .nil]], T⟩) hA (exsPure hdone) (n := 20) (by omega)
        obtain ⟨v, rfl, hc⟩ := (with_ret (t := t') (kas2 := done) (exPure _ h) h1 ht' (exsPure hdone)).callP rfl (s := ⟨[.cells false [.int k, .int i, .str n, .sl (ints s) t1, .sl kas t2], .cells false [.int 0, .int 0, .str ⟨#[]⟩, .sl [] .nil, .sl [] .nil]], T⟩) (args := [.agg [.int k, .int i, .str n, .sl (ints s) t1, .sl kas t2], .sl done t]) (by simp only [mapO, hap, purify_pure (n := 19) (exPure _ h)])
        simp only [↓wpre, wset, wcore, ne_eq, if_true, if_false, exists_eq_left', true_implies, false_implies, exists_const, exists_eq_right, binA, intA, loadA, storeA, pickC, setAt, mapO, argsE, X.isC, resA, oneA, unA, boundA, eqiA, eqsA, fillA, fillE, ASt.fz, strA, Nat.reduceEqDiff, Nat.reduceLT, ↓reduceIte, reduceCtorEq, Nat.reduceAdd, Nat.reduceLeDiff, Int.reduceBEq, Int.reduceBNe, Int.reduceLT, Int.reduceLE, Int.reduceGT, Int.reduceGE, Nat.reduceDiv, Nat.reduceMul, e1, e2, e3, e6, e7, e8, hdec, hc, exPure _ h, exsPure hdone, h1, ht', ints_pure]
        simp only [Ex.shift, Ex.mw]
        rw [if_neg (by simpa using hk)]
        exact Ex.Is.mk h1 ht' h3 h4 (by omega) hdone
    · exact ⟨[], .nil, rfl, rfl, rfl, rfl, rfl, rfl, rfl, app_start _, Nat.zero_le _, rfl, trivial⟩
  · cases hd : decide (i ≥ d)
    · simp only [pf74, ↓wpre, wset, wcore, ne_eq, if_true, if_false, exists_eq_left', true_implies, false_implies, exists_const, exists_eq_right, binA, intA, loadA, storeA, pickC, setAt, mapO, argsE, X.isC, resA, oneA, unA, boundA, eqiA, eqsA, fillA, fillE, ASt.fz, strA, Nat.reduceEqDiff, Nat.reduceLT, ↓reduceIte, reduceCtorEq, Nat.reduceAdd, Nat.reduceLeDiff, Int.reduceBEq, Int.reduceBNe, Int.reduceLT, Int.reduceLE, Int.reduceGT, Int.reduceGE, Nat.reduceDiv, Nat.reduceMul, hk, hd, exPure _ h]
      simp only [Ex.shift, Ex.mw]
      rw [if_pos (by simpa using hk), shG, if_neg (by simpa using hd)]
      exact h
    · have hr : (Ex.mk k (w64 (i + b)) n s kids).Is (.agg [.int k, .int (w64 (i + b)), .str n, .sl (ints s) t1, .sl kas t2]) := Ex.Is.mk h1 h2 ⟨in64_wrap _, h3.2⟩ h4 h5 h6
      simp only [pf74, ↓wpre, wset, wcore, ne_eq, if_true, if_false, exists_eq_left', true_implies, false_implies, exists_const, exists_eq_right, binA, intA, loadA, storeA, pickC, setAt, mapO, argsE, X.isC, resA, oneA, unA, boundA, eqiA, eqsA, fillA, fillE, ASt.fz, strA, Nat.reduceEqDiff, Nat.reduceLT, ↓reduceIte, reduceCtorEq, Nat.reduceAdd, Nat.reduceLeDiff, Int.reduceBEq, Int.reduceBNe, Int.reduceLT, Int.reduceLE, Int.reduceGT, Int.reduceGE, Nat.reduceDiv, Nat.reduceMul, hk, hd, exPure _ hr]
      simp only [Ex.shift, Ex.mw]
      rw [if_pos (by simpa using hk), shG, if_pos (by simpa using hd)]
      exact hr
def sbG (vs : List Ex) : Ex → Int → Ex
  | .mk k i n s kids, d => if i < d then .mk k i n s kids else if w64 (i - d) < vs.length then (vs.getD (w64 (i - d)).toNat .zero).shift d 0 else .mk k (w64 (i - vs.length)) n s kids
theorem rsubst1_ret (vs : List Ex) (vas : List AV) (tv : Tl) (htv : tv.pure = true) (hvs : LIs Ex.Is vs vas) (hsv : ∀ v ∈ vs, v.slim) (e : Ex) : ∀ {a d}, e.Is a → e.fits d → e.slim → Out md pfs 48 [a, .sl vas tv, .int d] (fun v => (e.mw (sbG vs) d).Is v) fun _ => False := by
  induction e using Ex.ind with
  | h k i n s kids ih =>
  intro a d h hfit hsl
  rw [Ex.slim_iff] at hsl
  obtain ⟨t1, t2, kas, rfl, h1, h2, h3, h4, h5, h6⟩ := h.opn
  simp only [Ex.fits] at hfit
  obtain ⟨hd0, hd1, hfit⟩ := hfit
  refine out_of pf48_is (Nat.le_of_ble_eq_true rfl) ?_
  cases hk : (k == 0)
  · have hfit : fitsL k s d 0 kids := by simp at hk; exact hfit.resolve_left hk
    simp only [pf48, ↓wpre, wset, wcore, ne_eq, if_true, if_false, exists_eq_left', true_implies, false_implies, exists_const, exists_eq_right, binA, intA, loadA, storeA, pickC, setAt, mapO, argsE, X.isC, resA, oneA, unA, boundA, eqiA, eqsA, fillA, fillE, ASt.fz, strA, Nat.reduceEqDiff, Nat.reduceLT, ↓reduceIte, reduceCtorEq, Nat.reduceAdd, Nat.reduceLeDiff, Int.reduceBEq, Int.reduceBNe, Int.reduceLT, Int.reduceLE, Int.reduceGT, Int.reduceGE, Nat.reduceDiv, Nat.reduceMul, hk]
    refine W_loopE (fun j => kas.length - j) (fun j E H T => ∃ done t, H = [.cells false [.int k, .int i, .str n, .sl (ints s) t1, .sl kas t2], .cells false [.int 0, .int 0, .str ⟨#[]⟩, .sl [] .nil, .sl [] .nil]] ∧
      E 1 = .sl vas tv ∧ E 2 = .int d ∧ E 3 = .ptr 0 0 ∧ E 6 = .ptr 1 0 ∧ E 7 = .sl done t ∧ E 8 = .int j ∧ App T done t ∧
      j ≤ kas.length ∧ done.length = j ∧ LIs Ex.Is (mwL (sbG vs) k s d 0 (kids.take j)) done) ?_ 0 ?_
    · rintro j E H T ⟨done, t, rfl, e1, e2, e3, e6, e7, e8, hA, hj, hdl, hdone⟩
      rcases Nat.lt_or_ge j kas.length with hlt | hge
      · obtain ⟨e, c, d0, d1, d3, d4, d5, d6, d7, d8⟩ := h6.get exAgg hlt
        have hdec : decide ((j : Int) < kas.length) = true := by simpa using hlt
        have hall := h6.all exAgg
        obtain ⟨v, rfl, hc⟩ := (binds_ret k i n s t1 t2 kas j (by omega) h4).call rfl (by simp [pvs_cons, pvs_nil, pv_v, exPure _ h])
        have hf' := fitsL_drop hfit d0
        rw [Nat.zero_add] at hf'
        obtain ⟨v, hv, hc2⟩ := (ih e d3 d8 hf' (hsl.2 e d3)).call rfl (by simp [pvs_cons, pvs_nil, pv_v, pv_sl, exPure _ d8, htv, exsPure hvs])
        obtain ⟨cv, rfl, hvl, hvo⟩ := exAgg.cells hv
        obtain ⟨t', T', hap, hA', _⟩ := app_one hA (by have := hsl.1; rw [← h6.len] at this; omega) (hdone.all exAgg) (x := .agg cv) hvl hvo
        simp only [↓wpre, wset, wcore, ne_eq, if_true, if_false, exists_eq_left', true_implies, false_implies, exists_const, exists_eq_right, binA, intA, loadA, storeA, pickC, setAt, mapO, argsE, X.isC, resA, oneA, unA, boundA, eqiA, eqsA, fillA, fillE, ASt.fz, strA, Nat.reduceEqDiff, Nat.reduceLT, ↓reduceIte, reduceCtorEq, Nat.reduceAdd, Nat.reduceLeDiff, Int.reduceBEq, Int.reduceBNe, Int.reduceLT, Int.reduceLE, Int.reduceGT, Int.reduceGE, Nat.reduceDiv, Nat.reduceMul, e1, e2, e3, e6, e7, e8, hdec, d4, d5, d6, d7, hall, hc, hc2, hvl, hvo, hap]
        exact EQ_in ⟨j + 1, by omega, done ++ [.agg cv], t', rfl, e1, e2, e3, e6, rfl, next_ixv (by omega), hA', by omega, by simp [hdl], by
          rw [List.take_add_one, d0, mwL_append]
          refine hdone.append ?_
          rw [Nat.zero_add, List.length_take, ← h6.len, Nat.min_eq_left (by omega)]
          exact LIs.one hv⟩
      · have hdec : decide ((j : Int) < kas.length) = false := by simpa using hge
        rw [List.take_of_length_le (by rw [← h6.len]; omega)] at hdone
        obtain ⟨t', ht', hap⟩ := app_purify (s := ⟨[.cells false [.int k, .int i, .str n, .sl (ints s) t1, .sl kas t2], .cells false [.int 0, .int 0, .str ⟨#[]⟩, .sl [] .nil, .sl [] .nil]], T⟩) hA (exsPure hdone) (n := 20) (by omega)
        obtain ⟨v, rfl, hc⟩ := (with_ret (t := t') (kas2 := done) (exPure _ h) h1 ht' (exsPure hdone)).callP rfl (s := ⟨[.cells false [.int k, .int i, .str n, .sl (ints s) t1, .sl kas t2], .cells false [.int 0, .int 0, .str ⟨#[]⟩, .sl [] .nil, .sl [] .nil]], T⟩) (args := [.agg [.int k, .int i, .str n, .sl (ints s) t1, .sl kas t2], .sl done t]) (by simp only [mapO, hap, purify_pure (n := 19) (exPure _ h)])
        simp only [↓wpre, wset, wcore, ne_eq, if_true, if_false, exists_eq_left', true_implies, false_implies, exists_const, exists_eq_right, binA, intA, loadA, storeA, pickC, setAt, mapO, argsE, X.isC, resA, oneA, unA, boundA, eqiA, eqsA, fillA, fillE, ASt.fz, strA, Nat.reduceEqDiff, Nat.reduceLT, ↓reduceIte, reduceCtorEq, Nat.reduceAdd, Nat.reduceLeDiff, Int.reduceBEq, Int.reduceBNe, Int.reduceLT, Int.reduceLE, Int.reduceGT, Int.reduceGE, Nat.reduceDiv, Nat.reduceMul, e1, e2, e3, e6, e7, e8, hdec, hc, exPure _ h, exsPure hdone, h1, ht', ints_pure]
        simp only [Ex.mw]
        rw [if_neg (by simpa using hk)]
        exact Ex.Is.mk h1 ht' h3 h4 (by omega) hdone
    · exact ⟨[], .nil, rfl, rfl, rfl, rfl, rfl, rfl, rfl, app_start _, Nat.zero_le _, rfl, trivial⟩
  · have hw : ¬ i < d → w64 (i - d) = i - d := fun _ => wrap_in (by have := h3.1; unfold in64 at this ⊢; unfold B62 at hd1; omega)
    simp only [Ex.mw]
    rw [if_pos (by simpa using hk), sbG]
    cases hd : decide (i < d)
    · simp at hd
      have hw := hw (by omega)
      cases hl : decide (w64 (i - d) < vas.length)
      · have hr : (Ex.mk k (w64 (i - vas.length)) n s kids).Is (.agg [.int k, .int (w64 (i - vas.length)), .str n, .sl (ints s) t1, .sl kas t2]) := Ex.Is.mk h1 h2 ⟨in64_wrap _, h3.2⟩ h4 h5 h6
        have hd' : decide (i < d) = false := by simp; omega
        simp only [pf48, ↓wpre, wset, wcore, ne_eq, if_true, if_false, exists_eq_left', true_implies, false_implies, exists_const, exists_eq_right, binA, intA, loadA, storeA, pickC, setAt, mapO, argsE, X.isC, resA, oneA, unA, boundA, eqiA, eqsA, fillA, fillE, ASt.fz, strA, Nat.reduceEqDiff, Nat.reduceLT, ↓reduceIte, reduceCtorEq, Nat.reduceAdd, Nat.reduceLeDiff, Int.reduceBEq, Int.reduceBNe, Int.reduceLT, Int.reduceLE, Int.reduceGT, Int.reduceGE, Nat.reduceDiv, Nat.reduceMul, hk, hd', hl, exPure _ hr]
        rw [if_neg (by omega), if_neg (by rw [← hvs.len]; simpa using hl), ← hvs.len]
        exact hr
      · have hl2 : (w64 (i - d)).toNat < vas.length := by simp at hl; omega
        obtain ⟨e, c, d0, d1, d3, d4, d5, d6, d7, d8⟩ := hvs.get exAgg hl2
        obtain ⟨v, hv, hc⟩ := (shift_ret d e (d := 0) d8 (hsv e d3)).call rfl (by simp [pvs_cons, pvs_nil, pv_v, exPure _ d8])
        obtain ⟨c', rfl, hcl, ho⟩ := exAgg.cells hv
        have hl' : c'.take 5 = c' := List.take_of_length_le (by omega)
        have h0 : 0 ≤ w64 (i - d) := by omega
        have hd' : decide (i < d) = false := by simp; omega
        simp only [pf48, ↓wpre, wset, wcore, ne_eq, if_true, if_false, exists_eq_left', true_implies, false_implies, exists_const, exists_eq_right, binA, intA, loadA, storeA, pickC, setAt, mapO, argsE, X.isC, resA, oneA, unA, boundA, eqiA, eqsA, fillA, fillE, ASt.fz, strA, Nat.reduceEqDiff, Nat.reduceLT, ↓reduceIte, reduceCtorEq, Nat.reduceAdd, Nat.reduceLeDiff, Int.reduceBEq, Int.reduceBNe, Int.reduceLT, Int.reduceLE, Int.reduceGT, Int.reduceGE, Nat.reduceDiv, Nat.reduceMul, hk, hd', hl, hc, hcl, ho, hl', exPure _ hv, d4, d5, d6, d7, d8, h0, hvs.all exAgg]
        rw [if_neg (by omega), if_pos (by rw [← hvs.len]; simpa using hl), List.getD, d0]
        exact hv
    · simp only [pf48, ↓wpre, wset, wcore, ne_eq, if_true, if_false, exists_eq_left', true_implies, false_implies, exists_const, exists_eq_right, binA, intA, loadA, storeA, pickC, setAt, mapO, argsE, X.isC, resA, oneA, unA, boundA, eqiA, eqsA, fillA, fillE, ASt.fz, strA, Nat.reduceEqDiff, Nat.reduceLT, ↓reduceIte, reduceCtorEq, Nat.reduceAdd, Nat.reduceLeDiff, Int.reduceBEq, Int.reduceBNe, Int.reduceLT, Int.reduceLE, Int.reduceGT, Int.reduceGE, Nat.reduceDiv, Nat.reduceMul, hk, hd, exPure _ h]
      rw [if_pos (by simpa using hd)]
      exact h
def Ex.rsubst (e : Ex) (vs : List Ex) : Ex := e.mw (sbG vs) 0
theorem rsubst_ret {e : Ex} {a : AV} (h : e.Is a) (hf : e.fits 0) (hsl : e.slim) {vs : List Ex} {vas : List AV} {tv : Tl} (hvs : LIs Ex.Is vs vas) (htv : tv.pure = true) (hsv : ∀ v ∈ vs, v.slim) : Out md pfs 19 [a, .sl vas tv] (fun v => (e.rsubst vs).Is v) fun _ => False := by
  refine out_of pf19_is (Nat.le_of_ble_eq_true rfl) ?_
  obtain ⟨c, rfl, hl, ho⟩ := exAgg.cells h
  have hl' : c.take 5 = c := List.take_of_length_le (by omega)
  obtain ⟨v, hv, hc⟩ := (rsubst1_ret vs vas tv htv hvs hsv e h hf hsl).call rfl (by simp [pvs_cons, pvs_nil, pv_v, pv_sl, exPure _ h, htv, exsPure hvs])
  obtain ⟨c', rfl, hl2, ho2⟩ := exAgg.cells hv
  have hl2' : c'.take 5 = c' := List.take_of_length_le (by omega)
  simp only [pf19, ↓wpre, wset, wcore, ne_eq, if_true, if_false, exists_eq_left', true_implies, false_implies, exists_const, exists_eq_right, binA, intA, loadA, storeA, pickC, setAt, mapO, argsE, X.isC, resA, oneA, unA, boundA, eqiA, eqsA, fillA, fillE, ASt.fz, strA, Nat.reduceEqDiff, Nat.reduceLT, ↓reduceIte, reduceCtorEq, Nat.reduceAdd, Nat.reduceLeDiff, Int.reduceBEq, Int.reduceBNe, Int.reduceLT, Int.reduceLE, Int.reduceGT, Int.reduceGE, Nat.reduceDiv, Nat.reduceMul, hl, hl2, hl', hl2', ho, ho2, hc, exPure _ hv]
  exact hv
end Go.Proofs.Eng
