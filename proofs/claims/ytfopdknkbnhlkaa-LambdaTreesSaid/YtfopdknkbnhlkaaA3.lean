/- A3: what functions of the program return. No conditions beyond those in the theorems. -/
import Derived.Test.YtfopdknkbnhlkaaA2
set_option linter.all false
set_option linter.deprecated false
set_option linter.unnecessarySimpa false
set_option linter.unusedVariables false
set_option linter.unusedSimpArgs false
set_option linter.defProp false
namespace Go.Proofs.Eng
open Go Go.Proofs
set_option maxRecDepth 100000
mutual
def Ex.mv (g : Int → Int → Ex) : Int → Ex → Ex
  | d, .mk k i n s kids => if k = 0 then g i d else .mk k i n s (mvL g k s d 0 kids)
def mvL (g : Int → Int → Ex) (k : Int) (s : List Int) (d : Int) : Nat → List Ex → List Ex
  | _, [] => []
  | j, e :: es => Ex.mv g (w64 (d + under k s j)) e :: mvL g k s d (j + 1) es
end
mutual
/-- The number of binders above stays in range. -/
def Ex.fits : Int → Ex → Prop
  | d, .mk k _ _ s kids => 0 ≤ d ∧ d ≤ B62 ∧ (k = 0 ∨ fitsL k s d 0 kids)
def fitsL (k : Int) (s : List Int) (d : Int) : Nat → List Ex → Prop
  | _, [] => True
  | j, e :: es => Ex.fits (w64 (d + under k s j)) e ∧ fitsL k s d (j + 1) es
end
theorem mvL_len (g : Int → Int → Ex) (k : Int) (s : List Int) (d : Int) : ∀ (j : Nat) (l : List Ex), (mvL g k s d j l).length = l.length
  | _, [] => rfl
  | j, e :: es => by simp [mvL, mvL_len g k s d (j + 1) es]
theorem mvL_append (g : Int → Int → Ex) (k : Int) (s : List Int) (d : Int) : ∀ (j : Nat) (l m : List Ex), mvL g k s d j (l ++ m) = mvL g k s d j l ++ mvL g k s d (j + l.length) m
  | _, [], m => by simp [mvL]
  | j, e :: es, m => by simp [mvL, mvL_append g k s d (j + 1) es m, Nat.add_assoc, Nat.add_comm 1]
theorem fitsL_drop {k : Int} {s : List Int} {d : Int} : ∀ {j i : Nat} {l : List Ex} {e : Ex}, fitsL k s d j l → l[i]? = some e → Ex.fits (w64 (d + under k s (j + i))) e
  | j, i, [], _, _, h => by simp at h
  | j, 0, e :: es, _, h, h' => by simp only [fitsL] at h; simp at h'; subst h'; exact h.1
  | j, i + 1, e :: es, _, h, h' => by
    simp only [fitsL] at h
    have := fitsL_drop (i := i) h.2 (by simpa using h')
    rwa [Nat.add_assoc, Nat.add_comm 1] at this
theorem mapVars_ret (f : FuncId) (caps : List AV) (g : Int → Int → Ex) (hf : md f = .pure) (hcaps : pureAVs caps = true) (hg : ∀ i d, in64 i → 0 ≤ d → d ≤ B62 → Out md pfs f (.int i :: .int d :: caps) (fun v => (g i d).Is v) fun _ => False) (e : Ex) : ∀ {a d}, e.Is a → e.fits d → e.slim → Out md pfs 44 [a, .int d, .fn f caps] (fun v => (e.mv g d).Is v) fun _ => False := by
  induction e using Ex.ind with
  | h k i n s kids ih =>
  intro a d h hfit hsl
  rw [Ex.slim_iff] at hsl
  obtain ⟨t1, t2, kas, rfl, h1, h2, h3, h4, h5, h6⟩ := h.opn
  simp only [Ex.fits] at hfit
  obtain ⟨hd0, hd1, hfit⟩ := hfit
  refine out_of pf44_is (Nat.le_of_ble_eq_true rfl) ?_
  cases hk : (k == 0)
  · have hfit : fitsL k s d 0 kids := by simp at hk; exact hfit.resolve_left hk
    cases hn : ((kas.length : Int) == 0)
    · have hn1 : (kas.length : Int) ≤ 1073741824 := by have := hsl.1; rw [h6.len]; unfold capB at this; omega
      simp only [pf44, ↓wpre, wset, wcore, ne_eq, if_true, if_false, exists_eq_left', true_implies, false_implies, exists_const, exists_eq_right, binA, intA, loadA, storeA, pickC, setAt, mapO, argsE, X.isC, resA, oneA, unA, boundA, eqiA, eqsA, fillA, fillE, ASt.fz, strA, Nat.reduceEqDiff, Nat.reduceLT, ↓reduceIte, reduceCtorEq, Nat.reduceAdd, Nat.reduceLeDiff, Int.reduceBEq, Int.reduceBNe, Int.reduceLT, Int.reduceLE, Int.reduceGT, Int.reduceGE, Nat.reduceDiv, Nat.reduceMul, hk, hn, hn1]
      refine W_loopE (fun j => kas.length - j) (fun j E H T => ∃ G done Z, H = .cells false [.int k, .int i, .str n, .sl (ints s) t1, .sl kas t2] :: .cells false [.int 0, .int 0, .str ⟨#[]⟩, .sl [] .nil, .sl [] .nil] :: .cells false (flat done ++ Z) :: G ∧
        E 1 = .int d ∧ E 2 = .fn f caps ∧ E 3 = .ptr 0 0 ∧ E 6 = .ptr 1 0 ∧ E 7 = .bs 2 0 kas.length 5 true ∧ E 28 = .sl kas t2 ∧ E 29 = .int kas.length ∧ E 30 = .int j ∧
        j ≤ kas.length ∧ done.length = j ∧ Z.length = (kas.length - j) * 5 ∧ LIs Ex.Is (mvL g k s d 0 (kids.take j)) done) ?_ 0 ?_
      · rintro j E H T ⟨G, done, Z, rfl, e1, e2, e3, e6, e7, e28, e29, e30, hj, hdl, hZ, hdone⟩
        rcases Nat.lt_or_ge j kas.length with hlt | hge
        · obtain ⟨e, c, d0, d1, d3, d4, d5, d6, d7, d8⟩ := h6.get exAgg hlt
          have hdec : decide ((j : Int) < kas.length) = true := by simpa using hlt
          have hall := h6.all exAgg
          obtain ⟨v, rfl, hc⟩ := (under_ret k i n s t1 t2 kas j (by omega) h4).call rfl (by simp [pvs_cons, pvs_nil, pv_v, exPure _ h])
          have hf' := fitsL_drop hfit d0
          rw [Nat.zero_add] at hf'
          obtain ⟨v, hv, hc2⟩ := (ih e d3 d8 hf' (hsl.2 e d3)).call rfl (by simp [pvs_cons, pvs_nil, pv_v, pv_fn, exPure _ d8, hcaps])
          obtain ⟨cv, rfl, hvl, hvo⟩ := exAgg.cells hv
          have hlt' : (j : Int) < kas.length := by omega
          have hfl := flatR_len exAgg hdone
          have hle : j * 5 + 5 ≤ (flat done ++ Z).length := by rw [List.length_append, hfl, hdl, hZ]; omega
          have hset := setAt_flat exAgg hdone hvl (Z := Z) (by omega) (off := j * 5) (by rw [hdl])
          unfold setAt at hset
          simp only [↓wpre, wset, wcore, ne_eq, if_true, if_false, exists_eq_left', true_implies, false_implies, exists_const, exists_eq_right, binA, intA, loadA, storeA, pickC, setAt, mapO, argsE, X.isC, resA, oneA, unA, boundA, eqiA, eqsA, fillA, fillE, ASt.fz, strA, Nat.reduceEqDiff, Nat.reduceLT, ↓reduceIte, reduceCtorEq, Nat.reduceAdd, Nat.reduceLeDiff, Int.reduceBEq, Int.reduceBNe, Int.reduceLT, Int.reduceLE, Int.reduceGT, Int.reduceGE, Nat.reduceDiv, Nat.reduceMul, e1, e2, e3, e6, e7, e28, e29, e30, hdec, d4, d5, d6, d7, hall, hc, hc2, hlt', hvl, hvo, hle]
          rw [hvl] at hset
          rw [hset]
          exact EQ_in ⟨j + 1, by omega, _, done ++ [.agg cv], Z.drop 5, rfl, e1, e2, e3, e6, e7, e28, e29, next_ixv (by omega), by omega, by simp [hdl], by simp [hZ]; omega, by
            rw [List.take_add_one, d0, mvL_append]
            refine hdone.append ?_
            rw [Nat.zero_add, List.length_take, ← h6.len, Nat.min_eq_left (by omega)]
            exact LIs.one hv⟩
        · have hdec : decide ((j : Int) < kas.length) = false := by simpa using hge
          have hjj : j = kas.length := by omega
          have hZ0 : Z = [] := List.eq_nil_of_length_eq_zero (by rw [hZ, hjj]; omega)
          subst hZ0
          rw [List.take_of_length_le (by rw [← h6.len]; omega)] at hdone
          have hp := purify_bs exAgg (n := 17) (s := ⟨.cells false [.int k, .int i, .str n, .sl (ints s) t1, .bs 2 0 kas.length 5 true] :: .cells false [.int k, .int i, .str n, .sl (ints s) t1, .bs 2 0 kas.length 5 true] :: .cells false (flat done) :: G, T⟩) (i := 2) (fz := false) hdone rfl (m := kas.length) (by omega)
          simp only [↓wpre, wset, wcore, ne_eq, if_true, if_false, exists_eq_left', true_implies, false_implies, exists_const, exists_eq_right, binA, intA, loadA, storeA, pickC, setAt, mapO, argsE, X.isC, resA, oneA, unA, boundA, eqiA, eqsA, fillA, fillE, ASt.fz, strA, Nat.reduceEqDiff, Nat.reduceLT, ↓reduceIte, reduceCtorEq, Nat.reduceAdd, Nat.reduceLeDiff, Int.reduceBEq, Int.reduceBNe, Int.reduceLT, Int.reduceLE, Int.reduceGT, Int.reduceGE, Nat.reduceDiv, Nat.reduceMul, e1, e2, e3, e6, e7, e28, e29, e30, hdec]
          exact ⟨_, pz_ex h1 hp, by
            simp only [Ex.mv]
            rw [if_neg (by simpa using hk)]
            exact Ex.Is.mk h1 rfl h3 h4 (by omega) hdone⟩
      · exact ⟨[], [], _, rfl, rfl, rfl, rfl, rfl, rfl, rfl, rfl, rfl, Nat.zero_le _, rfl, by simp [flat, cells_agg], trivial⟩
    · simp only [pf44, ↓wpre, wset, wcore, ne_eq, if_true, if_false, exists_eq_left', true_implies, false_implies, exists_const, exists_eq_right, binA, intA, loadA, storeA, pickC, setAt, mapO, argsE, X.isC, resA, oneA, unA, boundA, eqiA, eqsA, fillA, fillE, ASt.fz, strA, Nat.reduceEqDiff, Nat.reduceLT, ↓reduceIte, reduceCtorEq, Nat.reduceAdd, Nat.reduceLeDiff, Int.reduceBEq, Int.reduceBNe, Int.reduceLT, Int.reduceLE, Int.reduceGT, Int.reduceGE, Nat.reduceDiv, Nat.reduceMul, hk, hn]
      refine ⟨_, purify_pure (n := 19) (exPure _ h), ?_⟩
      have : kids = [] := List.eq_nil_of_length_eq_zero (by rw [← h6.len]; simpa using hn)
      subst this
      simp only [Ex.mv]
      rw [if_neg (by simpa using hk)]
      exact h
  · simp at hk; subst hk
    obtain ⟨v, hv, hc⟩ := (hg i d h3.1 hd0 hd1).call hf (by simp [pvs_cons, pv_v, hcaps])
    obtain ⟨c, rfl, hl, ho⟩ := exAgg.cells hv
    have hl' : c.take 5 = c := List.take_of_length_le (by omega)
    simp only [pf44, ↓wpre, wset, wcore, ne_eq, if_true, if_false, exists_eq_left', true_implies, false_implies, exists_const, exists_eq_right, binA, intA, loadA, storeA, pickC, setAt, mapO, argsE, X.isC, resA, oneA, unA, boundA, eqiA, eqsA, fillA, fillE, ASt.fz, strA, Nat.reduceEqDiff, Nat.reduceLT, ↓reduceIte, reduceCtorEq, Nat.reduceAdd, Nat.reduceLeDiff, Int.reduceBEq, Int.reduceBNe, Int.reduceLT, Int.reduceLE, Int.reduceGT, Int.reduceGE, Nat.reduceDiv, Nat.reduceMul, hc, hl, ho, hl', exPure _ hv]
    simp only [Ex.mv]
    exact hv
end Go.Proofs.Eng
