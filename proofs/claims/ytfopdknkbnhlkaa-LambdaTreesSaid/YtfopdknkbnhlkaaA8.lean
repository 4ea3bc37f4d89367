/- A8: what functions of the program return. No conditions beyond those in the theorems. -/
import Derived.Test.YtfopdknkbnhlkaaA7
set_option linter.all false
set_option linter.deprecated false
set_option linter.unnecessarySimpa false
set_option linter.unusedVariables false
set_option linter.unusedSimpArgs false
set_option linter.defProp false
namespace Go.Proofs.Eng
open Go Go.Proofs
set_option maxRecDepth 100000
def kn (k : Int) : Int := if k = 1 ∨ k = 9 ∨ k = 10 then 1 else if k = 2 ∨ k = 7 ∨ k = 8 then 2 else 0
def tabB (k i : Int) (s : List Int) (l : Nat) : Bool := if k = 3 then ctorB i s l else if k = 4 then caseB s l else kidsB (kn k) s l
def fmB (k i : Int) (n : ByteArray) (s : List Int) (l : Nat) : Bool := decide (0 ≤ k) && decide (k < 12) && decide (0 ≤ i) && (n.size == 0 || namedB k) && (i == 0 || k == 0 || k == 3) && tabB k i s l
def Ex.fm : Ex → Bool
  | .mk k i n s kids => fmB k i n s kids.length
def tabFn (k : Int) : AV := if k = 3 then .fn 65 [] else if k = 4 then .fn 66 [] else kf (kn k)
theorem tab_at {k : Int} (h0 : 0 ≤ k) (h1 : k < 12) : ∃ rest, tabL.drop k.toNat = tabFn k :: rest := by
  have : k = 0 ∨ k = 1 ∨ k = 2 ∨ k = 3 ∨ k = 4 ∨ k = 5 ∨ k = 6 ∨ k = 7 ∨ k = 8 ∨ k = 9 ∨ k = 10 ∨ k = 11 := by omega
  rcases this with rfl | rfl | rfl | rfl | rfl | rfl | rfl | rfl | rfl | rfl | rfl | rfl <;> exact ⟨_, rfl⟩
theorem formed_ret {e : Ex} {a : AV} (h : e.Is a) : Out md pfs 60 [.agg tabL, a] (· = .bool e.fm) fun _ => False := by
  obtain ⟨k, i, n, s, kids⟩ := e
  obtain ⟨t1, t2, kas, rfl, h1, h2, h3, h4, h5, h6⟩ := h.opn
  refine out_of pf60_is (Nat.le_of_ble_eq_true rfl) ?_
  have hlen := h6.len
  have hp := exPure _ h
  have ez : fmB k i n s kids.length = (Ex.mk k i n s kids).fm := rfl
  obtain ⟨v, rfl, cn⟩ := (named_ret k).call rfl (by simp [pvs_cons, pvs_nil, pv_v])
  cases hk0 : decide (k < 0)
  · cases hk1 : decide (k ≥ 12)
    · have hk0' : 0 ≤ k := by simpa using hk0
      have hk1' : k < 12 := by simpa using hk1
      cases hi : decide (i < 0)
      · have hi' : 0 ≤ i := by simpa using hi
        obtain ⟨rest, hT⟩ := tab_at hk0' hk1'
        have hcall : ∃ f caps, tabFn k = .fn f caps ∧ ∀ pm s0 K KP, CW (run md pfs) md pm s0 f (.agg [.int k, .int i, .str n, .sl (ints s) t1, .sl kas t2] :: caps) K KP () = K (.bool (tabB k i s kas.length)) s0 := by
          by_cases k3 : k = 3
          · obtain ⟨v, rfl, hc⟩ := (ctorFn_ret (k := k) (i := i) (n := n) (s := s) (t1 := t1) (t2 := t2) (kas := kas)).call rfl (by simp [pvs_cons, pvs_nil, hp])
            exact ⟨65, [], by simp [tabFn, k3], by simpa [tabB, k3] using hc⟩
          · by_cases k4 : k = 4
            · obtain ⟨v, rfl, hc⟩ := (caseFn_ret (k := k) (i := i) (n := n) (s := s) (t1 := t1) (t2 := t2) (kas := kas) h1 h4).call rfl (by simp [pvs_cons, pvs_nil, hp])
              exact ⟨66, [], by simp [tabFn, k4], by simpa [tabB, k4] using hc⟩
            · obtain ⟨v, rfl, hc⟩ := (kidsFn_ret (k := k) (i := i) (n := n) (s := s) (t1 := t1) (t2 := t2) (kas := kas) (kn k)).call rfl (by simp [pvs_cons, pvs_nil, pv_v, pv_ip, hp])
              exact ⟨64, [.ip [.int (kn k)] 0], by simp [tabFn, k3, k4, kf], by simpa [tabB, k3, k4] using hc⟩
        obtain ⟨f, caps, hfn, hc⟩ := hcall
        rw [hfn] at hT
        have hres : fmB k i n s kids.length = ((n.size == 0 || namedB k) && (i == 0 || k == 0 || k == 3) && tabB k i s kids.length) := by
          simp only [fmB]
          rw [decide_eq_true hk0', decide_eq_true hk1', decide_eq_true hi']
          simp
        rw [← hlen] at ez hres
        cases hn0 : (n.size == 0) <;> cases hn2 : namedB k
        · simp only [pf60, ↓wpre, wset, wcore, ne_eq, if_true, if_false, exists_eq_left', true_implies, false_implies, exists_const, exists_eq_right, binA, intA, loadA, storeA, pickC, setAt, mapO, argsE, X.isC, resA, oneA, unA, boundA, eqiA, eqsA, fillA, fillE, ASt.fz, strA, Nat.reduceEqDiff, Nat.reduceLT, ↓reduceIte, reduceCtorEq, Nat.reduceAdd, Nat.reduceLeDiff, Int.reduceBEq, Int.reduceBNe, Int.reduceLT, Int.reduceLE, Int.reduceGT, Int.reduceGE, Nat.reduceDiv, Nat.reduceMul, hk0, hk1, hi, hn0, cn, hn2]
          rw [← ez, hres, hn0, hn2]; rfl
        all_goals
          cases x1 : (i == 0) <;> cases x2 : (k == 0) <;> cases x3 : (k == 3)
          all_goals
            simp only [pf60, ↓wpre, wset, wcore, ne_eq, if_true, if_false, exists_eq_left', true_implies, false_implies, exists_const, exists_eq_right, binA, intA, loadA, storeA, pickC, setAt, mapO, argsE, X.isC, resA, oneA, unA, boundA, eqiA, eqsA, fillA, fillE, ASt.fz, strA, Nat.reduceEqDiff, Nat.reduceLT, ↓reduceIte, reduceCtorEq, Nat.reduceAdd, Nat.reduceLeDiff, Int.reduceBEq, Int.reduceBNe, Int.reduceLT, Int.reduceLE, Int.reduceGT, Int.reduceGE, Nat.reduceDiv, Nat.reduceMul, hk0, hk1, hi, hn0, hn2, cn, x1, x2, x3, hk0', hk1', Nat.mul_one, hT, hc]
            rw [← ez, hres, hn0, hn2, x1, x2, x3]
            simp
            try omega
      · simp only [pf60, ↓wpre, wset, wcore, ne_eq, if_true, if_false, exists_eq_left', true_implies, false_implies, exists_const, exists_eq_right, binA, intA, loadA, storeA, pickC, setAt, mapO, argsE, X.isC, resA, oneA, unA, boundA, eqiA, eqsA, fillA, fillE, ASt.fz, strA, Nat.reduceEqDiff, Nat.reduceLT, ↓reduceIte, reduceCtorEq, Nat.reduceAdd, Nat.reduceLeDiff, Int.reduceBEq, Int.reduceBNe, Int.reduceLT, Int.reduceLE, Int.reduceGT, Int.reduceGE, Nat.reduceDiv, Nat.reduceMul, hk0, hk1, hi]
        simp at hi
        rw [← ez]; simp [fmB, show ¬ 0 ≤ i by omega]
    · simp only [pf60, ↓wpre, wset, wcore, ne_eq, if_true, if_false, exists_eq_left', true_implies, false_implies, exists_const, exists_eq_right, binA, intA, loadA, storeA, pickC, setAt, mapO, argsE, X.isC, resA, oneA, unA, boundA, eqiA, eqsA, fillA, fillE, ASt.fz, strA, Nat.reduceEqDiff, Nat.reduceLT, ↓reduceIte, reduceCtorEq, Nat.reduceAdd, Nat.reduceLeDiff, Int.reduceBEq, Int.reduceBNe, Int.reduceLT, Int.reduceLE, Int.reduceGT, Int.reduceGE, Nat.reduceDiv, Nat.reduceMul, hk0, hk1]
      simp at hk1
      rw [← ez]; simp [fmB, show ¬ k < 12 by omega]
  · simp only [pf60, ↓wpre, wset, wcore, ne_eq, if_true, if_false, exists_eq_left', true_implies, false_implies, exists_const, exists_eq_right, binA, intA, loadA, storeA, pickC, setAt, mapO, argsE, X.isC, resA, oneA, unA, boundA, eqiA, eqsA, fillA, fillE, ASt.fz, strA, Nat.reduceEqDiff, Nat.reduceLT, ↓reduceIte, reduceCtorEq, Nat.reduceAdd, Nat.reduceLeDiff, Int.reduceBEq, Int.reduceBNe, Int.reduceLT, Int.reduceLE, Int.reduceGT, Int.reduceGE, Nat.reduceDiv, Nat.reduceMul, hk0]
    simp at hk0
    rw [← ez]; simp [fmB, show ¬ 0 ≤ k by omega]
theorem shape_ret {k i : Int} {n : ByteArray} {s : List Int} {t1 t2 : Tl} {kas : List AV} (hs : s.length ≤ lenB) : Out md pfs 83 [.agg [.int k, .int i, .str n, .sl (ints s) t1, .sl kas t2]] (fun v => ∃ lo hi ok, v = .tup [.int lo, .int hi, .bool ok] ∧ ok = (decide (0 ≤ k) && decide (k < 12)) ∧ (ok = true → (k = 3 ∧ lo = 0 ∧ hi = 4096) ∨ (k = 4 ∧ lo = w64 (s.length + 1) ∧ hi = w64 (s.length + 1)) ∨ (k ≠ 3 ∧ k ≠ 4 ∧ lo = kn k ∧ hi = kn k))) fun _ => False := by
  refine out_of pf83_is (Nat.le_of_ble_eq_true rfl) ?_
  have hw : IntKind.i64.wrap (((ints s).length : Int) + 1) = w64 (s.length + 1) := by rw [ints_len]
  by_cases hk : 0 ≤ k ∧ k < 12
  · have : k = 0 ∨ k = 1 ∨ k = 2 ∨ k = 3 ∨ k = 4 ∨ k = 5 ∨ k = 6 ∨ k = 7 ∨ k = 8 ∨ k = 9 ∨ k = 10 ∨ k = 11 := by omega
    rcases this with rfl | rfl | rfl | rfl | rfl | rfl | rfl | rfl | rfl | rfl | rfl | rfl
    all_goals
      simp only [pf83, ↓wpre, wset, wcore, ne_eq, if_true, if_false, exists_eq_left', true_implies, false_implies, exists_const, exists_eq_right, binA, intA, loadA, storeA, pickC, setAt, mapO, argsE, X.isC, resA, oneA, unA, boundA, eqiA, eqsA, fillA, fillE, ASt.fz, strA, Nat.reduceEqDiff, Nat.reduceLT, ↓reduceIte, reduceCtorEq, Nat.reduceAdd, Nat.reduceLeDiff, Int.reduceBEq, Int.reduceBNe, Int.reduceLT, Int.reduceLE, Int.reduceGT, Int.reduceGE, Nat.reduceDiv, Nat.reduceMul, hw]
      refine ⟨_, _, _, rfl, by decide, fun _ => ?_⟩
      simp [kn]
  · have h0 : (k == 0) = false := by simp; omega
    have h1 : (k == 1) = false := by simp; omega
    have h2 : (k == 2) = false := by simp; omega
    have h3 : (k == 3) = false := by simp; omega
    have h4 : (k == 4) = false := by simp; omega
    have h5 : (k == 5) = false := by simp; omega
    have h6 : (k == 6) = false := by simp; omega
    have h7 : (k == 7) = false := by simp; omega
    have h8 : (k == 8) = false := by simp; omega
    have h9 : (k == 9) = false := by simp; omega
    have h10 : (k == 10) = false := by simp; omega
    have h11 : (k == 11) = false := by simp; omega
    simp only [pf83, ↓wpre, wset, wcore, ne_eq, if_true, if_false, exists_eq_left', true_implies, false_implies, exists_const, exists_eq_right, binA, intA, loadA, storeA, pickC, setAt, mapO, argsE, X.isC, resA, oneA, unA, boundA, eqiA, eqsA, fillA, fillE, ASt.fz, strA, Nat.reduceEqDiff, Nat.reduceLT, ↓reduceIte, reduceCtorEq, Nat.reduceAdd, Nat.reduceLeDiff, Int.reduceBEq, Int.reduceBNe, Int.reduceLT, Int.reduceLE, Int.reduceGT, Int.reduceGE, Nat.reduceDiv, Nat.reduceMul, h0, h1, h2, h3, h4, h5, h6, h7, h8, h9, h10, h11]
    refine ⟨_, _, _, rfl, ?_, fun h => by cases h⟩
    symm; simp; omega
theorem fm_ref {k i : Int} {n : ByteArray} {s : List Int} {l : Nat} {lo hi : Int} (hok : true = (decide (0 ≤ k) && decide (k < 12))) (hlh : (k = 3 ∧ lo = 0 ∧ hi = 4096) ∨ (k = 4 ∧ lo = w64 (s.length + 1) ∧ hi = w64 (s.length + 1)) ∨ (k ≠ 3 ∧ k ≠ 4 ∧ lo = kn k ∧ hi = kn k)) :
    fmB k i n s l = (!decide ((l : Int) < lo) && !decide ((l : Int) > hi) && !decide ((s.length : Int) > 32) && !s.any badSize && (n.size == 0 || (k == 3 || k == 5)) && !(k != 4 && decide ((s.length : Int) > 0)) && !decide (i < 0) && (if k = 3 then decide (i < 32) else (k == 0 || i == 0))) := by
  simp only [fmB, ← hok, Bool.true_and]
  have hany : s.length = 0 → s.any badSize = false := fun h => by rw [List.eq_nil_of_length_eq_zero h]; rfl
  have h2 : ∀ b, (n.size == 0 || namedB k) = b ↔ (n.size == 0 || (k == 3 || k == 5)) = b := fun b => Iff.rfl
  generalize hN : (n.size == 0 || namedB k) = N
  rw [(h2 N).1 hN]
  generalize hP : s.any badSize = P at hany ⊢
  have hk : 0 ≤ k ∧ k < 12 := by simpa using hok.symm
  have hkn : kn k = (if k = 1 ∨ k = 9 ∨ k = 10 then 1 else if k = 2 ∨ k = 7 ∨ k = 8 then 2 else 0) := rfl
  rcases hlh with ⟨h3, rfl, rfl⟩ | ⟨h4, rfl, rfl⟩ | ⟨h3, h4, rfl, rfl⟩
  · subst h3
    rw [Bool.eq_iff_iff]
    cases P <;> cases N <;> simp [tabB, ctorB, -List.length_eq_zero_iff] <;> try omega
    have h0 : ¬ s.length = 0 := fun h => by have := hany h; cases this
    intros; omega
  · subst h4
    have hw : s.length ≤ 32 → w64 ((s.length : Int) + 1) = s.length + 1 := fun h => by rw [show w64 ((s.length : Int) + 1) = ((s.length + 1 : Nat) : Int) from next_ix (by unfold lenB; omega)]; simp
    generalize w64 ((s.length : Int) + 1) = W at *
    rw [Bool.eq_iff_iff]
    cases P <;> cases N <;> simp [tabB, caseB, hP, -List.length_eq_zero_iff] <;> omega
  · rw [Bool.eq_iff_iff]
    have h4' : (k != 4) = true := by simpa using h4
    rw [h4', if_neg h3]
    simp only [tabB, kidsB, if_neg h3, if_neg h4]
    clear hkn
    generalize kn k = q
    cases P <;> cases N <;> simp [-List.length_eq_zero_iff]
    · omega
    · have h0 : ¬ s.length = 0 := fun h => by have := hany h; cases this
      intros; omega
end Go.Proofs.Eng
