/- Rows of numbers, and the greatest common divisor. No conditions beyond those in the theorems. -/
import Derived.Test.YtglembbmmnakaaaDoorPf41
set_option linter.all false
set_option linter.deprecated false
set_option linter.unnecessarySimpa false
set_option linter.unusedVariables false
set_option linter.unusedSimpArgs false
set_option linter.defProp false
namespace Go.Proofs.Eng
open Go Go.Proofs
set_option maxRecDepth 100000
set_option maxHeartbeats 4000000
/-- All numbers are at most so great. -/
def Bnd (m : Int) (l : List Int) : Prop := ∀ n ∈ l, -m ≤ n ∧ n ≤ m
def RowIs (r : List Int) (a : AV) : Prop := ∃ t, a = .sl (ints r) t ∧ t.pure = true ∧ r.length ≤ lenB ∧ ∀ n ∈ r, in64 n
theorem RowIs.of {r : List Int} {a : AV} (h : RowIs r a) : ∃ t, a = .sl (ints r) t ∧ t.pure = true ∧ r.length ≤ lenB ∧ ∀ n ∈ r, in64 n := h
theorem RowIs.mk {r : List Int} {t : Tl} (h2 : t.pure = true) (h3 : r.length ≤ lenB) (h4 : ∀ n ∈ r, in64 n) : RowIs r (.sl (ints r) t) := ⟨t, rfl, h2, h3, h4⟩
theorem rowPure {r : List Int} {a : AV} (h : RowIs r a) : pureAV a = true := by obtain ⟨t, rfl, h2, _⟩ := h.of; simp [pv_sl, h2, ints_pure]
theorem rowsPure {l : List (List Int)} {al : List AV} (h : LIs RowIs l al) : pureAVs al = true := h.pure fun _ _ h => rowPure h
theorem rows_all : ∀ {l : List (List Int)} {al : List AV}, LIs RowIs l al → (al.all fun x => x.cells.length == 1) = true
  | [], [], _ => rfl
  | [], _ :: _, h => by simp [LIs] at h
  | _ :: _, [], h => by simp [LIs] at h
  | x :: l, a :: al, h => by
    simp only [LIs] at h
    obtain ⟨t, rfl, _⟩ := h.1.of
    rw [List.all_cons, rows_all h.2]; rfl
theorem row_get {l : List (List Int)} {al : List AV} {i : Nat} (h : LIs RowIs l al) (hi : i < al.length) : ∃ x t, l[i]? = some x ∧ x ∈ l ∧ al[i]? = some (.sl (ints x) t) ∧ t.pure = true ∧ x.length ≤ lenB ∧ ∀ n ∈ x, in64 n := by
  obtain ⟨x, a, h1, _, h3, h4, h5⟩ := LIs.at h hi
  obtain ⟨t, rfl, h6, h7, h8⟩ := h5.of
  exact ⟨x, t, h1, h3, h4, h6, h7, h8⟩
/-- The greatest common divisor of numbers. -/
def gcdF (g : Nat) : List Int → Nat
  | [] => g
  | n :: l => gcdF (Nat.gcd g n.natAbs) l
def gcdL (l : List Int) : Nat := gcdF 0 l
theorem gcdF_take {l : List Int} {j : Nat} {n : Int} (h : l[j]? = some n) (g : Nat) : gcdF g (l.take (j + 1)) = Nat.gcd (gcdF g (l.take j)) n.natAbs := by
  induction l generalizing j g with
  | nil => simp at h
  | cons x l ih =>
    cases j with
    | zero => simp at h; subst h; simp [gcdF]
    | succ j => rw [List.take_succ_cons, gcdF, ih (by simpa using h), List.take_succ_cons, gcdF]
theorem gcd_max {n : Int} (h : -9223372036854775807 ≤ n ∧ n ≤ 9223372036854775807) : (if IntKind.i64.wrap (0 - n) > n then IntKind.i64.wrap (0 - n) else n) = (n.natAbs : Int) := by
  rw [wrap_in (by unfold in64; omega)]
  split <;> omega
theorem gcd_ret {l : List Int} {t : Tl} (hl : l.length ≤ lenB) (hb : Bnd 9223372036854775807 l) : Out md pfs 29 [.sl (ints l) t] (· = .int (gcdL l : Nat)) fun _ => False := by
  refine out_of pf29_is (Nat.le_of_ble_eq_true rfl) ?_
  simp only [pf29, ↓wpre, wset, wcore, ne_eq, if_true, if_false, exists_eq_left', true_implies, false_implies, exists_const, exists_eq_right, binA, intA, loadA, storeA, pickC, setAt, mapO, argsE, X.isC, resA, oneA, unA, boundA, eqiA, eqsA, fillA, fillE, ASt.fz, strA, Nat.reduceEqDiff, Nat.reduceLT, ↓reduceIte, reduceCtorEq, Nat.reduceAdd, Nat.reduceLeDiff, Int.reduceBEq, Int.reduceBNe, Int.reduceLT, Int.reduceLE, Int.reduceGT, Int.reduceGE, Nat.reduceDiv, Nat.reduceMul, Nat.reduceBEq, Nat.reduceMod, Nat.reduceSub, ints_len]
  refine W_loopE (fun j => l.length - j) (fun j E H T => E 0 = .sl (ints l) t ∧ E 3 = .int (gcdF 0 (l.take j) : Nat) ∧ E 6 = .sl (ints l) t ∧ E 7 = .int l.length ∧ E 8 = .int (j : Nat) ∧ j ≤ l.length) ?_ 0 ⟨rfl, rfl, rfl, rfl, rfl, Nat.zero_le _⟩
  rintro j E H T ⟨e0, e3, e6, e7, e8, hj⟩
  rcases Nat.lt_or_ge j l.length with hlt | hge
  · have hdec : decide ((j : Int) < l.length) = true := by simpa using hlt
    obtain ⟨n, g1, g2, g3⟩ := ints_get hlt
    have hn := hb n (List.mem_of_getElem? g1)
    have hall := ints_all l
    have hlen := ints_len l
    have hmx := gcd_max hn
    simp only [↓wpre, wset, wcore, ne_eq, if_true, if_false, exists_eq_left', true_implies, false_implies, exists_const, exists_eq_right, binA, intA, loadA, storeA, pickC, setAt, mapO, argsE, X.isC, resA, oneA, unA, boundA, eqiA, eqsA, fillA, fillE, ASt.fz, strA, Nat.reduceEqDiff, Nat.reduceLT, ↓reduceIte, reduceCtorEq, Nat.reduceAdd, Nat.reduceLeDiff, Int.reduceBEq, Int.reduceBNe, Int.reduceLT, Int.reduceLE, Int.reduceGT, Int.reduceGE, Nat.reduceDiv, Nat.reduceMul, Nat.reduceBEq, Nat.reduceMod, Nat.reduceSub, e0, e3, e6, e7, e8, hdec, g3, hall, hmx]
    refine W_loopE (fun p => p.2) (fun (p : Nat × Nat) E H T => E 0 = .sl (ints l) t ∧ E 3 = .int (p.1 : Nat) ∧ E 5 = .int (p.2 : Nat) ∧ E 6 = .sl (ints l) t ∧ E 7 = .int l.length ∧ E 8 = .int (j : Nat) ∧ Nat.gcd p.1 p.2 = gcdF 0 (l.take (j + 1))) ?_ (gcdF 0 (l.take j), n.natAbs) ⟨e0, e3, rfl, e6, e7, e8, (gcdF_take g1 0).symm⟩
    clear e0 e3 e6 e7 e8
    rintro ⟨g, m⟩ E H T ⟨e0, e3, e5, e6, e7, e8, hg⟩
    simp only at e3 e5 hg
    by_cases hm : m = 0
    · subst hm
      have h0 : (((0 : Nat) : Int) != 0) = false := rfl
      simp only [↓wpre, wset, wcore, ne_eq, if_true, if_false, exists_eq_left', true_implies, false_implies, exists_const, exists_eq_right, binA, intA, loadA, storeA, pickC, setAt, mapO, argsE, X.isC, resA, oneA, unA, boundA, eqiA, eqsA, fillA, fillE, ASt.fz, strA, Nat.reduceEqDiff, Nat.reduceLT, ↓reduceIte, reduceCtorEq, Nat.reduceAdd, Nat.reduceLeDiff, Int.reduceBEq, Int.reduceBNe, Int.reduceLT, Int.reduceLE, Int.reduceGT, Int.reduceGE, Nat.reduceDiv, Nat.reduceMul, Nat.reduceBEq, Nat.reduceMod, Nat.reduceSub, e0, e3, e5, e6, e7, e8, h0]
      rw [Nat.gcd_zero_right] at hg
      exact EQ_in ⟨j + 1, by omega, e0, by rw [← hg]; exact e3, e6, e7, next_ixv (by omega), by omega⟩
    · have h0 : ((m : Int) != 0) = true := by simp [hm]
      have h1 : ((m : Int) = 0) = False := by simp [hm]
      have h2 : Int.tmod (g : Int) (m : Int) = ((g % m : Nat) : Int) := rfl
      simp only [↓wpre, wset, wcore, ne_eq, if_true, if_false, exists_eq_left', true_implies, false_implies, exists_const, exists_eq_right, binA, intA, loadA, storeA, pickC, setAt, mapO, argsE, X.isC, resA, oneA, unA, boundA, eqiA, eqsA, fillA, fillE, ASt.fz, strA, Nat.reduceEqDiff, Nat.reduceLT, ↓reduceIte, reduceCtorEq, Nat.reduceAdd, Nat.reduceLeDiff, Int.reduceBEq, Int.reduceBNe, Int.reduceLT, Int.reduceLE, Int.reduceGT, Int.reduceGE, Nat.reduceDiv, Nat.reduceMul, Nat.reduceBEq, Nat.reduceMod, Nat.reduceSub, e0, e3, e5, e6, e7, e8, h0, h1, h2]
      exact EQ_in ⟨(m, g % m), Nat.mod_lt _ (by omega), e0, rfl, rfl, e6, e7, e8, by rw [← hg, Nat.gcd_comm m, ← Nat.gcd_rec, Nat.gcd_comm]⟩
  · have hdec : decide ((j : Int) < l.length) = false := by simpa using hge
    simp only [↓wpre, wset, wcore, ne_eq, if_true, if_false, exists_eq_left', true_implies, false_implies, exists_const, exists_eq_right, binA, intA, loadA, storeA, pickC, setAt, mapO, argsE, X.isC, resA, oneA, unA, boundA, eqiA, eqsA, fillA, fillE, ASt.fz, strA, Nat.reduceEqDiff, Nat.reduceLT, ↓reduceIte, reduceCtorEq, Nat.reduceAdd, Nat.reduceLeDiff, Int.reduceBEq, Int.reduceBNe, Int.reduceLT, Int.reduceLE, Int.reduceGT, Int.reduceGE, Nat.reduceDiv, Nat.reduceMul, Nat.reduceBEq, Nat.reduceMod, Nat.reduceSub, e0, e3, e6, e7, e8, hdec]
    rw [List.take_of_length_le (by omega)]; rfl
end Go.Proofs.Eng
