/- The choice of a value. No conditions beyond those in the theorems. -/
import Derived.Test.YtglembbmmnakaaaDoorF15
import Derived.Test.YtglembbmmnakaaaDoorG5
set_option linter.all false
set_option linter.deprecated false
set_option linter.unnecessarySimpa false
set_option linter.unusedVariables false
set_option linter.unusedSimpArgs false
set_option linter.defProp false
namespace Go.Proofs.Eng
open Go Go.Proofs
set_option maxRecDepth 100000
set_option maxHeartbeats 16000000
def flD (n d : Int) : Int := if n.tmod d < 0 then n.tdiv d - 1 else n.tdiv d
theorem flD_bnd {n d : Int} (hd : 0 < d) : -(n.natAbs : Int) - 1 ≤ flD n d ∧ flD n d ≤ n.natAbs := by
  have h := Int.natAbs_tdiv_le_natAbs n d
  unfold flD
  split <;> omega
theorem floor_ret {n d : Int} (hn : -9223372036854775806 ≤ n ∧ n ≤ 9223372036854775806) (hd : 0 < d) : Out md pfs 40 [.int n, .int d] (· = .int (flD n d)) fun _ => False := by
  have h := Int.natAbs_tdiv_le_natAbs n d
  have h2 := Int.natAbs_tmod n d
  have h3 := Nat.mod_le n.natAbs d.natAbs
  have z : (d = 0) = False := by simp; omega
  have x1 : IntKind.i64.wrap (n.tdiv d) = n.tdiv d := wrap_in (by unfold in64; omega)
  have x2 : IntKind.i64.wrap (n.tmod d) = n.tmod d := wrap_in (by unfold in64; omega)
  have x3 : IntKind.i64.wrap (n.tdiv d - 1) = n.tdiv d - 1 := wrap_in (by unfold in64; omega)
  refine out_of pf40_is (Nat.le_of_ble_eq_true rfl) ?_
  cases c : decide (n.tmod d < 0)
  · simp only [pf40, ↓wpre, wset, wcore, ne_eq, if_true, if_false, exists_eq_left', true_implies, false_implies, exists_const, exists_eq_right, binA, intA, loadA, storeA, pickC, setAt, mapO, argsE, X.isC, resA, oneA, unA, boundA, eqiA, eqsA, fillA, fillE, ASt.fz, strA, Nat.reduceEqDiff, Nat.reduceLT, ↓reduceIte, reduceCtorEq, Nat.reduceAdd, Nat.reduceLeDiff, Int.reduceBEq, Int.reduceBNe, Int.reduceLT, Int.reduceLE, Int.reduceGT, Int.reduceGE, Nat.reduceDiv, Nat.reduceMul, Nat.reduceBEq, Nat.reduceMod, Nat.reduceSub, z, x1, x2, c]
    rw [flD, if_neg (of_decide_eq_false c)]
  · simp only [pf40, ↓wpre, wset, wcore, ne_eq, if_true, if_false, exists_eq_left', true_implies, false_implies, exists_const, exists_eq_right, binA, intA, loadA, storeA, pickC, setAt, mapO, argsE, X.isC, resA, oneA, unA, boundA, eqiA, eqsA, fillA, fillE, ASt.fz, strA, Nat.reduceEqDiff, Nat.reduceLT, ↓reduceIte, reduceCtorEq, Nat.reduceAdd, Nat.reduceLeDiff, Int.reduceBEq, Int.reduceBNe, Int.reduceLT, Int.reduceLE, Int.reduceGT, Int.reduceGE, Nat.reduceDiv, Nat.reduceMul, Nat.reduceBEq, Nat.reduceMod, Nat.reduceSub, z, x1, x2, x3, c]
    rw [flD, if_pos (of_decide_eq_true c)]
/-- A row's sum but for one variable. -/
def sumTo (r pt : List Int) (k : Nat) : Nat → Int
  | 0 => r.getD pt.length 0
  | d + 1 => sumTo r pt k d + r.getD (k + 1 + d) 0 * pt.getD (k + 1 + d) 0
def sumR (r pt : List Int) (k : Nat) : Int := sumTo r pt k (pt.length - (k + 1))
def stepC (k : Nat) (pt : List Int) (b : Option Int × Option Int) (r : Rw) : Option Int × Option Int :=
  if r.A.getD k 0 > 0 then (b.1, if b.2.isNone || decide (flD (-sumR r.A pt k) (r.A.getD k 0) < b.2.getD 0) then some (flD (-sumR r.A pt k) (r.A.getD k 0)) else b.2)
  else if r.A.getD k 0 < 0 then (if b.1.isNone || decide (-flD (-sumR r.A pt k) (-r.A.getD k 0) > b.1.getD 0) then some (-flD (-sumR r.A pt k) (-r.A.getD k 0)) else b.1, b.2)
  else b
def endC (b : Option Int × Option Int) : Option Int :=
  if b.1.isSome && b.2.isSome && decide (b.1.getD 0 > b.2.getD 0) then none
  else if b.1.isSome && decide (b.1.getD 0 > 0) then some (b.1.getD 0)
  else if b.2.isSome && decide (b.2.getD 0 < 0) then some (b.2.getD 0) else some 0
/-- The value of a variable. -/
def chooseR (l : List Rw) (k : Nat) (pt : List Int) : Option Int := endC (l.foldl (stepC k pt) (none, none))
def limP : Int := 16777216
theorem prodB {x y : Int} (hx : -1073741824 ≤ x ∧ x ≤ 1073741824) (hy : -16777216 ≤ y ∧ y ≤ 16777216) : -18014398509481984 ≤ x * y ∧ x * y ≤ 18014398509481984 := by
  have h : (x * y).natAbs ≤ 1073741824 * 16777216 := by rw [Int.natAbs_mul]; exact Nat.mul_le_mul (by omega) (by omega)
  omega
theorem sumTo_bnd {r pt : List Int} {k : Nat} (hr : Bnd limB r) (hp : Bnd limP pt) : ∀ d, d ≤ 8 → -(1073741824 + d * 18014398509481984) ≤ sumTo r pt k d ∧ sumTo r pt k d ≤ 1073741824 + d * 18014398509481984
  | 0, _ => by
    rw [sumTo]
    rw [List.getD_eq_getElem?_getD]
    cases h : r[pt.length]? with
    | none => simp
    | some n => have := hr n (List.mem_of_getElem? h); unfold limB at this; simp; omega
  | d + 1, hd => by
    obtain ⟨h1, h2⟩ := sumTo_bnd hr hp d (by omega) (k := k)
    have hx : -1073741824 ≤ r.getD (k + 1 + d) 0 ∧ r.getD (k + 1 + d) 0 ≤ 1073741824 := by
      rw [List.getD_eq_getElem?_getD]
      cases h : r[k + 1 + d]? with
      | none => simp
      | some n => have := hr n (List.mem_of_getElem? h); unfold limB at this; simpa using this
    have hy : -16777216 ≤ pt.getD (k + 1 + d) 0 ∧ pt.getD (k + 1 + d) 0 ≤ 16777216 := by
      rw [List.getD_eq_getElem?_getD]
      cases h : pt[k + 1 + d]? with
      | none => simp
      | some n => have := hp n (List.mem_of_getElem? h); unfold limP at this; simpa using this
    rw [sumTo]
    have hm := prodB hx hy
    omega
end Go.Proofs.Eng
