/- L9: what functions of the program return. No conditions beyond those in the theorems. -/
import Derived.Test.YtfopdknkbnhlkaaP6
import Derived.Test.YtfopdknkbnhlkaaL7
set_option linter.all false
set_option linter.deprecated false
set_option linter.unnecessarySimpa false
set_option linter.unusedVariables false
set_option linter.unusedSimpArgs false
set_option linter.defProp false
namespace Go.Proofs.Eng
open Go Go.Proofs
set_option maxRecDepth 100000
set_option maxHeartbeats 4000000
theorem adds_law {n m : Int} (n0 : 0 ≤ n) (n1 : n < 256) (m0 : 0 ≤ m) (m1 : m < 256) : Out md pfs 9 [.v (.int .u8 n), .v (.int .u8 m)] (· = .bool true) fun _ => False := by
  obtain ⟨a, ha, ha2⟩ : ∃ a : Nat, n.tmod 20 = a ∧ a < 20 := ⟨(n % 20).toNat, by rw [Int.tmod_eq_emod_of_nonneg n0]; omega, by omega⟩
  obtain ⟨b, hb, hb2⟩ : ∃ b : Nat, m.tmod 20 = b ∧ b < 20 := ⟨(m % 20).toNat, by rw [Int.tmod_eq_emod_of_nonneg m0]; omega, by omega⟩
  have h20 : ((20 : Int) = 0) = False := by simp
  have w8 : ∀ k : Nat, k < 20 → IntKind.u8.wrap (k : Int) = k := by
    intro k hk
    have : ∀ k : Fin 20, IntKind.u8.wrap ((k.val : Nat) : Int) = k.val := by decide
    exact this ⟨k, hk⟩
  have w1 := w8 a ha2
  have w2 := w8 b hb2
  have w3 : IntKind.i64.wrap (a : Int) = a := wrap_small (by omega) (by omega)
  have w4 : IntKind.i64.wrap (b : Int) = b := wrap_small (by omega) (by omega)
  have w5 : IntKind.i64.wrap (4 * (a : Int)) = 4 * a := wrap_small (by omega) (by omega)
  have w6 : IntKind.i64.wrap (4 * (a : Int) + 4) = ((4 * a + 4 : Nat) : Int) := by rw [wrap_small (by omega) (by omega)]; omega
  have w7 : IntKind.i64.wrap (4 * (a : Int) + 3) = ((4 * a + 3 : Nat) : Int) := by rw [wrap_small (by omega) (by omega)]; omega
  have w9 : IntKind.i64.wrap ((a : Int) + b) = ((a + b : Nat) : Int) := by rw [wrap_small (by omega) (by omega)]; omega
  have hfew := adds_few ha2 hb2
  have hev := adds_eval ha2 hb2
  obtain ⟨_, rfl, c4⟩ := awake_ret.call rfl (by simp [pvs_nil])
  obtain ⟨pa, hp, k0⟩ := (plus_ret (n := a) (m := b) (by omega) (by omega)).call rfl (by simp [pvs_cons, pvs_nil, pv_v])
  obtain ⟨ca, h1, a1, a2, a3, k1⟩ := eval_look hp hfew.1 hev.1
  obtain ⟨cb, h2, b1, b2, b3, k2⟩ := eval_look hp hfew.1 hev.2
  obtain ⟨vn, hn, k3⟩ := (num_ret (n := a + b) (by omega)).call rfl (by simp [pvs_cons, pvs_nil, pv_v])
  obtain ⟨_, rfl, k4⟩ := (same_ret _ h1 hn).call rfl (by simp [pvs_cons, pvs_nil, exPure _ h1, exPure _ hn])
  refine out_of pf9_is (Nat.le_of_ble_eq_true rfl) ?_
  simp only [pf9, ↓wpre, wset, wcore, ne_eq, if_true, if_false, exists_eq_left', true_implies, false_implies, exists_const, exists_eq_right, binA, intA, loadA, storeA, pickC, setAt, mapO, argsE, X.isC, resA, oneA, unA, boundA, eqiA, eqsA, fillA, fillE, ASt.fz, strA, Nat.reduceEqDiff, Nat.reduceLT, ↓reduceIte, reduceCtorEq, Nat.reduceAdd, Nat.reduceLeDiff, Int.reduceBEq, Int.reduceBNe, Int.reduceLT, Int.reduceLE, Int.reduceGT, Int.reduceGE, Nat.reduceDiv, Nat.reduceMul, ha, hb, h20, w1, w2, w3, w4, w5, w6, w7, w9, k0, k1, k2, k3, k4, c4, a1, a2, a3, b1, b2, b3]
end Go.Proofs.Eng
