/- The program's closure; compositions that are checked. No conditions beyond those in the theorems. -/
import Derived.Test.YtodnkbnbjhcikaaDoorJ1
set_option linter.all false
set_option linter.deprecated false
set_option linter.unnecessarySimpa false
set_option linter.unusedVariables false
set_option linter.unusedSimpArgs false
set_option linter.defProp false
namespace Go.Proofs.Eng
open Go Go.Proofs
set_option maxRecDepth 100000
set_option maxHeartbeats 16000000
/-! Compositions -/
def compL (a b : Cl) : Cl × Int := if checkR [a, b] = 0 then if a.t = b.f then (comp a b, 0) else (⟨0, 0, []⟩, 1) else (⟨0, 0, []⟩, checkR [a, b])
def ResC (r : Cl × Int) (v : AV) : Prop := ∃ x, v = .tup [x, .int r.2] ∧ ClIs r.1 x
theorem zeroIs : ClIs ⟨0, 0, []⟩ (.agg [.int 0, .int 0, .sl [] .nil]) := ⟨[], .nil, rfl, trivial, rfl, Nat.zero_le _, (by unfold in64; decide : in64 0), (by unfold in64; decide : in64 0)⟩
theorem pcompose_ret {a b : Cl} {x y : AV} (hx : ClIs a x) (hy : ClIs b y) : Out md pfs 21 [x, y] (ResC (compL a b)) fun _ => False := by
  have hL : LIs ClIs [a, b] [x, y] := ⟨hx, hy, trivial⟩
  have hchk := check_ret (t := .cap 2) hL rfl (by unfold lenB; simp)
  obtain ⟨_, rfl, c29⟩ := hchk.call rfl (by simp [pvs_cons, pvs_nil, pv_sl, Tl.pure, hx.pure, hy.pure])
  have hcomp : checkR [a, b] = 0 → a.t = b.f → ∃ cv, ClIs (comp a b) cv ∧ ∀ pm s K KP, CW (run md pfs) md pm s 37 [x, y] K KP () = K cv s := fun hck hab => by
    obtain ⟨ar, hg⟩ := check_good hck
    have ga := hg a (by simp)
    have gb := hg b (by simp)
    exact (composed_ret hx hy ga.wm (by rw [hab]; exact gb.wm) ga.r1.1 ga.c1.2 ga.r1.2 gb.r1.2).call rfl (by simp [pvs_cons, pvs_nil, hx.pure, hy.pure])
  obtain ⟨al, t, rfl, _⟩ := hx.of
  obtain ⟨bl, u, rfl, _⟩ := hy.of
  refine out_of pf21_is (Nat.le_of_ble_eq_true rfl) ?_
  by_cases hck : checkR [a, b] = 0
  case neg =>
    have d1 : (checkR [a, b] != 0) = true := ibne hck
    have hr : compL a b = (⟨0, 0, []⟩, checkR [a, b]) := if_neg hck
    simp only [pf21, ↓wpre, wset, wcore, wext, ne_eq, if_true, if_false, exists_eq_left', true_implies, false_implies, exists_const, exists_eq_right, binA, intA, loadA, storeA, pickC, setAt, mapO, argsE, X.isC, resA, oneA, unA, boundA, eqiA, eqsA, fillA, fillE, ASt.fz, strA, simprocAttr, c29, d1]
    exact ⟨_, by rw [hr], by rw [hr]; exact zeroIs⟩
  have d1 : (checkR [a, b] != 0) = false := ibne' hck
  by_cases hab : a.t = b.f
  case neg =>
    have d2 := ibne hab
    have hr : compL a b = (⟨0, 0, []⟩, 1) := by unfold compL; rw [if_pos hck, if_neg hab]
    simp only [pf21, ↓wpre, wset, wcore, wext, ne_eq, if_true, if_false, exists_eq_left', true_implies, false_implies, exists_const, exists_eq_right, binA, intA, loadA, storeA, pickC, setAt, mapO, argsE, X.isC, resA, oneA, unA, boundA, eqiA, eqsA, fillA, fillE, ASt.fz, strA, simprocAttr, c29, d1, d2]
    exact ⟨_, by rw [hr], by rw [hr]; exact zeroIs⟩
  have d2 := ibne' hab
  obtain ⟨cv, hcv, c37⟩ := hcomp hck hab
  have hr : compL a b = (comp a b, 0) := by unfold compL; rw [if_pos hck, if_pos hab]
  have hcp := hcv.pure
  have hcv' := hcv
  obtain ⟨cl, cu, rfl, _⟩ := hcv.of
  simp only [pf21, ↓wpre, wset, wcore, wext, ne_eq, if_true, if_false, exists_eq_left', true_implies, false_implies, exists_const, exists_eq_right, binA, intA, loadA, storeA, pickC, setAt, mapO, argsE, X.isC, resA, oneA, unA, boundA, eqiA, eqsA, fillA, fillE, ASt.fz, strA, simprocAttr, c29, d1, d2, c37]
  rw [purify_pure hcp]
  exact ⟨_, rfl, _, by rw [hr], by rw [hr]; exact hcv'⟩
end Go.Proofs.Eng
