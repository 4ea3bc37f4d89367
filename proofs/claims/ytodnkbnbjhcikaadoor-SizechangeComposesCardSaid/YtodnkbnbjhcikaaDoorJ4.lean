/- Closes, Decides, Composes hold of all calls. No conditions beyond those in the theorems. -/
import Derived.Test.YtodnkbnbjhcikaaDoorJ3
import Derived.Test.YtodnkbnbjhcikaaDoorQA
set_option linter.all false
set_option linter.deprecated false
set_option linter.unnecessarySimpa false
set_option linter.unusedVariables false
set_option linter.unusedSimpArgs false
set_option linter.defProp false
namespace Go.Proofs.Eng
open Go Go.Proofs
set_option maxRecDepth 100000
set_option maxHeartbeats 16000000
theorem composes_law {a b : Cl} {x y : AV} (hx : ClIs a x) (hy : ClIs b y) : Out md pfs 5 [x, y] (· = .bool true) fun _ => False := by
  obtain ⟨_, rfl, aw⟩ := awake_ret.call rfl (by simp [pvs_nil])
  obtain ⟨_, ⟨b1, rfl, _⟩, cx⟩ := (short_ret (k := 20) hx (by omega)).call rfl (by simp [pvs_cons, pvs_nil, pv_v, hx.pure])
  obtain ⟨_, ⟨b2, rfl, _⟩, cy⟩ := (short_ret (k := 20) hy (by omega)).call rfl (by simp [pvs_cons, pvs_nil, pv_v, hy.pure])
  rw [show ((20 : Nat) : Int) = 20 from rfl] at cx cy
  obtain ⟨_, ⟨u, rfl, hu⟩, c21⟩ := (pcompose_ret hx hy).call rfl (by simp [pvs_cons, pvs_nil, hx.pure, hy.pure])
  obtain ⟨_, ⟨v, rfl, hv⟩, c22⟩ := (rcompose_ret hx hy).call rfl (by simp [pvs_cons, pvs_nil, hx.pure, hy.pure])
  obtain ⟨_, rfl, c19⟩ := (same_ret hu hv).call rfl (by simp [pvs_cons, pvs_nil, hu.pure, hv.pure])
  rw [decide_eq_true rfl] at c19
  generalize (compL a b).1 = z at *
  have e : ((compL a b).2 == (compL a b).2) = true := by simp
  obtain ⟨xl, xt, rfl, _⟩ := hx.of
  obtain ⟨yl, yt, rfl, _⟩ := hy.of
  obtain ⟨ul, ut, rfl, _⟩ := hu.of
  obtain ⟨vl, vt, rfl, _⟩ := hv.of
  refine out_of pf5_is (Nat.le_of_ble_eq_true rfl) ?_
  cases b1 with
  | false => simp only [pf5, ↓wpre, wset, wcore, wext, ne_eq, if_true, if_false, exists_eq_left', true_implies, false_implies, exists_const, exists_eq_right, binA, intA, loadA, storeA, pickC, setAt, mapO, argsE, X.isC, resA, oneA, unA, boundA, eqiA, eqsA, fillA, fillE, ASt.fz, strA, simprocAttr, List.length_append, List.append_assoc, app_get_len, app_get_add, app_set_len, app_set_add, cx, cy, aw]
  | true =>
    cases b2 with
    | false => simp only [pf5, ↓wpre, wset, wcore, wext, ne_eq, if_true, if_false, exists_eq_left', true_implies, false_implies, exists_const, exists_eq_right, binA, intA, loadA, storeA, pickC, setAt, mapO, argsE, X.isC, resA, oneA, unA, boundA, eqiA, eqsA, fillA, fillE, ASt.fz, strA, simprocAttr, List.length_append, List.append_assoc, app_get_len, app_get_add, app_set_len, app_set_add, cx, cy, aw]
    | true => simp only [pf5, ↓wpre, wset, wcore, wext, ne_eq, if_true, if_false, exists_eq_left', true_implies, false_implies, exists_const, exists_eq_right, binA, intA, loadA, storeA, pickC, setAt, mapO, argsE, X.isC, resA, oneA, unA, boundA, eqiA, eqsA, fillA, fillE, ASt.fz, strA, simprocAttr, List.length_append, List.append_assoc, app_get_len, app_get_add, app_set_len, app_set_add, cx, cy, c21, c22, aw, c19, e]
end Go.Proofs.Eng
