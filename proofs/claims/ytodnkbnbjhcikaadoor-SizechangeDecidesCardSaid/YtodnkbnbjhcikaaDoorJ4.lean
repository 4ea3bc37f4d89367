/- Closes, Decides, Composes hold of all calls. No conditions beyond those in the theorems. -/
import Derived.Test.YtodnkbnbjhcikaaDoorJ3
import Derived.Test.YtodnkbnbjhcikaaDoorQA
set_option linter.all false
set_option linter.deprecated false
set_option linter.unnecessarySimpa false
set_option linter.unusedVariables false
set_option linter.unusedSimpArgs false
set_option linter.defProp false
namespace Go.Proofs.Eng
open Go Go.Proofs
set_option maxRecDepth 100000
set_option maxHeartbeats 16000000
theorem bool_eq (b : Bool) : (b == b) = true := by simp
theorem decides_law {l : List Cl} {al : List AV} {t : Tl} (h : LIs ClIs l al) (ht : t.pure = true) (hl : al.length ≤ lenB) : Out md pfs 4 [.sl al t] (· = .bool true) fun _ => False := by
  have hpa : pureAVs [AV.sl al t] = true := by simp [pvs_cons, pvs_nil, pv_sl, ht, clsPure h]
  have hla := h.len
  obtain ⟨_, rfl, aw⟩ := awake_ret.call rfl (by simp [pvs_nil])
  obtain ⟨_, ⟨b, rfl, hb⟩, c12⟩ := (few_ret (t := t) h hl).call rfl hpa
  refine out_of pf4_is (Nat.le_of_ble_eq_true rfl) ?_
  cases b with
  | false => simp only [pf4, ↓wpre, wset, wcore, wext, ne_eq, if_true, if_false, exists_eq_left', true_implies, false_implies, exists_const, exists_eq_right, binA, intA, loadA, storeA, pickC, setAt, mapO, argsE, X.isC, resA, oneA, unA, boundA, eqiA, eqsA, fillA, fillE, ASt.fz, strA, simprocAttr, c12, aw]
  | true =>
    obtain ⟨hl6, hsh⟩ := hb rfl
    obtain ⟨_, ⟨x, rfl, hx⟩, c17⟩ := (pterm_ret (t := t) h ht (by omega)).call rfl hpa
    obtain ⟨_, ⟨y, rfl, hy⟩, c18⟩ := (rterm_ret (t := t) h ht (by omega)).call rfl hpa
    obtain ⟨_, rfl, c19⟩ := (same_ret hx hy).call rfl (by simp [pvs_cons, pvs_nil, hx.pure, hy.pure])
    rw [decide_eq_true rfl] at c19
    obtain ⟨xl, xt, rfl, _⟩ := hx.of
    obtain ⟨yl, yt, rfl, _⟩ := hy.of
    generalize (termL l).2.1 = z at *
    have e : ((termL l).2.2 == (termL l).2.2) = true := by simp
    have e2 := bool_eq (termL l).1
    simp only [pf4, ↓wpre, wset, wcore, wext, ne_eq, if_true, if_false, exists_eq_left', true_implies, false_implies, exists_const, exists_eq_right, binA, intA, loadA, storeA, pickC, setAt, mapO, argsE, X.isC, resA, oneA, unA, boundA, eqiA, eqsA, fillA, fillE, ASt.fz, strA, simprocAttr, List.length_append, List.append_assoc, app_get_len, app_get_add, app_set_len, app_set_add, c12, c17, c18, aw, c19, e, e2]
end Go.Proofs.Eng
