/- Closes, Decides, Composes hold of all calls. No conditions beyond those in the theorems. -/
import Derived.Test.YtodnkbnbjhcikaaDoorJ3
import Derived.Test.YtodnkbnbjhcikaaDoorQA
set_option linter.all false
set_option linter.deprecated false
set_option linter.unnecessarySimpa false
set_option linter.unusedVariables false
set_option linter.unusedSimpArgs false
set_option linter.defProp false
namespace Go.Proofs.Eng
open Go Go.Proofs
set_option maxRecDepth 100000
set_option maxHeartbeats 16000000
theorem closes_law {l : List Cl} {al : List AV} {t : Tl} (h : LIs ClIs l al) (ht : t.pure = true) (hl : al.length ≤ lenB) : Out md pfs 3 [.sl al t] (· = .bool true) fun _ => False := by
  have hpa : pureAVs [AV.sl al t] = true := by simp [pvs_cons, pvs_nil, pv_sl, ht, clsPure h]
  have hla := h.len
  obtain ⟨_, rfl, aw⟩ := awake_ret.call rfl (by simp [pvs_nil])
  obtain ⟨_, ⟨b, rfl, hb⟩, c12⟩ := (few_ret (t := t) h hl).call rfl hpa
  refine out_of pf3_is (Nat.le_of_ble_eq_true rfl) ?_
  cases b with
  | false => simp only [pf3, ↓wpre, wset, wcore, wext, ne_eq, if_true, if_false, exists_eq_left', true_implies, false_implies, exists_const, exists_eq_right, binA, intA, loadA, storeA, pickC, setAt, mapO, argsE, X.isC, resA, oneA, unA, boundA, eqiA, eqsA, fillA, fillE, ASt.fz, strA, simprocAttr, c12, aw]
  | true =>
    obtain ⟨hl6, hsh⟩ := hb rfl
    obtain ⟨_, ⟨la, tl, rfl, hL, htl⟩, c14⟩ := (closure_ret (t := t) h ht (by omega)).call rfl hpa
    obtain ⟨_, ⟨lb, tk, rfl, hK, htk⟩, c15⟩ := (rclosure_ret (t := t) h ht (by omega)).call rfl hpa
    have hlen := closL_len (l := l)
    obtain ⟨_, rfl, c16⟩ := (sameCalls_ret (t := tl) (u := tk) hL hK (by rw [hL.len]; unfold lenB; omega)).call rfl (by simp [pvs_cons, pvs_nil, pv_sl, htl, htk, clsPure hL, clsPure hK])
    rw [decide_eq_true rfl] at c16
    have e : ((closL l).2 == (closL l).2) = true := by simp
    simp only [pf3, ↓wpre, wset, wcore, wext, ne_eq, if_true, if_false, exists_eq_left', true_implies, false_implies, exists_const, exists_eq_right, binA, intA, loadA, storeA, pickC, setAt, mapO, argsE, X.isC, resA, oneA, unA, boundA, eqiA, eqsA, fillA, fillE, ASt.fz, strA, simprocAttr, c12, c14, c15, aw, c16, e]
end Go.Proofs.Eng
