/- Refute: the program's and the reference's. No conditions beyond those in the theorems. -/
import Derived.Test.YtglembbmmnakaaaDoorF18
import Derived.Test.YtglembbmmnakaaaDoorT1
set_option linter.all false
set_option linter.deprecated false
set_option linter.unnecessarySimpa false
set_option linter.unusedVariables false
set_option linter.unusedSimpArgs false
set_option linter.defProp false
namespace Go.Proofs.Eng
open Go Go.Proofs
set_option maxRecDepth 100000
set_option maxHeartbeats 16000000
theorem callA_of {f : FuncId} {args : List AV} {v : AV} (h : Out md pfs f args (· = v) fun _ => False) (hm : md f = .pure) (ha : pureAVs args = true) (s : ASt) : callA (run md pfs) md false s f args = some (.ret v, s) := by
  obtain ⟨out, s', out', h1, h2, h3⟩ := h
  cases out' with
  | pan v => exact h3.elim
  | ret w => subst h3; simp [callA, hm, purify_all s ha, h1, h2, frz_all s ha]
theorem leave_cons {call : Oracle} {res : List PR} {tm : List AV} {d : FuncId × List AV} {ds : List (FuncId × List AV)} {s : ASt} {p : Option AV} : leaveA call md pfs res ⟨tm, d :: ds, s⟩ p = match unwindA call md pfs (d :: ds) p s with
    | some (none, s) => (resA tm s res).map fun l => (.ret (oneA l), s)
    | some (some v, s) => some (.pan v, s)
    | none => none := by cases p <;> rfl
theorem leave_nil {call : Oracle} {res : List PR} {tm : List AV} {s : ASt} : leaveA call md pfs res ⟨tm, [], s⟩ none = (resA tm s res).map fun l => (.ret (oneA l), s) := rfl
theorem caught_ret {n : Int} : Out md pfs 24 [.iface 28 (.int n)] (· = .int n) fun _ => False := by
  refine out_of pf24_is (Nat.le_of_ble_eq_true rfl) ?_
  simp only [pf24, ↓wpre, wset, wcore, ne_eq, if_true, if_false, exists_eq_left', true_implies, false_implies, exists_const, exists_eq_right, binA, intA, loadA, storeA, pickC, setAt, mapO, argsE, X.isC, resA, oneA, unA, boundA, eqiA, eqsA, fillA, fillE, ASt.fz, strA, Nat.reduceEqDiff, Nat.reduceLT, ↓reduceIte, reduceCtorEq, Nat.reduceAdd, Nat.reduceLeDiff, Int.reduceBEq, Int.reduceBNe, Int.reduceLT, Int.reduceLE, Int.reduceGT, Int.reduceGE, Nat.reduceDiv, Nat.reduceMul, Nat.reduceBEq, Nat.reduceMod, Nat.reduceSub]
theorem unw23_none {call : Oracle} {s : ASt} : unwindA call md pfs [(23, [.ptr 0 0, .ptr 1 0, .ptr 2 0])] none s = some (none, s) := by
  simp only [unwindA, pf23_is, pf23, rcOf, List.length_cons, List.length_nil, Nat.zero_add, Nat.reduceAdd, Nat.reduceSub, List.replicate_succ, List.replicate_zero, List.cons_append, List.nil_append, execR, stepsR, stepA, opA, evX, put, wantedA, List.getElem?_cons_zero, List.getElem?_cons_succ, List.set_cons_zero, List.set_cons_succ, Option.map_some, eqiA, X.isC, if_true, Bool.xor_true, Bool.not_true, resA, List.isEmpty_nil, Option.isSome_some, Bool.and_true, rcEnd]
theorem unw23_some {n : Int} {H : List AObj} {T : List Nat} {a b c : AV} : unwindA (run md pfs) md pfs [(23, [.ptr 0 0, .ptr 1 0, .ptr 2 0])] (some (.iface 28 (.int n))) ⟨.cells false [a] :: .cells false [b] :: .cells false [c] :: H, T⟩ = some (none, ⟨.cells false [.sl [] .nil] :: .cells false [.bool false] :: .cells false [.int n] :: H, T⟩) := by
  have h24 := callA_of (caught_ret (n := n)) rfl rfl
  simp only [unwindA, pf23_is, pf23, rcOf, List.length_cons, List.length_nil, Nat.zero_add, Nat.reduceAdd, Nat.reduceSub, List.replicate_succ, List.replicate_zero, List.cons_append, List.nil_append, execR, stepsR, stepA, opA, evX, put, wantedA, List.getElem?_cons_zero, List.getElem?_cons_succ, List.set_cons_zero, List.set_cons_succ, Option.map_some, eqiA, X.isC, if_true, Bool.xor_true, Bool.not_true, Bool.not_false, resA, List.isEmpty_nil, Option.isSome_some, Bool.and_true, rcEnd, mapO, h24, storeA, cells_sl, cells_v, setAt, List.take_zero, List.drop_zero, List.all_cons, List.all_nil, onec_v, onec_sl, and_self, Nat.le_refl, List.drop_succ_cons, List.append_nil, List.drop_nil, Bool.true_and, Bool.xor_false, Nat.add_zero, Bool.false_eq_true, if_false]
/-- What Refute tells. -/
def refuteR (rows : List (List Int)) : List Int × Bool × Int :=
  if rightR rows ≠ 0 then ([], false, rightR rows) else match elimA rows with
    | .err e => ([], false, e)
    | .ref F => (F, true, 0)
    | .sts _ => ([], false, 0)
def RefV (r : List Int × Bool × Int) (v : AV) : Prop := ∃ u, v = .tup [.sl (ints r.1) u, .bool r.2.1, .int r.2.2] ∧ u.pure = true
theorem out_of_LW {f : FuncId} {pf : PF} (hp : pfs f = some pf) {args : List AV} {PR : AV → Prop} (hn : args.length ≤ pf.nt) (h : W (run md pfs) md pf.body ⟨tmE pf.nt (argsE args), [], ⟨[], []⟩⟩ (LW md pfs pf.res fun out s => ∃ v w, out = .ret v ∧ purify 20 s v = some w ∧ PR w) ()) : Out md pfs f args PR fun _ => False := by
  obtain ⟨out, s1, h1, v, w, rfl, h2, h3⟩ := run_of_LW hp hn h
  exact ⟨_, _, .ret w, h1, by simp only [Outc.purify, h2, Option.map_some], h3⟩
theorem app_nil {T : List Nat} {l : List Int} (hl : l.length ≤ capB) : ∃ u T', (∀ H, appA ⟨H, T⟩ 1 none [] (.cap 0) (ints l) = some (.sl (ints l) u, ⟨H, T'⟩)) := by
  by_cases h : ints l = []
  · rw [h]; exact ⟨.cap 0, T, fun H => rfl⟩
  · exact ⟨_, _, fun H => (app_cap h).1 H (by rw [ints_len]; exact hl) (ints_okl l)⟩
theorem refV_nil {b : Bool} {n : Int} : RefV ([], b, n) (.tup [.sl [] .nil, .bool b, .int n]) := ⟨.nil, rfl, rfl⟩
theorem refute_ret {rows : List (List Int)} {al : List AV} {t : Tl} (h : LIs RowIs rows al) (ht : t.pure = true) (hl : al.length ≤ lenB) : Out md pfs 11 [.sl al t] (RefV (refuteR rows)) fun _ => False := by
  have hln := h.len
  have hp := rowsPure h
  obtain ⟨_, rfl, c22⟩ := (check_ret (t := t) h hl).call rfl (by simp [pvs_cons, pvs_nil, pv_sl, ht, hp])
  refine out_of_LW pf11_is (Nat.le_of_ble_eq_true rfl) ?_
  by_cases hr : rightR rows = 0
  · have d1 : (rightR rows != 0) = false := by rw [hr]; rfl
    by_cases h0 : rows.length = 0
    · have d2 : ((al.length : Int) == 0) = true := by rw [beq_iff_eq]; omega
      have e : refuteR rows = ([], false, rightR rows) := by
        rw [List.length_eq_zero_iff.1 h0]; rfl
      simp only [pf11, ↓wpre, wset, wcore, ne_eq, if_true, if_false, exists_eq_left', true_implies, false_implies, exists_const, exists_eq_right, binA, intA, loadA, storeA, pickC, setAt, mapO, argsE, X.isC, resA, oneA, unA, boundA, eqiA, eqsA, fillA, fillE, ASt.fz, strA, Nat.reduceEqDiff, Nat.reduceLT, ↓reduceIte, reduceCtorEq, Nat.reduceAdd, Nat.reduceLeDiff, Int.reduceBEq, Int.reduceBNe, Int.reduceLT, Int.reduceLE, Int.reduceGT, Int.reduceGE, Nat.reduceDiv, Nat.reduceMul, Nat.reduceBEq, Nat.reduceMod, Nat.reduceSub, List.length_append, List.append_assoc, app_get_len, app_get_add, app_set_len, app_set_add, c22, d1, d2, LW_ret, leave_nil]
      exact ⟨_, _, rfl, purify_pure rfl, by rw [e]; exact refV_nil⟩
    · have d2 : ((al.length : Int) == 0) = false := by rw [beq_eq_false_iff_ne]; omega
      have hR := right_of hr
      have hel := (eliminate_ret h ht hR (by omega)).call2 rfl (by simp [pvs_cons, pvs_nil, pv_sl, ht, hp])
      have e : refuteR rows = match elimA rows with
        | .err e => ([], false, (e : Int))
        | .ref F => (F, true, 0)
        | .sts _ => ([], false, 0) := by rw [refuteR, if_neg (by simp [hr])]
      rw [e]
      rcases hel with ⟨v, hv, c25⟩ | ⟨v, ⟨n, hv, rfl⟩, c25⟩
      · cases hE : elimA rows with
        | err n => rw [hE] at hv; exact hv.elim
        | ref F =>
          rw [hE] at hv
          obtain ⟨s, u, rfl, hs, hu⟩ := hv
          have hF := elimA_len hR rfl (hR.pos (by omega)).1 hE
          have hfew := hR.few
          obtain ⟨u', T', ap⟩ := app_nil (T := []) (l := F) (by unfold capB; omega)
          simp only [pf11, ↓wpre, wset, wcore, ne_eq, if_true, if_false, exists_eq_left', true_implies, false_implies, exists_const, exists_eq_right, binA, intA, loadA, storeA, pickC, setAt, mapO, argsE, X.isC, resA, oneA, unA, boundA, eqiA, eqsA, fillA, fillE, ASt.fz, strA, Nat.reduceEqDiff, Nat.reduceLT, ↓reduceIte, reduceCtorEq, Nat.reduceAdd, Nat.reduceLeDiff, Int.reduceBEq, Int.reduceBNe, Int.reduceLT, Int.reduceLE, Int.reduceGT, Int.reduceGE, Nat.reduceDiv, Nat.reduceMul, Nat.reduceBEq, Nat.reduceMod, Nat.reduceSub, List.length_append, List.append_assoc, app_get_len, app_get_add, app_set_len, app_set_add, c22, d1, d2, c25, ap, LW_ret, leave_cons, unw23_none]
          obtain ⟨u2, p1, p2⟩ := pz_slints (k := 17) (s := ⟨[AObj.cells false [AV.sl (ints F) u'], AObj.cells false [AV.v (Value.bool true)], AObj.cells false [AV.v (Value.int IntKind.i64 0)]], T'⟩) (l := F) (t := u')
          refine ⟨_, _, rfl, ?_, u2, rfl, p1⟩
          rw [pz_tup, mapO, p2]
          rfl
        | sts ss =>
          rw [hE] at hv
          obtain ⟨s, rfl, hs⟩ := hv
          simp only [pf11, ↓wpre, wset, wcore, ne_eq, if_true, if_false, exists_eq_left', true_implies, false_implies, exists_const, exists_eq_right, binA, intA, loadA, storeA, pickC, setAt, mapO, argsE, X.isC, resA, oneA, unA, boundA, eqiA, eqsA, fillA, fillE, ASt.fz, strA, Nat.reduceEqDiff, Nat.reduceLT, ↓reduceIte, reduceCtorEq, Nat.reduceAdd, Nat.reduceLeDiff, Int.reduceBEq, Int.reduceBNe, Int.reduceLT, Int.reduceLE, Int.reduceGT, Int.reduceGE, Nat.reduceDiv, Nat.reduceMul, Nat.reduceBEq, Nat.reduceMod, Nat.reduceSub, List.length_append, List.append_assoc, app_get_len, app_get_add, app_set_len, app_set_add, c22, d1, d2, c25, LW_ret, leave_cons, unw23_none]
          exact ⟨_, _, rfl, purify_pure rfl, refV_nil⟩
      · rw [hv]
        simp only [pf11, ↓wpre, wset, wcore, ne_eq, if_true, if_false, exists_eq_left', true_implies, false_implies, exists_const, exists_eq_right, binA, intA, loadA, storeA, pickC, setAt, mapO, argsE, X.isC, resA, oneA, unA, boundA, eqiA, eqsA, fillA, fillE, ASt.fz, strA, Nat.reduceEqDiff, Nat.reduceLT, ↓reduceIte, reduceCtorEq, Nat.reduceAdd, Nat.reduceLeDiff, Int.reduceBEq, Int.reduceBNe, Int.reduceLT, Int.reduceLE, Int.reduceGT, Int.reduceGE, Nat.reduceDiv, Nat.reduceMul, Nat.reduceBEq, Nat.reduceMod, Nat.reduceSub, List.length_append, List.append_assoc, app_get_len, app_get_add, app_set_len, app_set_add, c22, d1, d2, c25, LW_pan, leave_cons, unw23_some]
        exact ⟨_, _, rfl, purify_pure rfl, refV_nil⟩
  · have d1 : (rightR rows != 0) = true := by simpa using hr
    have e : refuteR rows = ([], false, rightR rows) := by rw [refuteR, if_pos hr]
    simp only [pf11, ↓wpre, wset, wcore, ne_eq, if_true, if_false, exists_eq_left', true_implies, false_implies, exists_const, exists_eq_right, binA, intA, loadA, storeA, pickC, setAt, mapO, argsE, X.isC, resA, oneA, unA, boundA, eqiA, eqsA, fillA, fillE, ASt.fz, strA, Nat.reduceEqDiff, Nat.reduceLT, ↓reduceIte, reduceCtorEq, Nat.reduceAdd, Nat.reduceLeDiff, Int.reduceBEq, Int.reduceBNe, Int.reduceLT, Int.reduceLE, Int.reduceGT, Int.reduceGE, Nat.reduceDiv, Nat.reduceMul, Nat.reduceBEq, Nat.reduceMod, Nat.reduceSub, List.length_append, List.append_assoc, app_get_len, app_get_add, app_set_len, app_set_add, c22, d1, LW_ret, leave_nil]
    exact ⟨_, _, rfl, purify_pure rfl, by rw [e]; exact refV_nil⟩
end Go.Proofs.Eng
