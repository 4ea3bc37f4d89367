/- Refute: the program's and the reference's. No conditions beyond those in the theorems. -/
import Derived.Test.YtglembbmmnakaaaDoorF18
import Derived.Test.YtglembbmmnakaaaDoorT1
set_option linter.all false
set_option linter.deprecated false
set_option linter.unnecessarySimpa false
set_option linter.unusedVariables false
set_option linter.unusedSimpArgs false
set_option linter.defProp false
namespace Go.Proofs.Eng
open Go Go.Proofs
set_option maxRecDepth 100000
set_option maxHeartbeats 16000000
theorem callA_of {f : FuncId} {args : List AV} {v : AV} (h : Out md pfs f args (· = v) fun _ => False) (hm : md f = .pure) (ha : pureAVs args = true) (s : ASt) : callA (run md pfs) md false s f args = some (.ret v, s) := by
  obtain ⟨out, s', out', h1, h2, h3⟩ := h
  cases out' with
  | pan v => exact h3.elim
  | ret w => subst h3; simp [callA, hm, purify_all s ha, h1, h2, frz_all s ha]
theorem leave_cons {call : Oracle} {res : List PR} {tm : List AV} {d : FuncId × List AV} {ds : List (FuncId × List AV)} {s : ASt} {p : Option AV} : leaveA call md pfs res ⟨tm, d :: ds, s⟩ p = match unwindA call md pfs (d :: ds) p s with
    | some (none, s) => (resA tm s res).map fun l => (.ret (oneA l), s)
    | some (some v, s) => some (.pan v, s)
    | none => none := by cases p <;> rfl
theorem leave_nil {call : Oracle} {res : List PR} {tm : List AV} {s : ASt} : leaveA call md pfs res ⟨tm, [], s⟩ none = (resA tm s res).map fun l => (.ret (oneA l), s) := rfl
theorem caught_ret {n : Int} : Out md pfs 24 [.iface 28 (.int n)] (· = .int n) fun _ => False := by
  refine out_of pf24_is (Nat.le_of_ble_eq_true rfl) ?_
  simp only [pf24, ↓wpre, wset, wcore, ne_eq, if_true, if_false, exists_eq_left', true_implies, false_implies, exists_const, exists_eq_right, binA, intA, loadA, storeA, pickC, setAt, mapO, argsE, X.isC, resA, oneA, unA, boundA, eqiA, eqsA, fillA, fillE, ASt.fz, strA, Nat.reduceEqDiff, Nat.reduceLT, ↓reduceIte, reduceCtorEq, Nat.reduceAdd, Nat.reduceLeDiff, Int.reduceBEq, Int.reduceBNe, Int.reduceLT, Int.reduceLE, Int.reduceGT, Int.reduceGE, Nat.reduceDiv, Nat.reduceMul, Nat.reduceBEq, Nat.reduceMod, Nat.reduceSub]
def RefV (r : List Int × Bool × Int) (v : AV) : Prop := ∃ u, v = .tup [.sl (ints r.1) u, .bool r.2.1, .int r.2.2] ∧ u.pure = true
theorem out_of_LW {f : FuncId} {pf : PF} (hp : pfs f = some pf) {args : List AV} {PR : AV → Prop} (hn : args.length ≤ pf.nt) (h : W (run md pfs) md pf.body ⟨tmE pf.nt (argsE args), [], ⟨[], []⟩⟩ (LW md pfs pf.res fun out s => ∃ v w, out = .ret v ∧ purify 20 s v = some w ∧ PR w) ()) : Out md pfs f args PR fun _ => False := by
  obtain ⟨out, s1, h1, v, w, rfl, h2, h3⟩ := run_of_LW hp hn h
  exact ⟨_, _, .ret w, h1, by simp only [Outc.purify, h2, Option.map_some], h3⟩
theorem refV_nil {b : Bool} {n : Int} : RefV ([], b, n) (.tup [.sl [] .nil, .bool b, .int n]) := ⟨.nil, rfl, rfl⟩
theorem stages_nil {t : Tl} (ht : t.pure = true) : Out md pfs 28 [.sl [] t] (fun v => ∃ s, v = .tup [s, .sl [] .nil, .bool false, .int 0] ∧ pureAV s = true) fun _ => False := by
  obtain ⟨_, hv, c38⟩ := (refuted_ret (l := []) (al := []) (t := .nil) (w := 1) (m := 0) trivial rfl (by simp) (by simp) (by omega) (by omega)).call rfl (by rfl)
  rcases hv with ⟨r, u, hr, _⟩ | ⟨_, rfl⟩
  · simp at hr
  refine out_of pf28_is (Nat.le_of_ble_eq_true rfl) ?_
  simp only [pf28, ↓wpre, wset, wcore, ne_eq, if_true, if_false, exists_eq_left', true_implies, false_implies, exists_const, exists_eq_right, binA, intA, loadA, storeA, pickC, setAt, mapO, argsE, X.isC, resA, oneA, unA, boundA, eqiA, eqsA, fillA, fillE, ASt.fz, strA, Nat.reduceEqDiff, Nat.reduceLT, ↓reduceIte, reduceCtorEq, Nat.reduceAdd, Nat.reduceLeDiff, Int.reduceBEq, Int.reduceBNe, Int.reduceLT, Int.reduceLE, Int.reduceGT, Int.reduceGE, Nat.reduceDiv, Nat.reduceMul, Nat.reduceBEq, Nat.reduceMod, Nat.reduceSub]
  refine W_loopE (fun _ => 0) (fun (_ : Nat) E H T => E 0 = .sl [] t ∧ E 6 = .sl [] .nil ∧ E 7 = .int 0) ?_ 0 ⟨rfl, rfl, rfl⟩
  rintro k E H T ⟨e0, e6, e7⟩
  have hdec : decide (((0 : Nat) : Int) > 0) = false := rfl
  simp only [↓wpre, wset, wcore, ne_eq, if_true, if_false, exists_eq_left', true_implies, false_implies, exists_const, exists_eq_right, binA, intA, loadA, storeA, pickC, setAt, mapO, argsE, X.isC, resA, oneA, unA, boundA, eqiA, eqsA, fillA, fillE, ASt.fz, strA, Nat.reduceEqDiff, Nat.reduceLT, ↓reduceIte, reduceCtorEq, Nat.reduceAdd, Nat.reduceLeDiff, Int.reduceBEq, Int.reduceBNe, Int.reduceLT, Int.reduceLE, Int.reduceGT, Int.reduceGE, Nat.reduceDiv, Nat.reduceMul, Nat.reduceBEq, Nat.reduceMod, Nat.reduceSub, e0, e6, e7, hdec]
  refine W_loopE (fun _ => 0) (fun (_ : Nat) E H T => E 0 = .sl [] t ∧ E 6 = .sl [] .nil ∧ E 9 = .sl [.sl [] .nil] (.cap 1) ∧ E 10 = .int 0 ∧ E 11 = .int 0) ?_ 0 ⟨e0, e6, rfl, rfl, rfl⟩
  clear e0 e6 e7
  rintro k E H T ⟨e0, e6, e9, e10, e11⟩
  simp only [↓wpre, wset, wcore, ne_eq, if_true, if_false, exists_eq_left', true_implies, false_implies, exists_const, exists_eq_right, binA, intA, loadA, storeA, pickC, setAt, mapO, argsE, X.isC, resA, oneA, unA, boundA, eqiA, eqsA, fillA, fillE, ASt.fz, strA, Nat.reduceEqDiff, Nat.reduceLT, ↓reduceIte, reduceCtorEq, Nat.reduceAdd, Nat.reduceLeDiff, Int.reduceBEq, Int.reduceBNe, Int.reduceLT, Int.reduceLE, Int.reduceGT, Int.reduceGE, Nat.reduceDiv, Nat.reduceMul, Nat.reduceBEq, Nat.reduceMod, Nat.reduceSub, e0, e6, e9, e10, e11, c38, BQ_e' (show (2 : Nat) ≠ 3 by decide)]
  exact ⟨_, rfl, rfl⟩
end Go.Proofs.Eng
