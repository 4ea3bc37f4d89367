/- L3: what functions of the program return. No conditions beyond those in the theorems. -/
import Derived.Test.YtfopdknkbnhlkaaL0
import Derived.Test.YtfopdknkbnhlkaaF3
set_option linter.all false
set_option linter.deprecated false
set_option linter.unnecessarySimpa false
set_option linter.unusedVariables false
set_option linter.unusedSimpArgs false
set_option linter.defProp false
namespace Go.Proofs.Eng
open Go Go.Proofs Go.Proofs.Ytfopdknkbnhlkaa
set_option maxRecDepth 100000
theorem purify_v_inv {n : Nat} {s : ASt} {x : AV} {y : Value} (h : purify n s x = some (.v y)) : x = .v y := by
  cases n with
  | zero => rw [purify] at h; cases h
  | succ n =>
    unfold purify at h
    split at h
    · cases h; rfl
    · split at h
      all_goals first
        | (cases h; done)
        | (rw [Option.map_eq_some_iff] at h; obtain ⟨_, _, h⟩ := h; cases h; done)
        | skip
      split at h
      · split at h
        · rw [Option.map_eq_some_iff] at h; obtain ⟨_, _, h⟩ := h; cases h
        · cases h
      · cases h
/-- A law that returns true. -/
theorem law_true {f : FuncId} {ls : List AV} (h : Out md pfs f ls (· = .bool true) fun _ => False) : ∃ s', run md pfs f ls ⟨[], []⟩ = some (.ret (.v (.bool true)), s') := by
  obtain ⟨out, s, out', h1, h2, h3⟩ := h
  cases out' with
  | pan v => exact h3.elim
  | ret v =>
    subst h3
    cases out with
    | pan w => simp [Outc.purify] at h2
    | ret w =>
      simp only [Outc.purify, Option.map_eq_some_iff] at h2
      obtain ⟨y, h2, h3⟩ := h2
      cases h3
      exact ⟨s, by rw [h1, purify_v_inv h2]⟩
theorem checks_law {p : Pr} {pa : AV} (hp : p.Is pa) : Out md pfs 3 [pa] (· = .bool true) fun _ => False := by
  obtain ⟨_, rfl, c1⟩ := (Few_ret hp).call rfl (by simp [pvs_cons, pvs_nil, prPure hp])
  obtain ⟨_, rfl, c2⟩ := (Check_ret hp).call rfl (by simp [pvs_cons, pvs_nil, prPure hp])
  obtain ⟨_, rfl, c3⟩ := (rCheck_ret hp).call rfl (by simp [pvs_cons, pvs_nil, prPure hp])
  obtain ⟨_, rfl, c4⟩ := awake_ret.call rfl (by simp [pvs_nil])
  obtain ⟨gas, tg, c, rfl, h1, h2, h3, h4, h5, h6, h7, h8, h9, h10⟩ := id hp
  refine out_of pf3_is (Nat.le_of_ble_eq_true rfl) ?_
  cases hf : p.few
  all_goals simp only [pf3, ↓wpre, wset, wcore, ne_eq, if_true, if_false, exists_eq_left', true_implies, false_implies, exists_const, exists_eq_right, binA, intA, loadA, storeA, pickC, setAt, mapO, argsE, X.isC, resA, oneA, unA, boundA, eqiA, eqsA, fillA, fillE, ASt.fz, strA, Nat.reduceEqDiff, Nat.reduceLT, ↓reduceIte, reduceCtorEq, Nat.reduceAdd, Nat.reduceLeDiff, Int.reduceBEq, Int.reduceBNe, Int.reduceLT, Int.reduceLE, Int.reduceGT, Int.reduceGE, Nat.reduceDiv, Nat.reduceMul, h5, h6, c1, c2, c3, c4, hf]
end Go.Proofs.Eng
