/- E6: what functions of the program return. No conditions beyond those in the theorems. -/
import Derived.Test.YtfopdknkbnhlkaaE5
set_option linter.all false
set_option linter.deprecated false
set_option linter.unnecessarySimpa false
set_option linter.unusedVariables false
set_option linter.unusedSimpArgs false
set_option linter.defProp false
namespace Go.Proofs.Eng
open Go Go.Proofs
set_option maxRecDepth 100000
set_option maxHeartbeats 4000000
theorem red_err {e : Ex} {c : Int} (h : e.red = .error c) : c = 10 := by
  obtain ⟨k, i, n, s, kids⟩ := e
  simp only [Ex.red] at h
  repeat' split at h
  all_goals first | (cases h; done) | (cases h; rfl)
theorem step_err (gs : List Gl) (e : Ex) : ∀ {c}, e.step gs = .error c → c ≠ 0 := by
  induction e using Ex.ind with
  | h k i n s kids ih =>
    intro c h
    simp only [Ex.step] at h
    by_cases k0 : k = 0
    · rw [if_pos k0] at h; cases h; decide
    rw [if_neg k0] at h
    by_cases k11 : k = 11
    · rw [if_pos k11] at h; cases h; decide
    rw [if_neg k11] at h
    by_cases k5 : k = 5
    · rw [if_pos k5] at h
      cases hg : gfind gs n with
      | none => rw [hg] at h; cases h; decide
      | some x => rw [hg] at h; cases h
    rw [if_neg k5] at h
    have key : ∀ (m : Nat) (l : List Ex) (c : Int), (∀ x ∈ l, x ∈ kids) → stepL gs m l = some (.error c) → c ≠ 0 := by
      intro m l
      induction l generalizing m with
      | nil => intro c _ h; simp [stepL] at h
      | cons x l ihl =>
        intro c hl h
        simp only [stepL] at h
        by_cases m0 : m = 0
        · rw [if_pos m0] at h; cases h
        rw [if_neg m0] at h
        by_cases hv : x.val = true
        · rw [if_pos hv] at h
          cases hs : stepL gs (m - 1) l with
          | none => rw [hs] at h; cases h
          | some r =>
            rw [hs] at h
            cases r with
            | ok l' => cases h
            | error c' => cases h; exact ihl (m - 1) c (fun y hy => hl y (by simp [hy])) hs
        · rw [if_neg hv] at h
          cases hs : Ex.step gs x with
          | ok x' => rw [hs] at h; cases h
          | error c' => rw [hs] at h; cases h; exact ih x (hl x (by simp)) hs
    cases hs : stepL gs (if k = 4 ∨ k = 7 then 1 else kids.length) kids with
    | none => rw [hs] at h; have := red_err h; omega
    | some r =>
      rw [hs] at h
      cases r with
      | ok l' => cases h
      | error c' => cases h; exact key _ _ _ (fun x hx => hx) hs
def Ex.stp (gs : List Gl) (e : Ex) : Ex × Bool × Int :=
  if e.val = true then (e, false, 0) else match e.step gs with
    | .ok x => (x, true, 0)
    | .error c => (.zero, false, c)
theorem Step_ret {p : Pr} {pa : AV} (hp : p.Is pa) {e : Ex} {a : AV} (h : e.Is a) (hw : e.wf) (hd : 64 * (e.dep : Int) ≤ B62) : Out md pfs 20 [pa, a] (fun v => ∃ ax, v = .tup [ax, .bool (e.stp p.gs).2.1, .int (e.stp p.gs).2.2] ∧ (e.stp p.gs).1.Is ax) fun _ => False := by
  obtain ⟨gas, tg, c, rfl, h1, h2, h3, h4, h5, h6, h7, h8, h9, h10⟩ := id hp
  obtain ⟨ce, rfl, l1, l2⟩ := exAgg.cells h
  have l3 : ce.take 5 = ce := List.take_of_length_le (by omega)
  obtain ⟨_, rfl, cv⟩ := (isValue_ret e h).call rfl (by simp [pvs_cons, pvs_nil, exPure _ h])
  refine out_of pf20_is (Nat.le_of_ble_eq_true rfl) ?_
  cases hv : e.val
  · have hsh : Sh md pfs 50 [.ptr 0 0, .ptr 1 0, .ptr 3 0] ⟨[.cells false (.sl gas tg :: c), .cells false ce, .cells false [.int 0, .int 0, .str ⟨#[]⟩, .sl [] .nil, .sl [] .nil], .cells false [.int 0, .int 0, .str ⟨#[]⟩, .sl [] .nil, .sl [] .nil]] ++ [.cells false [.int 0]], []⟩
        (fun v s => ∃ x cx, e.step p.gs = .ok x ∧ x.Is (.agg cx) ∧ s = ⟨[.cells false (.sl gas tg :: c), .cells false ce, .cells false [.int 0, .int 0, .str ⟨#[]⟩, .sl [] .nil, .sl [] .nil], .cells false cx, .cells false [.int 0]], []⟩)
        (fun v s => ∃ k, e.step p.gs = .error k ∧ v = wr k ∧ s = ⟨[.cells false (.sl gas tg :: c), .cells false ce, .cells false [.int 0, .int 0, .str ⟨#[]⟩, .sl [] .nil, .sl [] .nil], .cells false [.int 0, .int 0, .str ⟨#[]⟩, .sl [] .nil, .sl [] .nil], .cells false [.int 0]], []⟩) := by
      refine sh_of pf50_is (Nat.le_of_ble_eq_true rfl) ?_
      rcases (step_ret hp e h hw hd hv).call2 rfl (by simp [pvs_cons, pvs_nil, prPure hp, exPure _ h]) with ⟨v, ⟨x', q1, q2⟩, hc⟩ | ⟨v, ⟨k, q1, rfl⟩, hc⟩
      · obtain ⟨cx, rfl, x1, x2⟩ := exAgg.cells q2
        have x3 : cx.take 5 = cx := List.take_of_length_le (by omega)
        simp only [pf50, ↓wpre, wset, wcore, ne_eq, if_true, if_false, exists_eq_left', true_implies, false_implies, exists_const, exists_eq_right, binA, intA, loadA, storeA, pickC, setAt, mapO, argsE, X.isC, resA, oneA, unA, boundA, eqiA, eqsA, fillA, fillE, ASt.fz, strA, Nat.reduceEqDiff, Nat.reduceLT, ↓reduceIte, reduceCtorEq, Nat.reduceAdd, Nat.reduceLeDiff, Int.reduceBEq, Int.reduceBNe, Int.reduceLT, Int.reduceLE, Int.reduceGT, Int.reduceGE, Nat.reduceDiv, Nat.reduceMul, h5, h6, l1, l3, hc, x1, x2, x3]
        exact ⟨x', cx, q1, q2, rfl⟩
      · simp only [pf50, ↓wpre, wset, wcore, ne_eq, if_true, if_false, exists_eq_left', true_implies, false_implies, exists_const, exists_eq_right, binA, intA, loadA, storeA, pickC, setAt, mapO, argsE, X.isC, resA, oneA, unA, boundA, eqiA, eqsA, fillA, fillE, ASt.fz, strA, Nat.reduceEqDiff, Nat.reduceLT, ↓reduceIte, reduceCtorEq, Nat.reduceAdd, Nat.reduceLeDiff, Int.reduceBEq, Int.reduceBNe, Int.reduceLT, Int.reduceLE, Int.reduceGT, Int.reduceGE, Nat.reduceDiv, Nat.reduceMul, h5, h6, l1, l3, hc, wrPure]
        exact ⟨k, q1, rfl⟩
    have hcs := caught_sh (g := 50) (caps := [.ptr 0 0, .ptr 1 0, .ptr 3 0]) rfl (T := []) hsh (by rintro v s ⟨x, cx, _, _, rfl⟩; rfl) (by rintro v s ⟨k, _, rfl, rfl⟩; exact ⟨⟨_, rfl⟩, rfl⟩)
    rcases hcs.call rfl with ⟨v, s', ⟨u, s1, ⟨x, cx, q1, q2, rfl⟩, rfl, rfl⟩ | ⟨k, s1, ⟨k', q1, hk, rfl⟩, rfl, rfl⟩, hc⟩ | ⟨_, _, hf, _⟩
    · obtain ⟨cx', e', x1, x2⟩ := exAgg.cells q2
      cases e'
      have x3 : cx.take 5 = cx := List.take_of_length_le (by omega)
      have hst : e.stp p.gs = (x, true, 0) := by simp [Ex.stp, hv, q1]
      rw [hst]
      simp only [List.length_cons, List.length_nil, Nat.zero_add, Nat.reduceAdd, List.set_cons_succ, List.set_cons_zero] at hc
      simp only [pf20, ↓wpre, wset, wcore, ne_eq, if_true, if_false, exists_eq_left', true_implies, false_implies, exists_const, exists_eq_right, binA, intA, loadA, storeA, pickC, setAt, mapO, argsE, X.isC, resA, oneA, unA, boundA, eqiA, eqsA, fillA, fillE, ASt.fz, strA, Nat.reduceEqDiff, Nat.reduceLT, ↓reduceIte, reduceCtorEq, Nat.reduceAdd, Nat.reduceLeDiff, Int.reduceBEq, Int.reduceBNe, Int.reduceLT, Int.reduceLE, Int.reduceGT, Int.reduceGE, Nat.reduceDiv, Nat.reduceMul, h5, h6, l1, l3, cv, hv, hc, x1, x2, x3, exPure _ q2]
      exact ⟨_, rfl, q2⟩
    · have : k = k' := by simpa [wr] using hk
      subst this
      have hst : e.stp p.gs = (.zero, false, k) := by simp [Ex.stp, hv, q1]
      rw [hst]
      have hne : (k != 0) = true := by simpa using step_err p.gs e q1
      simp only [List.length_cons, List.length_nil, Nat.zero_add, Nat.reduceAdd, List.set_cons_succ, List.set_cons_zero, List.cons_append, List.nil_append] at hc
      simp only [pf20, ↓wpre, wset, wcore, ne_eq, if_true, if_false, exists_eq_left', true_implies, false_implies, exists_const, exists_eq_right, binA, intA, loadA, storeA, pickC, setAt, mapO, argsE, X.isC, resA, oneA, unA, boundA, eqiA, eqsA, fillA, fillE, ASt.fz, strA, Nat.reduceEqDiff, Nat.reduceLT, ↓reduceIte, reduceCtorEq, Nat.reduceAdd, Nat.reduceLeDiff, Int.reduceBEq, Int.reduceBNe, Int.reduceLT, Int.reduceLE, Int.reduceGT, Int.reduceGE, Nat.reduceDiv, Nat.reduceMul, h5, h6, l1, l3, cv, hv, hc, hne]
      exact ⟨_, rfl, zeroIs⟩
    · exact hf.elim
  · have hst : e.stp p.gs = (e, false, 0) := by simp [Ex.stp, hv]
    rw [hst]
    simp only [pf20, ↓wpre, wset, wcore, ne_eq, if_true, if_false, exists_eq_left', true_implies, false_implies, exists_const, exists_eq_right, binA, intA, loadA, storeA, pickC, setAt, mapO, argsE, X.isC, resA, oneA, unA, boundA, eqiA, eqsA, fillA, fillE, ASt.fz, strA, Nat.reduceEqDiff, Nat.reduceLT, ↓reduceIte, reduceCtorEq, Nat.reduceAdd, Nat.reduceLeDiff, Int.reduceBEq, Int.reduceBNe, Int.reduceLT, Int.reduceLE, Int.reduceGT, Int.reduceGE, Nat.reduceDiv, Nat.reduceMul, l1, l3, l2, cv, hv, exPure _ h]
    exact ⟨_, rfl, h⟩
end Go.Proofs.Eng
