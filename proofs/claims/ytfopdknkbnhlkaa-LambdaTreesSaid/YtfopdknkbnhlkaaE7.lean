/- E7: what functions of the program return. No conditions beyond those in the theorems. -/
import Derived.Test.YtfopdknkbnhlkaaE6
set_option linter.all false
set_option linter.deprecated false
set_option linter.unnecessarySimpa false
set_option linter.unusedVariables false
set_option linter.unusedSimpArgs false
set_option linter.defProp false
namespace Go.Proofs.Eng
open Go Go.Proofs
set_option maxRecDepth 100000
set_option maxHeartbeats 4000000
/-- Evaluation in at most so many steps. -/
def ev (gs : List Gl) : Nat → Ex → Except Int Ex
  | n, e => if decide (e.size ≤ 4096) = false then .error 5 else if e.val = true then .ok e else match n with
    | 0 => .error 11
    | n + 1 => match e.step gs with
      | .ok x => ev gs n x
      | .error c => .error c
theorem ev_eq (gs : List Gl) (n : Nat) (e : Ex) : ev gs n e = if decide (e.size ≤ 4096) = false then .error 5 else if e.val = true then .ok e else match n with
    | 0 => .error 11
    | n + 1 => match e.step gs with
      | .ok x => ev gs n x
      | .error c => .error c := by cases n <;> rw [ev]
theorem ev_err (gs : List Gl) : ∀ (n : Nat) (e : Ex) {c : Int}, ev gs n e = .error c → c ≠ 0
  | n, e, c, h => by
    rw [ev_eq] at h
    split at h
    · cases h; decide
    · split at h
      · cases h
      · cases n with
        | zero => cases h; decide
        | succ n =>
          simp only at h
          cases hs : e.step gs with
          | error k => rw [hs] at h; cases h; exact step_err gs e hs
          | ok x => rw [hs] at h; exact ev_err gs n x h
/-- What has to hold along the way. -/
structure Way (gs : List Gl) (I : Nat → Ex → Prop) : Prop where
  wf : ∀ {n e}, I n e → e.wf ∧ 64 * (e.dep : Int) ≤ B62
  next : ∀ {n e x}, I (n + 1) e → e.size ≤ 4096 → e.val = false → e.step gs = .ok x → I n x
theorem eval1_sh {p : Pr} {gas : List AV} {tg : Tl} {c : List AV} (hp : p.Is (.agg (.sl gas tg :: c))) {I : Nat → Ex → Prop} (hI : Way p.gs I) {n : Nat} {e : Ex} {ce : List AV} (h : e.Is (.agg ce)) (hi : I n e) (hn : n ≤ 1000000) :
    Sh md pfs 56 [.ptr 1 0, .ptr 3 0, .ptr 0 0] ⟨[.cells false (.sl gas tg :: c), .cells false [.int n], .cells false [.int 0, .int 0, .str ⟨#[]⟩, .sl [] .nil, .sl [] .nil], .cells false ce] ++ [.cells false [.int 0]], []⟩
      (fun v s => ∃ x cx, ev p.gs n e = .ok x ∧ x.Is (.agg cx) ∧ s = ⟨[.cells false (.sl gas tg :: c), .cells false [.int n], .cells false [.int 0, .int 0, .str ⟨#[]⟩, .sl [] .nil, .sl [] .nil], .cells false cx, .cells false [.int 0]], []⟩)
      (fun v s => ∃ k cx, ev p.gs n e = .error k ∧ v = wr k ∧ s = ⟨[.cells false (.sl gas tg :: c), .cells false [.int n], .cells false [.int 0, .int 0, .str ⟨#[]⟩, .sl [] .nil, .sl [] .nil], .cells false cx, .cells false [.int 0]], []⟩) := by
  have hpp := prPure hp
  obtain ⟨h1, h2, h3, h4, h5, h6, h7, h8, h9, h10⟩ : _ ∧ _ ∧ _ ∧ _ ∧ _ ∧ _ ∧ _ ∧ _ ∧ _ ∧ _ := by
    obtain ⟨gas', tg', c', e, h⟩ := id hp
    cases e; exact h
  refine sh_of pf56_is (Nat.le_of_ble_eq_true rfl) ?_
  simp only [pf56, ↓wpre, wset, wcore, ne_eq, if_true, if_false, exists_eq_left', true_implies, false_implies, exists_const, exists_eq_right, binA, intA, loadA, storeA, pickC, setAt, mapO, argsE, X.isC, resA, oneA, unA, boundA, eqiA, eqsA, fillA, fillE, ASt.fz, strA, Nat.reduceEqDiff, Nat.reduceLT, ↓reduceIte, reduceCtorEq, Nat.reduceAdd, Nat.reduceLeDiff, Int.reduceBEq, Int.reduceBNe, Int.reduceLT, Int.reduceLE, Int.reduceGT, Int.reduceGE, Nat.reduceDiv, Nat.reduceMul]
  refine W_loopE (fun m => m) (fun m E H T => ∃ x cx, H = [.cells false (.sl gas tg :: c), .cells false [.int n], .cells false [.int 0, .int 0, .str ⟨#[]⟩, .sl [] .nil, .sl [] .nil], .cells false cx, .cells false [.int 0]] ∧ T = [] ∧ E 0 = .ptr 1 0 ∧ E 1 = .ptr 3 0 ∧ E 2 = .ptr 0 0 ∧ E 3 = .int m ∧ x.Is (.agg cx) ∧ I m x ∧ m ≤ 1000000 ∧ ev p.gs m x = ev p.gs n e) ?_ n ⟨e, ce, rfl, rfl, rfl, rfl, rfl, rfl, h, hi, hn, rfl⟩
  rintro m E H T ⟨x, cx, rfl, rfl, e0, e1, e2, e3, hx, hix, hm, hev⟩
  obtain ⟨cx', q, x1, x2⟩ := exAgg.cells hx
  cases q
  have x3 : cx.take 5 = cx := List.take_of_length_le (by omega)
  have x4 : cx.drop 5 = [] := List.drop_of_length_le (by omega)
  obtain ⟨_, rfl, cv⟩ := (isValue_ret x hx).call rfl (by simp [pvs_cons, pvs_nil, exPure _ hx])
  obtain ⟨_, rfl, cs⟩ := (size_ret x hx).call rfl (by simp [pvs_cons, pvs_nil, exPure _ hx])
  rw [ev_eq] at hev
  cases hsz : decide (x.size ≤ 4096)
  · rw [if_pos hsz] at hev
    cases hv : x.val
    all_goals
      simp only [↓wpre, wset, wcore, ne_eq, if_true, if_false, exists_eq_left', true_implies, false_implies, exists_const, exists_eq_right, binA, intA, loadA, storeA, pickC, setAt, mapO, argsE, X.isC, resA, oneA, unA, boundA, eqiA, eqsA, fillA, fillE, ASt.fz, strA, Nat.reduceEqDiff, Nat.reduceLT, ↓reduceIte, reduceCtorEq, Nat.reduceAdd, Nat.reduceLeDiff, Int.reduceBEq, Int.reduceBNe, Int.reduceLT, Int.reduceLE, Int.reduceGT, Int.reduceGE, Nat.reduceDiv, Nat.reduceMul, h5, h6, e0, e1, e2, e3, x1, x3, cv, cs, hv, hsz, dem_f, wrPure]
      exact ⟨5, cx, hev.symm, rfl, rfl⟩
  · rw [if_neg (by rw [hsz]; decide)] at hev
    cases hv : x.val
    · rw [if_neg (by rw [hv]; decide)] at hev
      cases m with
      | zero =>
        simp only [↓wpre, wset, wcore, ne_eq, if_true, if_false, exists_eq_left', true_implies, false_implies, exists_const, exists_eq_right, binA, intA, loadA, storeA, pickC, setAt, mapO, argsE, X.isC, resA, oneA, unA, boundA, eqiA, eqsA, fillA, fillE, ASt.fz, strA, Nat.reduceEqDiff, Nat.reduceLT, ↓reduceIte, reduceCtorEq, Nat.reduceAdd, Nat.reduceLeDiff, Int.reduceBEq, Int.reduceBNe, Int.reduceLT, Int.reduceLE, Int.reduceGT, Int.reduceGE, Nat.reduceDiv, Nat.reduceMul, h5, h6, e0, e1, e2, e3, x1, x3, cv, cs, hv, hsz, dem_t, dem_f, wrPure]
        exact ⟨11, cx, hev.symm, rfl, rfl⟩
      | succ m =>
        have hgt : decide (((m + 1 : Nat) : Int) > 0) = true := by simp
        have hw1 : IntKind.i64.wrap (((m + 1 : Nat) : Int) - 1) = (m : Int) := by rw [wrap_small (by omega) (by omega)]; omega
        obtain ⟨w1, w2⟩ := hI.wf hix
        rcases (step_ret hp x hx w1 w2 hv).call2 rfl (by simp [pvs_cons, pvs_nil, hpp, exPure _ hx]) with ⟨v, ⟨y, q1, q2⟩, hc⟩ | ⟨v, ⟨k, q1, rfl⟩, hc⟩
        · obtain ⟨cy, rfl, y1, y2⟩ := exAgg.cells q2
          simp only [q1] at hev
          simp only [↓wpre, wset, wcore, ne_eq, if_true, if_false, exists_eq_left', true_implies, false_implies, exists_const, exists_eq_right, binA, intA, loadA, storeA, pickC, setAt, mapO, argsE, X.isC, resA, oneA, unA, boundA, eqiA, eqsA, fillA, fillE, ASt.fz, strA, Nat.reduceEqDiff, Nat.reduceLT, ↓reduceIte, reduceCtorEq, Nat.reduceAdd, Nat.reduceLeDiff, Int.reduceBEq, Int.reduceBNe, Int.reduceLT, Int.reduceLE, Int.reduceGT, Int.reduceGE, Nat.reduceDiv, Nat.reduceMul, h5, h6, e0, e1, e2, e3, x1, x3, cv, cs, hv, hsz, hgt, dem_t, hc, y1, y2, hw1, x4]
          exact EQ_in ⟨m, by omega, y, cy, rfl, rfl, e0, e1, e2, rfl, q2, hI.next hix (by simpa using hsz) hv q1, by omega, hev⟩
        · simp only [q1] at hev
          simp only [↓wpre, wset, wcore, ne_eq, if_true, if_false, exists_eq_left', true_implies, false_implies, exists_const, exists_eq_right, binA, intA, loadA, storeA, pickC, setAt, mapO, argsE, X.isC, resA, oneA, unA, boundA, eqiA, eqsA, fillA, fillE, ASt.fz, strA, Nat.reduceEqDiff, Nat.reduceLT, ↓reduceIte, reduceCtorEq, Nat.reduceAdd, Nat.reduceLeDiff, Int.reduceBEq, Int.reduceBNe, Int.reduceLT, Int.reduceLE, Int.reduceGT, Int.reduceGE, Nat.reduceDiv, Nat.reduceMul, h5, h6, e0, e1, e2, e3, x1, x3, cv, cs, hv, hsz, hgt, dem_t, hc, wrPure]
          exact ⟨k, cx, hev.symm, rfl, rfl⟩
    · rw [if_pos hv] at hev
      simp only [↓wpre, wset, wcore, ne_eq, if_true, if_false, exists_eq_left', true_implies, false_implies, exists_const, exists_eq_right, binA, intA, loadA, storeA, pickC, setAt, mapO, argsE, X.isC, resA, oneA, unA, boundA, eqiA, eqsA, fillA, fillE, ASt.fz, strA, Nat.reduceEqDiff, Nat.reduceLT, ↓reduceIte, reduceCtorEq, Nat.reduceAdd, Nat.reduceLeDiff, Int.reduceBEq, Int.reduceBNe, Int.reduceLT, Int.reduceLE, Int.reduceGT, Int.reduceGE, Nat.reduceDiv, Nat.reduceMul, h5, h6, e0, e1, e2, e3, x1, x3, cv, cs, hv, hsz, dem_t]
      exact ⟨x, cx, hev.symm, hx, rfl⟩
def Pr.eval (p : Pr) (steps : Int) : Ex × Int :=
  if (p.check != 0) = true then (.zero, p.check) else if decide (steps < 0) = true then (.zero, 2) else if decide (steps > 1000000) = true then (.zero, 2) else match ev p.gs steps.toNat p.main with
    | .ok x => (x, 0)
    | .error c => (.zero, c)
theorem Eval_ret {p : Pr} {pa : AV} (hp : p.Is pa) {I : Nat → Ex → Prop} (hI : Way p.gs I) {steps : Int} (hi : p.check = 0 → 0 ≤ steps → steps ≤ 1000000 → I steps.toNat p.main) : Out md pfs 22 [pa, .int steps] (fun v => ∃ ax, v = .tup [ax, .int (p.eval steps).2] ∧ (p.eval steps).1.Is ax) fun _ => False := by
  obtain ⟨_, rfl, cc⟩ := (Check_ret hp).call rfl (by simp [pvs_cons, pvs_nil, prPure hp])
  obtain ⟨gas, tg, c, rfl, h1, h2, h3, h4, h5, h6, h7, h8, h9, h10⟩ := id hp
  refine out_of pf22_is (Nat.le_of_ble_eq_true rfl) ?_
  obtain ⟨r, hr⟩ : ∃ r, p.eval steps = r := ⟨_, rfl⟩
  rw [hr]
  simp only [Pr.eval] at hr
  cases b0 : (p.check != 0)
  · cases b1 : decide (steps < 0)
    · cases b2 : decide (steps > 1000000)
      · rw [b0, b1, b2] at hr
        simp only [Bool.false_eq_true, if_false] at hr
        obtain ⟨n, rfl⟩ : ∃ n : Nat, steps = n := ⟨steps.toNat, by simp at b1; omega⟩
        have hsh := eval1_sh hp hI (n := n) h4 (hi (by simpa using b0) (by omega) (by simp at b2; omega)) (by simp at b2; omega)
        have hcs := caught_sh (g := 56) (caps := [.ptr 1 0, .ptr 3 0, .ptr 0 0]) rfl (T := []) hsh (by rintro v s ⟨x, cx, _, _, rfl⟩; rfl) (by rintro v s ⟨k, cx, _, rfl, rfl⟩; exact ⟨⟨_, rfl⟩, rfl⟩)
        rw [Int.toNat_natCast] at hr
        rcases hcs.call rfl with ⟨v, s', ⟨u, s1, ⟨x, cx, q1, q2, rfl⟩, rfl, rfl⟩ | ⟨k, s1, ⟨k', cx, q1, hk, rfl⟩, rfl, rfl⟩, hc⟩ | ⟨_, _, hf, _⟩
        · obtain ⟨cx', e', x1, x2⟩ := exAgg.cells q2
          cases e'
          have x3 : cx.take 5 = cx := List.take_of_length_le (by omega)
          rw [q1] at hr
          subst hr
          simp only [List.length_cons, List.length_nil, Nat.zero_add, Nat.reduceAdd, List.set_cons_succ, List.set_cons_zero] at hc
          simp only [pf22, ↓wpre, wset, wcore, ne_eq, if_true, if_false, exists_eq_left', true_implies, false_implies, exists_const, exists_eq_right, binA, intA, loadA, storeA, pickC, setAt, mapO, argsE, X.isC, resA, oneA, unA, boundA, eqiA, eqsA, fillA, fillE, ASt.fz, strA, Nat.reduceEqDiff, Nat.reduceLT, ↓reduceIte, reduceCtorEq, Nat.reduceAdd, Nat.reduceLeDiff, Int.reduceBEq, Int.reduceBNe, Int.reduceLT, Int.reduceLE, Int.reduceGT, Int.reduceGE, Nat.reduceDiv, Nat.reduceMul, h5, h6, h7, cc, b0, b1, b2, hc, x1, x2, x3, exPure _ q2]
          exact ⟨_, rfl, q2⟩
        · have : k = k' := by simpa [wr] using hk
          subst this
          rw [q1] at hr
          subst hr
          have hne : (k != 0) = true := by simpa using ev_err _ _ _ q1
          simp only [List.length_cons, List.length_nil, Nat.zero_add, Nat.reduceAdd, List.set_cons_succ, List.set_cons_zero, List.cons_append, List.nil_append] at hc
          simp only [pf22, ↓wpre, wset, wcore, ne_eq, if_true, if_false, exists_eq_left', true_implies, false_implies, exists_const, exists_eq_right, binA, intA, loadA, storeA, pickC, setAt, mapO, argsE, X.isC, resA, oneA, unA, boundA, eqiA, eqsA, fillA, fillE, ASt.fz, strA, Nat.reduceEqDiff, Nat.reduceLT, ↓reduceIte, reduceCtorEq, Nat.reduceAdd, Nat.reduceLeDiff, Int.reduceBEq, Int.reduceBNe, Int.reduceLT, Int.reduceLE, Int.reduceGT, Int.reduceGE, Nat.reduceDiv, Nat.reduceMul, h5, h6, h7, cc, b0, b1, b2, hc, hne]
          exact ⟨_, rfl, zeroIs⟩
        · exact hf.elim
      · rw [b0, b1, b2] at hr
        subst hr
        simp only [pf22, ↓wpre, wset, wcore, ne_eq, if_true, if_false, exists_eq_left', true_implies, false_implies, exists_const, exists_eq_right, binA, intA, loadA, storeA, pickC, setAt, mapO, argsE, X.isC, resA, oneA, unA, boundA, eqiA, eqsA, fillA, fillE, ASt.fz, strA, Nat.reduceEqDiff, Nat.reduceLT, ↓reduceIte, reduceCtorEq, Nat.reduceAdd, Nat.reduceLeDiff, Int.reduceBEq, Int.reduceBNe, Int.reduceLT, Int.reduceLE, Int.reduceGT, Int.reduceGE, Nat.reduceDiv, Nat.reduceMul, h5, h6, cc, b0, b1, b2]
        exact ⟨_, rfl, zeroIs⟩
    · rw [b0, b1] at hr
      subst hr
      simp only [pf22, ↓wpre, wset, wcore, ne_eq, if_true, if_false, exists_eq_left', true_implies, false_implies, exists_const, exists_eq_right, binA, intA, loadA, storeA, pickC, setAt, mapO, argsE, X.isC, resA, oneA, unA, boundA, eqiA, eqsA, fillA, fillE, ASt.fz, strA, Nat.reduceEqDiff, Nat.reduceLT, ↓reduceIte, reduceCtorEq, Nat.reduceAdd, Nat.reduceLeDiff, Int.reduceBEq, Int.reduceBNe, Int.reduceLT, Int.reduceLE, Int.reduceGT, Int.reduceGE, Nat.reduceDiv, Nat.reduceMul, h5, h6, cc, b0, b1]
      exact ⟨_, rfl, zeroIs⟩
  · rw [b0] at hr
    subst hr
    simp only [pf22, ↓wpre, wset, wcore, ne_eq, if_true, if_false, exists_eq_left', true_implies, false_implies, exists_const, exists_eq_right, binA, intA, loadA, storeA, pickC, setAt, mapO, argsE, X.isC, resA, oneA, unA, boundA, eqiA, eqsA, fillA, fillE, ASt.fz, strA, Nat.reduceEqDiff, Nat.reduceLT, ↓reduceIte, reduceCtorEq, Nat.reduceAdd, Nat.reduceLeDiff, Int.reduceBEq, Int.reduceBNe, Int.reduceLT, Int.reduceLE, Int.reduceGT, Int.reduceGE, Nat.reduceDiv, Nat.reduceMul, h5, h6, cc, b0]
    exact ⟨_, rfl, zeroIs⟩
end Go.Proofs.Eng
