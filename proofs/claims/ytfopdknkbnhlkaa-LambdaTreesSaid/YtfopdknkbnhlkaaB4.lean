/- B4: what functions of the program return. No conditions beyond those in the theorems. -/
import Derived.Test.YtfopdknkbnhlkaaB3
set_option linter.all false
set_option linter.deprecated false
set_option linter.unnecessarySimpa false
set_option linter.unusedVariables false
set_option linter.unusedSimpArgs false
set_option linter.defProp false
namespace Go.Proofs.Eng
open Go Go.Proofs
set_option maxRecDepth 100000
theorem whole_sh (gl : ByteArray → Bool) (ci mi : Nat) (fz : Bool) (es : List (AV × AV)) (hS : MapSet es gl) {e : Ex} {a : AV} {H0 : List AObj} {T : List Nat} (h : e.Is a) (hc0 : H0[ci]? = some (.cells fz (tabL ++ [.mp mi]))) (hm0 : H0[mi]? = some (.map es)) :
    Sh md pfs 40 [.ptr ci 0, a] ⟨H0, T⟩ (fun x s' => e.whole gl = 0 ∧ x = .tup [] ∧ More H0 s') (fun x s' => e.whole gl ≠ 0 ∧ x = wr (e.whole gl) ∧ More H0 s') := by
  have hmore : ∀ G T, More H0 ⟨H0 ++ G, T⟩ := fun G T => ⟨G, T, rfl⟩
  obtain ⟨c, rfl, l1, l2⟩ := exAgg.cells h
  have l3 : c.take 5 = c := List.take_of_length_le (by omega)
  refine sh_of pf40_is (Nat.le_of_ble_eq_true rfl) ?_
  simp only [Ex.whole]
  rcases (expr_sh gl ci mi fz es hS e (v := 0) (H0 := H0 ++ [AObj.cells false c]) (T := T) h (app_get_of hc0 _) (app_get_of hm0 _)).call rfl with ⟨r, s1, ⟨z1, rfl, G', T', rfl⟩, cr⟩ | ⟨r, s1, ⟨z1, rfl, G', T', rfl⟩, cr⟩
  · rw [z1, if_neg (by decide)]
    cases b2 : decide (e.size > 4096)
    · have b2' : decide (e.size ≤ 4096) = true := by simp at b2 ⊢; omega
      cases b3 : decide (e.deep > 200)
      · have b3' : decide (e.deep ≤ 200) = true := by simp at b3 ⊢; omega
        simp only [pf40, ↓wpre, wset, wcore, ne_eq, if_true, if_false, exists_eq_left', true_implies, false_implies, exists_const, exists_eq_right, binA, intA, loadA, storeA, pickC, setAt, mapO, argsE, X.isC, resA, oneA, unA, boundA, eqiA, eqsA, fillA, fillE, ASt.fz, strA, Nat.reduceEqDiff, Nat.reduceLT, ↓reduceIte, reduceCtorEq, Nat.reduceAdd, Nat.reduceLeDiff, Int.reduceBEq, Int.reduceBNe, Int.reduceLT, Int.reduceLE, Int.reduceGT, Int.reduceGE, Nat.reduceDiv, Nat.reduceMul, List.length_append, List.append_assoc, app_get_len, app_get_add, app_set_len, app_set_add, l1, l3, cr, b2', b3', dem_t]
        exact hmore _ _
      · have b3' : decide (e.deep ≤ 200) = false := by simp at b3 ⊢; omega
        simp only [pf40, ↓wpre, wset, wcore, ne_eq, if_true, if_false, exists_eq_left', true_implies, false_implies, exists_const, exists_eq_right, binA, intA, loadA, storeA, pickC, setAt, mapO, argsE, X.isC, resA, oneA, unA, boundA, eqiA, eqsA, fillA, fillE, ASt.fz, strA, Nat.reduceEqDiff, Nat.reduceLT, ↓reduceIte, reduceCtorEq, Nat.reduceAdd, Nat.reduceLeDiff, Int.reduceBEq, Int.reduceBNe, Int.reduceLT, Int.reduceLE, Int.reduceGT, Int.reduceGE, Nat.reduceDiv, Nat.reduceMul, List.length_append, List.append_assoc, app_get_len, app_get_add, app_set_len, app_set_add, l1, l3, cr, b2', b3', dem_t, dem_f, wrPure]
        exact ⟨by decide, hmore _ _⟩
    · have b2' : decide (e.size ≤ 4096) = false := by simp at b2 ⊢; omega
      simp only [pf40, ↓wpre, wset, wcore, ne_eq, if_true, if_false, exists_eq_left', true_implies, false_implies, exists_const, exists_eq_right, binA, intA, loadA, storeA, pickC, setAt, mapO, argsE, X.isC, resA, oneA, unA, boundA, eqiA, eqsA, fillA, fillE, ASt.fz, strA, Nat.reduceEqDiff, Nat.reduceLT, ↓reduceIte, reduceCtorEq, Nat.reduceAdd, Nat.reduceLeDiff, Int.reduceBEq, Int.reduceBNe, Int.reduceLT, Int.reduceLE, Int.reduceGT, Int.reduceGE, Nat.reduceDiv, Nat.reduceMul, List.length_append, List.append_assoc, app_get_len, app_get_add, app_set_len, app_set_add, l1, l3, cr, b2', dem_t, dem_f, wrPure]
      exact ⟨by decide, hmore _ _⟩
  · rw [if_pos (by simpa using z1)]
    simp only [pf40, ↓wpre, wset, wcore, ne_eq, if_true, if_false, exists_eq_left', true_implies, false_implies, exists_const, exists_eq_right, binA, intA, loadA, storeA, pickC, setAt, mapO, argsE, X.isC, resA, oneA, unA, boundA, eqiA, eqsA, fillA, fillE, ASt.fz, strA, Nat.reduceEqDiff, Nat.reduceLT, ↓reduceIte, reduceCtorEq, Nat.reduceAdd, Nat.reduceLeDiff, Int.reduceBEq, Int.reduceBNe, Int.reduceLT, Int.reduceLE, Int.reduceGT, Int.reduceGE, Nat.reduceDiv, Nat.reduceMul, List.length_append, List.append_assoc, app_get_len, app_get_add, app_set_len, app_set_add, l1, l3, cr, wrPure]
    exact ⟨z1, hmore _ _⟩
theorem leave_cons {call : Oracle} {res : List PR} {tm : List AV} {d : FuncId × List AV} {ds : List (FuncId × List AV)} {s : ASt} {p : Option AV} : leaveA call md pfs res ⟨tm, d :: ds, s⟩ p = match unwindA call md pfs (d :: ds) p s with
    | some (none, s) => (resA tm s res).map fun l => (.ret (oneA l), s)
    | some (some v, s) => some (.pan v, s)
    | none => none := by cases p <;> rfl
theorem unw_none {call : Oracle} {i : Nat} {s : ASt} : unwindA call md pfs [(62, [.ptr i 0])] none s = some (none, s) := by
  simp only [unwindA, pf62_is, pf62, rcOf, List.length_cons, List.length_nil, Nat.zero_add, Nat.reduceSub, List.replicate_succ, List.replicate_zero, List.cons_append, List.nil_append, execR, stepsR, stepA, opA, evX, put, wantedA, List.getElem?_cons_zero, List.getElem?_cons_succ, List.set_cons_zero, List.set_cons_succ, Option.map_some, eqiA, X.isC, if_true, Bool.xor_true, Bool.not_true, resA, List.isEmpty_nil, Option.isSome_some, Bool.and_true, rcEnd]
theorem unw_some {call : Oracle} {i : Nat} {c x : Int} {H : List AObj} {T : List Nat} (h : H[i]? = some (.cells false [.int x])) : unwindA call md pfs [(62, [.ptr i 0])] (some (wr c)) ⟨H, T⟩ = some (none, ⟨(H ++ [AObj.cells false [.int c]]).set i (.cells false [.int c]), T⟩) := by
  have h2 := app_get_of h [AObj.cells false [.int c]]
  simp only [unwindA, pf62_is, pf62, rcOf, wr, List.length_cons, List.length_nil, Nat.zero_add, Nat.reduceSub, List.replicate_succ, List.replicate_zero, List.cons_append, List.nil_append, execR, stepsR, stepA, opA, evX, put, wantedA, List.getElem?_cons_zero, List.getElem?_cons_succ, List.set_cons_zero, List.set_cons_succ, Option.map_some, eqiA, X.isC, if_true, Bool.xor_true, Bool.not_true, Bool.not_false, resA, List.isEmpty_nil, Option.isSome_some, Bool.and_true, rcEnd, unA, Option.bind_some, storeA, loadA, pickC, List.getElem?_concat_length, set_concat, cells_agg, cells_v, setAt, List.take_zero, List.drop_zero, List.all_cons, List.all_nil, onec_v, and_self, Nat.le_refl, h2, List.drop_succ_cons, List.append_nil, List.head?_cons, List.drop_nil, Bool.true_and, Bool.xor_false, Nat.add_zero, Bool.false_eq_true, if_false]
theorem caught_sh {g : FuncId} {caps : List AV} (hg : md g = .shared) {H0 : List AObj} {T : List Nat} {PR PP : AV → ASt → Prop} (h : Sh md pfs g caps ⟨H0 ++ [AObj.cells false [.int 0]], T⟩ PR PP) (hPR : ∀ v s, PR v s → s.H[H0.length]? = some (.cells false [.int 0])) (hPP : ∀ v s, PP v s → (∃ c, v = wr c) ∧ s.H[H0.length]? = some (.cells false [.int 0])) :
    Sh md pfs 35 [.fn g caps] ⟨H0, T⟩ (fun v s2 => (∃ u s1, PR u s1 ∧ v = .int 0 ∧ s2 = ⟨s1.H.set H0.length (.cells false [.int 0]), s1.T⟩) ∨ (∃ c s1, PP (wr c) s1 ∧ v = .int c ∧ s2 = ⟨(s1.H ++ [AObj.cells false [.int c]]).set H0.length (.cells false [.int c]), s1.T⟩)) fun _ _ => False := by
  have key := run_of_LW (md := md) pf35_is (args := [.fn g caps]) (s := ⟨H0, T⟩) (P := fun out s2 => (∃ u s1, PR u s1 ∧ out = .ret (.int 0) ∧ s2 = ⟨s1.H.set H0.length (.cells false [.int 0]), s1.T⟩) ∨ (∃ c s1, PP (wr c) s1 ∧ out = .ret (.int c) ∧ s2 = ⟨(s1.H ++ [AObj.cells false [.int c]]).set H0.length (.cells false [.int c]), s1.T⟩)) (Nat.le_of_ble_eq_true rfl) (by
    rcases h.call hg with ⟨u, s1, hu, hc⟩ | ⟨u, s1, hu, hc⟩
    · have hH := hPR u s1 hu
      obtain ⟨H1, T1⟩ := s1
      have hlt := lt_of_get hH
      simp only at hlt hH
      have hset : (H1.set H0.length (.cells false [.int 0]))[H0.length]? = some (.cells false [.int 0]) := by simp [hlt]
      simp only [pf35, ↓wpre, wset, wcore, ne_eq, if_true, if_false, exists_eq_left', true_implies, false_implies, exists_const, exists_eq_right, binA, intA, loadA, storeA, pickC, setAt, mapO, argsE, X.isC, resA, oneA, unA, boundA, eqiA, eqsA, fillA, fillE, ASt.fz, strA, Nat.reduceEqDiff, Nat.reduceLT, ↓reduceIte, reduceCtorEq, Nat.reduceAdd, Nat.reduceLeDiff, Int.reduceBEq, Int.reduceBNe, Int.reduceLT, Int.reduceLE, Int.reduceGT, Int.reduceGE, Nat.reduceDiv, Nat.reduceMul, hc, hH, LW_ret, leave_cons, unw_none, hset]
      exact .inl ⟨u, _, hu, rfl⟩
    · obtain ⟨⟨c, rfl⟩, hH⟩ := hPP u s1 hu
      obtain ⟨H1, T1⟩ := s1
      have hlt := lt_of_get hH
      simp only at hlt hH
      have hset : ((H1 ++ [AObj.cells false [.int c]]).set H0.length (.cells false [.int c]))[H0.length]? = some (.cells false [.int c]) := List.getElem?_set_self (by rw [List.length_append]; omega)
      simp only [pf35, ↓wpre, wset, wcore, ne_eq, if_true, if_false, exists_eq_left', true_implies, false_implies, exists_const, exists_eq_right, binA, intA, loadA, storeA, pickC, setAt, mapO, argsE, X.isC, resA, oneA, unA, boundA, eqiA, eqsA, fillA, fillE, ASt.fz, strA, Nat.reduceEqDiff, Nat.reduceLT, ↓reduceIte, reduceCtorEq, Nat.reduceAdd, Nat.reduceLeDiff, Int.reduceBEq, Int.reduceBNe, Int.reduceLT, Int.reduceLE, Int.reduceGT, Int.reduceGE, Nat.reduceDiv, Nat.reduceMul, hc, hH, LW_pan, leave_cons, unw_some hH, hset]
      exact .inr ⟨c, _, hu, rfl, rfl⟩)
  obtain ⟨out, s2, hr, ⟨u, s1, h1, rfl, rfl⟩ | ⟨c, s1, h1, rfl, rfl⟩⟩ := key
  · refine ⟨_, _, .ret (.int 0), hr, by simp only [Outc.purify, purify_pure (n := 19) pv_v, Option.map_some], .inl ⟨u, s1, h1, rfl, ?_⟩⟩
    simp only [Outc.frz, fr_pure pv_v]
  · refine ⟨_, _, .ret (.int c), hr, by simp only [Outc.purify, purify_pure (n := 19) pv_v, Option.map_some], .inr ⟨c, s1, h1, rfl, ?_⟩⟩
    simp only [Outc.frz, fr_pure pv_v]
end Go.Proofs.Eng
