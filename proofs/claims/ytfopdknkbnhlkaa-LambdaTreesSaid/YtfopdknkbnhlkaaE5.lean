/- E5: what functions of the program return. No conditions beyond those in the theorems. -/
import Derived.Test.YtfopdknkbnhlkaaE4
set_option linter.all false
set_option linter.deprecated false
set_option linter.unnecessarySimpa false
set_option linter.unusedVariables false
set_option linter.unusedSimpArgs false
set_option linter.defProp false
namespace Go.Proofs.Eng
open Go Go.Proofs
set_option maxRecDepth 100000
set_option maxHeartbeats 4000000
theorem red_ret {k i : Int} {n : ByteArray} {s : List Int} {kids : List Ex} {a : AV} (hk : k = 2 ∨ k = 4 ∨ k = 7 ∨ k = 9 ∨ k = 10) (h : (Ex.mk k i n s kids).Is a) (hw : (Ex.mk k i n s kids).wf) (hd : 64 * (Ex.mk k i n s kids).dep ≤ B62) : Out md pfs 81 [a] (RedR (Ex.mk k i n s kids)) (RedP (Ex.mk k i n s kids)) := by
  rcases hk with rfl | rfl | rfl | hk
  · exact red2 h hw hd
  · exact red4 h hw hd
  · exact red7 h hw hd
  · exact red9 hk h hw
mutual
/-- The next step of what is no value. -/
def Ex.step (gs : List Gl) : Ex → Except Int Ex
  | .mk k i n s kids =>
    if k = 0 then .error 24 else if k = 11 then .error 30
    else if k = 5 then (match gfind gs n with | some e => .ok e | none => .error 9)
    else match stepL gs (if k = 4 ∨ k = 7 then 1 else kids.length) kids with
      | some (.ok kids') => .ok (.mk k i n s kids')
      | some (.error c) => .error c
      | none => (Ex.mk k i n s kids).red
def stepL (gs : List Gl) : Nat → List Ex → Option (Except Int (List Ex))
  | _, [] => none
  | m, e :: es => if m = 0 then none else if e.val = true then (match stepL gs (m - 1) es with
      | some (.ok l) => some (.ok (e :: l))
      | r => r) else (match Ex.step gs e with
      | .ok x => some (.ok (x :: es))
      | .error c => some (.error c))
end
theorem stepL_none (gs : List Gl) : ∀ (m : Nat) (l : List Ex), (∀ x ∈ l.take m, x.val = true) → stepL gs m l = none
  | m, [], _ => by simp [stepL]
  | 0, e :: es, _ => by simp [stepL]
  | m + 1, e :: es, h => by
    have h1 : e.val = true := h e (by simp)
    have h2 := stepL_none gs m es fun x hx => h x (by simp [hx])
    simp [stepL, h1, h2]
theorem stepL_hit (gs : List Gl) : ∀ (m j : Nat) (l : List Ex) (x : Ex), j < m → l[j]? = some x → x.val = false → (∀ y ∈ l.take j, y.val = true) → stepL gs m l = match x.step gs with
    | .ok x' => some (.ok (l.set j x'))
    | .error c => some (.error c)
  | m, j, [], x, _, h, _, _ => by simp at h
  | 0, j, _ :: _, _, h, _, _, _ => by omega
  | m + 1, 0, e :: es, x, _, h, hv, _ => by
    simp at h; subst h
    simp only [stepL, hv]
    cases Ex.step gs e <;> simp
  | m + 1, j + 1, e :: es, x, hj, h, hv, hall => by
    have h1 : e.val = true := hall e (by simp)
    have ih := stepL_hit gs m j es x (by omega) (by simpa using h) hv (fun y hy => hall y (by simp [hy]))
    simp only [stepL, h1, Nat.add_sub_cancel]
    rw [ih]
    cases Ex.step gs x <;> simp
def StepR (gs : List Gl) (e : Ex) (v : AV) : Prop := ∃ e', e.step gs = .ok e' ∧ e'.Is v
def StepP (gs : List Gl) (e : Ex) (v : AV) : Prop := ∃ c, e.step gs = .error c ∧ v = wr c
theorem val_kids {k i : Int} {n : ByteArray} {s : List Int} {kids : List Ex} (h : (Ex.mk k i n s kids).val = false) : (k ≠ 1 ∧ k ≠ 6) ∧ ((k = 3 ∨ k = 8) → ∃ x ∈ kids, x.val = false) := by
  simp only [Ex.val] at h
  by_cases h1 : k = 1 ∨ k = 6
  · rw [if_pos h1] at h; cases h
  · refine ⟨by omega, fun h3 => ?_⟩
    rw [if_neg h1, if_pos h3, valL_all, List.all_eq_false] at h
    obtain ⟨x, hx, hv⟩ := h
    exact ⟨x, hx, by simpa using hv⟩
theorem step_ret {p : Pr} {pa : AV} (hp : p.Is pa) (e : Ex) : ∀ {a}, e.Is a → e.wf → 64 * e.dep ≤ B62 → e.val = false → Out md pfs 51 [pa, a] (StepR p.gs e) (StepP p.gs e) := by
  obtain ⟨gas, tg, c, rfl, h1, h2, h3, h4, h5, h6, h7, h8, h9, h10⟩ := id hp
  induction e using Ex.ind with
  | h k i n s kids ih =>
  intro a h hw hd hv
  have hep := exPure _ h
  obtain ⟨t1, t2, kas, rfl, g1, g2, g3, g4, g5, g6⟩ := id h.opn
  have hw' := Ex.wf_iff.1 hw
  have hf := fm_facts hw'.1
  refine out_of pf51_is (Nat.le_of_ble_eq_true rfl) ?_
  by_cases k0 : k = 0
  · subst k0
    simp only [pf51, ↓wpre, wset, wcore, ne_eq, if_true, if_false, exists_eq_left', true_implies, false_implies, exists_const, exists_eq_right, binA, intA, loadA, storeA, pickC, setAt, mapO, argsE, X.isC, resA, oneA, unA, boundA, eqiA, eqsA, fillA, fillE, ASt.fz, strA, Nat.reduceEqDiff, Nat.reduceLT, ↓reduceIte, reduceCtorEq, Nat.reduceAdd, Nat.reduceLeDiff, Int.reduceBEq, Int.reduceBNe, Int.reduceLT, Int.reduceLE, Int.reduceGT, Int.reduceGE, Nat.reduceDiv, Nat.reduceMul, h5, h6]
    exact ⟨24, by simp [Ex.step], rfl⟩
  by_cases k11 : k = 11
  · subst k11
    simp only [pf51, ↓wpre, wset, wcore, ne_eq, if_true, if_false, exists_eq_left', true_implies, false_implies, exists_const, exists_eq_right, binA, intA, loadA, storeA, pickC, setAt, mapO, argsE, X.isC, resA, oneA, unA, boundA, eqiA, eqsA, fillA, fillE, ASt.fz, strA, Nat.reduceEqDiff, Nat.reduceLT, ↓reduceIte, reduceCtorEq, Nat.reduceAdd, Nat.reduceLeDiff, Int.reduceBEq, Int.reduceBNe, Int.reduceLT, Int.reduceLE, Int.reduceGT, Int.reduceGE, Nat.reduceDiv, Nat.reduceMul, h5, h6]
    exact ⟨30, by simp [Ex.step], rfl⟩
  by_cases k5 : k = 5
  · subst k5
    rcases (find_ret hp n).call2 rfl (by simp [pvs_cons, pvs_nil, pv_v, prPure hp]) with ⟨v, ⟨e', q1, q2⟩, hc⟩ | ⟨v, ⟨q1, rfl⟩, hc⟩
    · obtain ⟨cv, rfl, v1, v2⟩ := exAgg.cells q2
      have v3 : cv.take 5 = cv := List.take_of_length_le (by omega)
      simp only [pf51, ↓wpre, wset, wcore, ne_eq, if_true, if_false, exists_eq_left', true_implies, false_implies, exists_const, exists_eq_right, binA, intA, loadA, storeA, pickC, setAt, mapO, argsE, X.isC, resA, oneA, unA, boundA, eqiA, eqsA, fillA, fillE, ASt.fz, strA, Nat.reduceEqDiff, Nat.reduceLT, ↓reduceIte, reduceCtorEq, Nat.reduceAdd, Nat.reduceLeDiff, Int.reduceBEq, Int.reduceBNe, Int.reduceLT, Int.reduceLE, Int.reduceGT, Int.reduceGE, Nat.reduceDiv, Nat.reduceMul, h5, h6, hc, v1, v2, v3, exPure _ q2]
      exact ⟨e', by simp [Ex.step, q1], q2⟩
    · simp only [pf51, ↓wpre, wset, wcore, ne_eq, if_true, if_false, exists_eq_left', true_implies, false_implies, exists_const, exists_eq_right, binA, intA, loadA, storeA, pickC, setAt, mapO, argsE, X.isC, resA, oneA, unA, boundA, eqiA, eqsA, fillA, fillE, ASt.fz, strA, Nat.reduceEqDiff, Nat.reduceLT, ↓reduceIte, reduceCtorEq, Nat.reduceAdd, Nat.reduceLeDiff, Int.reduceBEq, Int.reduceBNe, Int.reduceLT, Int.reduceLE, Int.reduceGT, Int.reduceGE, Nat.reduceDiv, Nat.reduceMul, h5, h6, hc, wrPure]
      exact ⟨9, by simp [Ex.step, q1], rfl⟩
  have hall := g6.all exAgg
  have hkl := g6.len
  have hclone : True := trivial
  by_cases hk4 : k = 4 ∨ k = 7
  · have hm : 1 ≤ kas.length := by omega
    have hm' : (1 : Int) ≤ kas.length := by omega
    have hallt : ((kas.take 1).all fun x => x.cells.length == 5) = true := (g6.take 1).all exAgg
    have htl : (kas.take 1).length = 1 := by rw [List.length_take]; omega
    obtain ⟨tv, htv, hsl⟩ := slice_some (l := kas) (t := t2) (lo := 0) (hi := 1) (by omega) hm g2
    rw [List.drop_zero] at hsl
    have hpre : W (run md pfs) md pf51.body ⟨tmE pf51.nt (argsE [.agg (.sl gas tg :: c), .agg [.int k, .int i, .str n, .sl (ints s) t1, .sl kas t2]]), [], ⟨[], []⟩⟩ (RQ pf51.res (StepR p.gs (.mk k i n s kids)) (StepP p.gs (.mk k i n s kids))) () := by
      have x0 : (k == 0) = false := by simpa using k0
      have x5 : (k == 5) = false := by simpa using k5
      have x11 : (k == 11) = false := by simpa using k11
      rcases hk4 with rfl | rfl
      · simp only [pf51, ↓wpre, wset, wcore, ne_eq, if_true, if_false, exists_eq_left', true_implies, false_implies, exists_const, exists_eq_right, binA, intA, loadA, storeA, pickC, setAt, mapO, argsE, X.isC, resA, oneA, unA, boundA, eqiA, eqsA, fillA, fillE, ASt.fz, strA, Nat.reduceEqDiff, Nat.reduceLT, ↓reduceIte, reduceCtorEq, Nat.reduceAdd, Nat.reduceLeDiff, Int.reduceBEq, Int.reduceBNe, Int.reduceLT, Int.reduceLE, Int.reduceGT, Int.reduceGE, Nat.reduceDiv, Nat.reduceMul, h5, h6, x0, x5, x11, hm', hsl, htl, hall]
        refine W_loopE (fun j => kas.length - j) (fun j E H T => ∃ G, H = .cells false (.sl gas tg :: c) :: .cells false [.int 4, .int i, .str n, .sl (ints s) t1, .sl kas t2] :: .cells false [.int 0, .int 0, .str ⟨#[]⟩, .sl [] .nil, .sl [] .nil] :: G ∧
          E 2 = .ptr 0 0 ∧ E 3 = .ptr 1 0 ∧ E 4 = .ptr 2 0 ∧ E 39 = .sl (kas.take 1) tv ∧ E 40 = .int 1 ∧ E 41 = .int j ∧ j ≤ 1 ∧ ∀ y ∈ kids.take j, y.val = true) ?_ 0 ⟨[], rfl, rfl, rfl, rfl, rfl, rfl, rfl, Nat.zero_le _, by simp⟩
        rintro j E H T ⟨G, rfl, e2, e3, e4, e39, e40, e41, hj, hvs⟩
        rcases Nat.lt_or_ge j 1 with hlt | hge
        · have hjk : j < kas.length := by omega
          obtain ⟨y, cy, d0, d1, d3, d4, d5, d6, d7, d8⟩ := g6.get exAgg hjk
          have d4' : (kas.take 1)[j]? = some (.agg cy) := by rw [List.getElem?_take_of_lt hlt]; exact d4
          have hdec : decide ((j : Int) < 1) = true := by simp; omega
          obtain ⟨_, rfl, cv⟩ := (isValue_ret y d8).call rfl (by simp [pvs_cons, pvs_nil, exPure _ d8])
          cases hyv : y.val
          · have hit := stepL_hit p.gs 1 j kids y hlt d0 hyv hvs
            have hwy := hw'.2 y d3
            have hdy := dep_kid d3
            have hd' : 64 * (y.dep : Int) ≤ B62 := by simp only [Ex.dep] at hd; omega
            have hst : (Ex.mk 4 i n s kids).step p.gs = match y.step p.gs with | .ok x' => .ok (.mk 4 i n s (kids.set j x')) | .error c => .error c := by
              simp only [Ex.step]
              rw [if_neg k0, if_neg k11, if_neg k5, if_pos (by simp), hit]
              cases y.step p.gs <;> rfl
            have hne : ∃ a0 ar, kas = a0 :: ar := by
              cases kas with
              | nil => simp at hjk
              | cons a0 ar => exact ⟨a0, ar, rfl⟩
            have hcl : ∀ s0 : ASt, clnA s0 5 true (.sl kas t2) kas = some (.val (.bs s0.H.length 0 kas.length 5 true) { s0 with H := s0.H ++ [.cells false (flat kas)] }) := fun s0 => clnA_ne (by obtain ⟨a0, ar, e⟩ := hne; rw [e]; simp) (by rw [hkl]; omega) (g6.all2 exAgg)
            rcases (ih y d3 d8 hwy hd' hyv).call2 rfl (by simp [pvs_cons, pvs_nil, prPure hp, exPure _ d8]) with ⟨v, ⟨x', q1, q2⟩, hc⟩ | ⟨v, ⟨cd, q1, rfl⟩, hc⟩
            · rw [q1] at hst
              obtain ⟨cx, rfl, x1, x2⟩ := exAgg.cells q2
              have hrs := rows_set (g6.rows exAgg) hjk x1
              have hle : j * 5 + 5 ≤ (flat kas).length := by rw [rows_len (g6.rows exAgg)]; omega
              unfold setAt at hrs
              rw [x1] at hrs
              have hlt' : (j : Int) < kas.length := by omega
              have hset := LIs.set j g6 q2
              simp only [↓wpre, wset, wcore, ne_eq, if_true, if_false, exists_eq_left', true_implies, false_implies, exists_const, exists_eq_right, binA, intA, loadA, storeA, pickC, setAt, mapO, argsE, X.isC, resA, oneA, unA, boundA, eqiA, eqsA, fillA, fillE, ASt.fz, strA, Nat.reduceEqDiff, Nat.reduceLT, ↓reduceIte, reduceCtorEq, Nat.reduceAdd, Nat.reduceLeDiff, Int.reduceBEq, Int.reduceBNe, Int.reduceLT, Int.reduceLE, Int.reduceGT, Int.reduceGE, Nat.reduceDiv, Nat.reduceMul, e2, e3, e4, e39, e40, e41, hdec, d4', d5, d6, d7, hallt, cv, hyv, h5, h6, hc, x1, x2, hlt', hle, hrs, hcl, List.length_append, List.append_assoc, app_get_len, app_get_add, app_set_len, app_set_add]
              have hpz := purify_bs exAgg (n := 17) (s := ⟨.cells false (.sl gas tg :: c) :: .cells false [.int 4, .int i, .str n, .sl (ints s) t1, .sl kas t2] :: .cells false [.int 4, .int i, .str n, .sl (ints s) t1, .bs (G.length + 2 + 1 + 1 + 1) 0 kas.length 5 true] :: (G ++ [.cells false cy, .cells false [.int 4, .int i, .str n, .sl (ints s) t1, .bs (G.length + 2 + 1 + 1 + 1) 0 kas.length 5 true], .cells false (flat (kas.set j (.agg cx)))]), T⟩) (i := G.length + 2 + 1 + 1 + 1) (fz := false) hset (by simp only [List.getElem?_cons_succ, app_get_add]; rfl) (m := kas.length) (by simp)
              exact ⟨_, pz_ex g1 hpz, .mk 4 i n s (kids.set j x'), hst, Ex.Is.mk g1 rfl g3 g4 (by simpa using g5) hset⟩
            · rw [q1] at hst
              simp only [↓wpre, wset, wcore, ne_eq, if_true, if_false, exists_eq_left', true_implies, false_implies, exists_const, exists_eq_right, binA, intA, loadA, storeA, pickC, setAt, mapO, argsE, X.isC, resA, oneA, unA, boundA, eqiA, eqsA, fillA, fillE, ASt.fz, strA, Nat.reduceEqDiff, Nat.reduceLT, ↓reduceIte, reduceCtorEq, Nat.reduceAdd, Nat.reduceLeDiff, Int.reduceBEq, Int.reduceBNe, Int.reduceLT, Int.reduceLE, Int.reduceGT, Int.reduceGE, Nat.reduceDiv, Nat.reduceMul, e2, e3, e4, e39, e40, e41, hdec, d4', d5, d6, d7, hallt, cv, hyv, h5, h6, hc, hcl, wrPure, List.length_append, List.append_assoc, app_get_len, app_get_add, app_set_len, app_set_add]
              exact ⟨rfl, cd, hst, rfl⟩
          · simp only [↓wpre, wset, wcore, ne_eq, if_true, if_false, exists_eq_left', true_implies, false_implies, exists_const, exists_eq_right, binA, intA, loadA, storeA, pickC, setAt, mapO, argsE, X.isC, resA, oneA, unA, boundA, eqiA, eqsA, fillA, fillE, ASt.fz, strA, Nat.reduceEqDiff, Nat.reduceLT, ↓reduceIte, reduceCtorEq, Nat.reduceAdd, Nat.reduceLeDiff, Int.reduceBEq, Int.reduceBNe, Int.reduceLT, Int.reduceLE, Int.reduceGT, Int.reduceGE, Nat.reduceDiv, Nat.reduceMul, e2, e3, e4, e39, e40, e41, hdec, d4', d5, d6, d7, hallt, cv, hyv]
            exact EQ_in ⟨j + 1, by omega, _, rfl, e2, e3, e4, e39, e40, next_ixv (by omega), by omega, by
              rw [List.take_add_one, d0]; intro z hz; simp at hz; rcases hz with hz | rfl; exact hvs z hz; exact hyv⟩
        · have hdec : decide ((j : Int) < 1) = false := by simp; omega
          have hjm : j = 1 := by omega
          subst hjm
          have hst : (Ex.mk 4 i n s kids).step p.gs = (Ex.mk 4 i n s kids).red := by
            simp only [Ex.step]
            rw [if_neg k0, if_neg k11, if_neg k5, if_pos (by simp), stepL_none _ _ _ hvs]
          have hkk : (4 : Int) = 2 ∨ (4 : Int) = 4 ∨ (4 : Int) = 7 ∨ (4 : Int) = 9 ∨ (4 : Int) = 10 := by
            omega
          rcases (red_ret hkk h hw hd).call2 rfl (by simp [pvs_cons, pvs_nil, hep]) with ⟨v, ⟨x', q1, q2⟩, hc⟩ | ⟨v, ⟨cd, q1, rfl⟩, hc⟩
          · obtain ⟨cx, rfl, x1, x2⟩ := exAgg.cells q2
            have x3 : cx.take 5 = cx := List.take_of_length_le (by omega)
            simp only [↓wpre, wset, wcore, ne_eq, if_true, if_false, exists_eq_left', true_implies, false_implies, exists_const, exists_eq_right, binA, intA, loadA, storeA, pickC, setAt, mapO, argsE, X.isC, resA, oneA, unA, boundA, eqiA, eqsA, fillA, fillE, ASt.fz, strA, Nat.reduceEqDiff, Nat.reduceLT, ↓reduceIte, reduceCtorEq, Nat.reduceAdd, Nat.reduceLeDiff, Int.reduceBEq, Int.reduceBNe, Int.reduceLT, Int.reduceLE, Int.reduceGT, Int.reduceGE, Nat.reduceDiv, Nat.reduceMul, e2, e3, e4, e39, e40, e41, hdec, hc, x1, x2, x3, exPure _ q2]
            exact ⟨x', by rw [hst, q1], q2⟩
          · simp only [↓wpre, wset, wcore, ne_eq, if_true, if_false, exists_eq_left', true_implies, false_implies, exists_const, exists_eq_right, binA, intA, loadA, storeA, pickC, setAt, mapO, argsE, X.isC, resA, oneA, unA, boundA, eqiA, eqsA, fillA, fillE, ASt.fz, strA, Nat.reduceEqDiff, Nat.reduceLT, ↓reduceIte, reduceCtorEq, Nat.reduceAdd, Nat.reduceLeDiff, Int.reduceBEq, Int.reduceBNe, Int.reduceLT, Int.reduceLE, Int.reduceGT, Int.reduceGE, Nat.reduceDiv, Nat.reduceMul, e2, e3, e4, e39, e40, e41, hdec, hc, wrPure]
            exact ⟨cd, by rw [hst, q1], rfl⟩
      · simp only [pf51, ↓wpre, wset, wcore, ne_eq, if_true, if_false, exists_eq_left', true_implies, false_implies, exists_const, exists_eq_right, binA, intA, loadA, storeA, pickC, setAt, mapO, argsE, X.isC, resA, oneA, unA, boundA, eqiA, eqsA, fillA, fillE, ASt.fz, strA, Nat.reduceEqDiff, Nat.reduceLT, ↓reduceIte, reduceCtorEq, Nat.reduceAdd, Nat.reduceLeDiff, Int.reduceBEq, Int.reduceBNe, Int.reduceLT, Int.reduceLE, Int.reduceGT, Int.reduceGE, Nat.reduceDiv, Nat.reduceMul, h5, h6, x0, x5, x11, hm', hsl, htl, hall]
        refine W_loopE (fun j => kas.length - j) (fun j E H T => ∃ G, H = .cells false (.sl gas tg :: c) :: .cells false [.int 7, .int i, .str n, .sl (ints s) t1, .sl kas t2] :: .cells false [.int 0, .int 0, .str ⟨#[]⟩, .sl [] .nil, .sl [] .nil] :: G ∧
          E 2 = .ptr 0 0 ∧ E 3 = .ptr 1 0 ∧ E 4 = .ptr 2 0 ∧ E 39 = .sl (kas.take 1) tv ∧ E 40 = .int 1 ∧ E 41 = .int j ∧ j ≤ 1 ∧ ∀ y ∈ kids.take j, y.val = true) ?_ 0 ⟨[], rfl, rfl, rfl, rfl, rfl, rfl, rfl, Nat.zero_le _, by simp⟩
        rintro j E H T ⟨G, rfl, e2, e3, e4, e39, e40, e41, hj, hvs⟩
        rcases Nat.lt_or_ge j 1 with hlt | hge
        · have hjk : j < kas.length := by omega
          obtain ⟨y, cy, d0, d1, d3, d4, d5, d6, d7, d8⟩ := g6.get exAgg hjk
          have d4' : (kas.take 1)[j]? = some (.agg cy) := by rw [List.getElem?_take_of_lt hlt]; exact d4
          have hdec : decide ((j : Int) < 1) = true := by simp; omega
          obtain ⟨_, rfl, cv⟩ := (isValue_ret y d8).call rfl (by simp [pvs_cons, pvs_nil, exPure _ d8])
          cases hyv : y.val
          · have hit := stepL_hit p.gs 1 j kids y hlt d0 hyv hvs
            have hwy := hw'.2 y d3
            have hdy := dep_kid d3
            have hd' : 64 * (y.dep : Int) ≤ B62 := by simp only [Ex.dep] at hd; omega
            have hst : (Ex.mk 7 i n s kids).step p.gs = match y.step p.gs with | .ok x' => .ok (.mk 7 i n s (kids.set j x')) | .error c => .error c := by
              simp only [Ex.step]
              rw [if_neg k0, if_neg k11, if_neg k5, if_pos (by simp), hit]
              cases y.step p.gs <;> rfl
            have hne : ∃ a0 ar, kas = a0 :: ar := by
              cases kas with
              | nil => simp at hjk
              | cons a0 ar => exact ⟨a0, ar, rfl⟩
            have hcl : ∀ s0 : ASt, clnA s0 5 true (.sl kas t2) kas = some (.val (.bs s0.H.length 0 kas.length 5 true) { s0 with H := s0.H ++ [.cells false (flat kas)] }) := fun s0 => clnA_ne (by obtain ⟨a0, ar, e⟩ := hne; rw [e]; simp) (by rw [hkl]; omega) (g6.all2 exAgg)
            rcases (ih y d3 d8 hwy hd' hyv).call2 rfl (by simp [pvs_cons, pvs_nil, prPure hp, exPure _ d8]) with ⟨v, ⟨x', q1, q2⟩, hc⟩ | ⟨v, ⟨cd, q1, rfl⟩, hc⟩
            · rw [q1] at hst
              obtain ⟨cx, rfl, x1, x2⟩ := exAgg.cells q2
              have hrs := rows_set (g6.rows exAgg) hjk x1
              have hle : j * 5 + 5 ≤ (flat kas).length := by rw [rows_len (g6.rows exAgg)]; omega
              unfold setAt at hrs
              rw [x1] at hrs
              have hlt' : (j : Int) < kas.length := by omega
              have hset := LIs.set j g6 q2
              simp only [↓wpre, wset, wcore, ne_eq, if_true, if_false, exists_eq_left', true_implies, false_implies, exists_const, exists_eq_right, binA, intA, loadA, storeA, pickC, setAt, mapO, argsE, X.isC, resA, oneA, unA, boundA, eqiA, eqsA, fillA, fillE, ASt.fz, strA, Nat.reduceEqDiff, Nat.reduceLT, ↓reduceIte, reduceCtorEq, Nat.reduceAdd, Nat.reduceLeDiff, Int.reduceBEq, Int.reduceBNe, Int.reduceLT, Int.reduceLE, Int.reduceGT, Int.reduceGE, Nat.reduceDiv, Nat.reduceMul, e2, e3, e4, e39, e40, e41, hdec, d4', d5, d6, d7, hallt, cv, hyv, h5, h6, hc, x1, x2, hlt', hle, hrs, hcl, List.length_append, List.append_assoc, app_get_len, app_get_add, app_set_len, app_set_add]
              have hpz := purify_bs exAgg (n := 17) (s := ⟨.cells false (.sl gas tg :: c) :: .cells false [.int 7, .int i, .str n, .sl (ints s) t1, .sl kas t2] :: .cells false [.int 7, .int i, .str n, .sl (ints s) t1, .bs (G.length + 2 + 1 + 1 + 1) 0 kas.length 5 true] :: (G ++ [.cells false cy, .cells false [.int 7, .int i, .str n, .sl (ints s) t1, .bs (G.length + 2 + 1 + 1 + 1) 0 kas.length 5 true], .cells false (flat (kas.set j (.agg cx)))]), T⟩) (i := G.length + 2 + 1 + 1 + 1) (fz := false) hset (by simp only [List.getElem?_cons_succ, app_get_add]; rfl) (m := kas.length) (by simp)
              exact ⟨_, pz_ex g1 hpz, .mk 7 i n s (kids.set j x'), hst, Ex.Is.mk g1 rfl g3 g4 (by simpa using g5) hset⟩
            · rw [q1] at hst
              simp only [↓wpre, wset, wcore, ne_eq, if_true, if_false, exists_eq_left', true_implies, false_implies, exists_const, exists_eq_right, binA, intA, loadA, storeA, pickC, setAt, mapO, argsE, X.isC, resA, oneA, unA, boundA, eqiA, eqsA, fillA, fillE, ASt.fz, strA, Nat.reduceEqDiff, Nat.reduceLT, ↓reduceIte, reduceCtorEq, Nat.reduceAdd, Nat.reduceLeDiff, Int.reduceBEq, Int.reduceBNe, Int.reduceLT, Int.reduceLE, Int.reduceGT, Int.reduceGE, Nat.reduceDiv, Nat.reduceMul, e2, e3, e4, e39, e40, e41, hdec, d4', d5, d6, d7, hallt, cv, hyv, h5, h6, hc, hcl, wrPure, List.length_append, List.append_assoc, app_get_len, app_get_add, app_set_len, app_set_add]
              exact ⟨rfl, cd, hst, rfl⟩
          · simp only [↓wpre, wset, wcore, ne_eq, if_true, if_false, exists_eq_left', true_implies, false_implies, exists_const, exists_eq_right, binA, intA, loadA, storeA, pickC, setAt, mapO, argsE, X.isC, resA, oneA, unA, boundA, eqiA, eqsA, fillA, fillE, ASt.fz, strA, Nat.reduceEqDiff, Nat.reduceLT, ↓reduceIte, reduceCtorEq, Nat.reduceAdd, Nat.reduceLeDiff, Int.reduceBEq, Int.reduceBNe, Int.reduceLT, Int.reduceLE, Int.reduceGT, Int.reduceGE, Nat.reduceDiv, Nat.reduceMul, e2, e3, e4, e39, e40, e41, hdec, d4', d5, d6, d7, hallt, cv, hyv]
            exact EQ_in ⟨j + 1, by omega, _, rfl, e2, e3, e4, e39, e40, next_ixv (by omega), by omega, by
              rw [List.take_add_one, d0]; intro z hz; simp at hz; rcases hz with hz | rfl; exact hvs z hz; exact hyv⟩
        · have hdec : decide ((j : Int) < 1) = false := by simp; omega
          have hjm : j = 1 := by omega
          subst hjm
          have hst : (Ex.mk 7 i n s kids).step p.gs = (Ex.mk 7 i n s kids).red := by
            simp only [Ex.step]
            rw [if_neg k0, if_neg k11, if_neg k5, if_pos (by simp), stepL_none _ _ _ hvs]
          have hkk : (7 : Int) = 2 ∨ (7 : Int) = 4 ∨ (7 : Int) = 7 ∨ (7 : Int) = 9 ∨ (7 : Int) = 10 := by
            omega
          rcases (red_ret hkk h hw hd).call2 rfl (by simp [pvs_cons, pvs_nil, hep]) with ⟨v, ⟨x', q1, q2⟩, hc⟩ | ⟨v, ⟨cd, q1, rfl⟩, hc⟩
          · obtain ⟨cx, rfl, x1, x2⟩ := exAgg.cells q2
            have x3 : cx.take 5 = cx := List.take_of_length_le (by omega)
            simp only [↓wpre, wset, wcore, ne_eq, if_true, if_false, exists_eq_left', true_implies, false_implies, exists_const, exists_eq_right, binA, intA, loadA, storeA, pickC, setAt, mapO, argsE, X.isC, resA, oneA, unA, boundA, eqiA, eqsA, fillA, fillE, ASt.fz, strA, Nat.reduceEqDiff, Nat.reduceLT, ↓reduceIte, reduceCtorEq, Nat.reduceAdd, Nat.reduceLeDiff, Int.reduceBEq, Int.reduceBNe, Int.reduceLT, Int.reduceLE, Int.reduceGT, Int.reduceGE, Nat.reduceDiv, Nat.reduceMul, e2, e3, e4, e39, e40, e41, hdec, hc, x1, x2, x3, exPure _ q2]
            exact ⟨x', by rw [hst, q1], q2⟩
          · simp only [↓wpre, wset, wcore, ne_eq, if_true, if_false, exists_eq_left', true_implies, false_implies, exists_const, exists_eq_right, binA, intA, loadA, storeA, pickC, setAt, mapO, argsE, X.isC, resA, oneA, unA, boundA, eqiA, eqsA, fillA, fillE, ASt.fz, strA, Nat.reduceEqDiff, Nat.reduceLT, ↓reduceIte, reduceCtorEq, Nat.reduceAdd, Nat.reduceLeDiff, Int.reduceBEq, Int.reduceBNe, Int.reduceLT, Int.reduceLE, Int.reduceGT, Int.reduceGE, Nat.reduceDiv, Nat.reduceMul, e2, e3, e4, e39, e40, e41, hdec, hc, wrPure]
            exact ⟨cd, by rw [hst, q1], rfl⟩
    exact hpre
  · have x0 : (k == 0) = false := by simpa using k0
    have x5 : (k == 5) = false := by simpa using k5
    have x11 : (k == 11) = false := by simpa using k11
    have x4 : (k == 4) = false := by simp; omega
    have x7 : (k == 7) = false := by simp; omega
    have hallt : ((kas.take kas.length).all fun x => x.cells.length == 5) = true := (g6.take _).all exAgg
    have htl : (kas.take kas.length).length = kas.length := by rw [List.length_take]; omega
    obtain ⟨tv, htv, hsl⟩ := slice_some (l := kas) (t := t2) (lo := 0) (hi := kas.length) (by omega) (Nat.le_refl _) g2
    rw [List.drop_zero] at hsl
    simp only [pf51, ↓wpre, wset, wcore, ne_eq, if_true, if_false, exists_eq_left', true_implies, false_implies, exists_const, exists_eq_right, binA, intA, loadA, storeA, pickC, setAt, mapO, argsE, X.isC, resA, oneA, unA, boundA, eqiA, eqsA, fillA, fillE, ASt.fz, strA, Nat.reduceEqDiff, Nat.reduceLT, ↓reduceIte, reduceCtorEq, Nat.reduceAdd, Nat.reduceLeDiff, Int.reduceBEq, Int.reduceBNe, Int.reduceLT, Int.reduceLE, Int.reduceGT, Int.reduceGE, Nat.reduceDiv, Nat.reduceMul, h5, h6, x0, x5, x11, x4, x7, hsl, htl, hall]
    refine W_loopE (fun j => kas.length - j) (fun j E H T => ∃ G, H = .cells false (.sl gas tg :: c) :: .cells false [.int k, .int i, .str n, .sl (ints s) t1, .sl kas t2] :: .cells false [.int 0, .int 0, .str ⟨#[]⟩, .sl [] .nil, .sl [] .nil] :: G ∧
      E 2 = .ptr 0 0 ∧ E 3 = .ptr 1 0 ∧ E 4 = .ptr 2 0 ∧ E 39 = .sl (kas.take kas.length) tv ∧ E 40 = .int kas.length ∧ E 41 = .int j ∧ j ≤ kas.length ∧ ∀ y ∈ kids.take j, y.val = true) ?_ 0 ⟨[], rfl, rfl, rfl, rfl, rfl, rfl, rfl, Nat.zero_le _, by simp⟩
    rintro j E H T ⟨G, rfl, e2, e3, e4, e39, e40, e41, hj, hvs⟩
    rcases Nat.lt_or_ge j kas.length with hlt | hge
    · have hjk : j < kas.length := by omega
      obtain ⟨y, cy, d0, d1, d3, d4, d5, d6, d7, d8⟩ := g6.get exAgg hjk
      have d4' : (kas.take kas.length)[j]? = some (.agg cy) := by rw [List.getElem?_take_of_lt hlt]; exact d4
      have hdec : decide ((j : Int) < kas.length) = true := by simp; omega
      obtain ⟨_, rfl, cv⟩ := (isValue_ret y d8).call rfl (by simp [pvs_cons, pvs_nil, exPure _ d8])
      cases hyv : y.val
      · have hit := stepL_hit p.gs kas.length j kids y hlt d0 hyv hvs
        have hwy := hw'.2 y d3
        have hdy := dep_kid d3
        have hd' : 64 * (y.dep : Int) ≤ B62 := by simp only [Ex.dep] at hd; omega
        have hst : (Ex.mk k i n s kids).step p.gs = match y.step p.gs with | .ok x' => .ok (.mk k i n s (kids.set j x')) | .error c => .error c := by
          simp only [Ex.step]
          rw [if_neg k0, if_neg k11, if_neg k5, if_neg hk4, ← hkl, hit]
          cases y.step p.gs <;> rfl
        have hne : ∃ a0 ar, kas = a0 :: ar := by
          cases kas with
          | nil => simp at hjk
          | cons a0 ar => exact ⟨a0, ar, rfl⟩
        have hcl : ∀ s0 : ASt, clnA s0 5 true (.sl kas t2) kas = some (.val (.bs s0.H.length 0 kas.length 5 true) { s0 with H := s0.H ++ [.cells false (flat kas)] }) := fun s0 => clnA_ne (by obtain ⟨a0, ar, e⟩ := hne; rw [e]; simp) (by rw [hkl]; omega) (g6.all2 exAgg)
        rcases (ih y d3 d8 hwy hd' hyv).call2 rfl (by simp [pvs_cons, pvs_nil, prPure hp, exPure _ d8]) with ⟨v, ⟨x', q1, q2⟩, hc⟩ | ⟨v, ⟨cd, q1, rfl⟩, hc⟩
        · rw [q1] at hst
          obtain ⟨cx, rfl, x1, x2⟩ := exAgg.cells q2
          have hrs := rows_set (g6.rows exAgg) hjk x1
          have hle : j * 5 + 5 ≤ (flat kas).length := by rw [rows_len (g6.rows exAgg)]; omega
          unfold setAt at hrs
          rw [x1] at hrs
          have hlt' : (j : Int) < kas.length := by omega
          have hset := LIs.set j g6 q2
          simp only [↓wpre, wset, wcore, ne_eq, if_true, if_false, exists_eq_left', true_implies, false_implies, exists_const, exists_eq_right, binA, intA, loadA, storeA, pickC, setAt, mapO, argsE, X.isC, resA, oneA, unA, boundA, eqiA, eqsA, fillA, fillE, ASt.fz, strA, Nat.reduceEqDiff, Nat.reduceLT, ↓reduceIte, reduceCtorEq, Nat.reduceAdd, Nat.reduceLeDiff, Int.reduceBEq, Int.reduceBNe, Int.reduceLT, Int.reduceLE, Int.reduceGT, Int.reduceGE, Nat.reduceDiv, Nat.reduceMul, e2, e3, e4, e39, e40, e41, hdec, d4', d5, d6, d7, hallt, cv, hyv, h5, h6, hc, x1, x2, hlt', hle, hrs, hcl, List.length_append, List.append_assoc, app_get_len, app_get_add, app_set_len, app_set_add]
          have hpz := purify_bs exAgg (n := 17) (s := ⟨.cells false (.sl gas tg :: c) :: .cells false [.int k, .int i, .str n, .sl (ints s) t1, .sl kas t2] :: .cells false [.int k, .int i, .str n, .sl (ints s) t1, .bs (G.length + 2 + 1 + 1 + 1) 0 kas.length 5 true] :: (G ++ [.cells false cy, .cells false [.int k, .int i, .str n, .sl (ints s) t1, .bs (G.length + 2 + 1 + 1 + 1) 0 kas.length 5 true], .cells false (flat (kas.set j (.agg cx)))]), T⟩) (i := G.length + 2 + 1 + 1 + 1) (fz := false) hset (by simp only [List.getElem?_cons_succ, app_get_add]; rfl) (m := kas.length) (by simp)
          exact ⟨_, pz_ex g1 hpz, .mk k i n s (kids.set j x'), hst, Ex.Is.mk g1 rfl g3 g4 (by simpa using g5) hset⟩
        · rw [q1] at hst
          simp only [↓wpre, wset, wcore, ne_eq, if_true, if_false, exists_eq_left', true_implies, false_implies, exists_const, exists_eq_right, binA, intA, loadA, storeA, pickC, setAt, mapO, argsE, X.isC, resA, oneA, unA, boundA, eqiA, eqsA, fillA, fillE, ASt.fz, strA, Nat.reduceEqDiff, Nat.reduceLT, ↓reduceIte, reduceCtorEq, Nat.reduceAdd, Nat.reduceLeDiff, Int.reduceBEq, Int.reduceBNe, Int.reduceLT, Int.reduceLE, Int.reduceGT, Int.reduceGE, Nat.reduceDiv, Nat.reduceMul, e2, e3, e4, e39, e40, e41, hdec, d4', d5, d6, d7, hallt, cv, hyv, h5, h6, hc, hcl, wrPure, List.length_append, List.append_assoc, app_get_len, app_get_add, app_set_len, app_set_add]
          exact ⟨rfl, cd, hst, rfl⟩
      · simp only [↓wpre, wset, wcore, ne_eq, if_true, if_false, exists_eq_left', true_implies, false_implies, exists_const, exists_eq_right, binA, intA, loadA, storeA, pickC, setAt, mapO, argsE, X.isC, resA, oneA, unA, boundA, eqiA, eqsA, fillA, fillE, ASt.fz, strA, Nat.reduceEqDiff, Nat.reduceLT, ↓reduceIte, reduceCtorEq, Nat.reduceAdd, Nat.reduceLeDiff, Int.reduceBEq, Int.reduceBNe, Int.reduceLT, Int.reduceLE, Int.reduceGT, Int.reduceGE, Nat.reduceDiv, Nat.reduceMul, e2, e3, e4, e39, e40, e41, hdec, d4', d5, d6, d7, hallt, cv, hyv]
        exact EQ_in ⟨j + 1, by omega, _, rfl, e2, e3, e4, e39, e40, next_ixv (by omega), by omega, by
          rw [List.take_add_one, d0]; intro z hz; simp at hz; rcases hz with hz | rfl; exact hvs z hz; exact hyv⟩
    · have hdec : decide ((j : Int) < kas.length) = false := by simp; omega
      have hjm : j = kas.length := by omega
      subst hjm
      have hst : (Ex.mk k i n s kids).step p.gs = (Ex.mk k i n s kids).red := by
        simp only [Ex.step]
        rw [if_neg k0, if_neg k11, if_neg k5, if_neg hk4, ← hkl, stepL_none _ _ _ hvs]
      have hkk : (k : Int) = 2 ∨ (k : Int) = 4 ∨ (k : Int) = 7 ∨ (k : Int) = 9 ∨ (k : Int) = 10 := by
        have hv2 := val_kids hv
        rw [show kas.length = kids.length from hkl, List.take_length] at hvs
        have h38 : ¬ (k = 3 ∨ k = 8) := fun h => by
          obtain ⟨x, hx, hxv⟩ := hv2.2 h
          rw [hvs x hx] at hxv; cases hxv
        omega
      rcases (red_ret hkk h hw hd).call2 rfl (by simp [pvs_cons, pvs_nil, hep]) with ⟨v, ⟨x', q1, q2⟩, hc⟩ | ⟨v, ⟨cd, q1, rfl⟩, hc⟩
      · obtain ⟨cx, rfl, x1, x2⟩ := exAgg.cells q2
        have x3 : cx.take 5 = cx := List.take_of_length_le (by omega)
        simp only [↓wpre, wset, wcore, ne_eq, if_true, if_false, exists_eq_left', true_implies, false_implies, exists_const, exists_eq_right, binA, intA, loadA, storeA, pickC, setAt, mapO, argsE, X.isC, resA, oneA, unA, boundA, eqiA, eqsA, fillA, fillE, ASt.fz, strA, Nat.reduceEqDiff, Nat.reduceLT, ↓reduceIte, reduceCtorEq, Nat.reduceAdd, Nat.reduceLeDiff, Int.reduceBEq, Int.reduceBNe, Int.reduceLT, Int.reduceLE, Int.reduceGT, Int.reduceGE, Nat.reduceDiv, Nat.reduceMul, e2, e3, e4, e39, e40, e41, hdec, hc, x1, x2, x3, exPure _ q2]
        exact ⟨x', by rw [hst, q1], q2⟩
      · simp only [↓wpre, wset, wcore, ne_eq, if_true, if_false, exists_eq_left', true_implies, false_implies, exists_const, exists_eq_right, binA, intA, loadA, storeA, pickC, setAt, mapO, argsE, X.isC, resA, oneA, unA, boundA, eqiA, eqsA, fillA, fillE, ASt.fz, strA, Nat.reduceEqDiff, Nat.reduceLT, ↓reduceIte, reduceCtorEq, Nat.reduceAdd, Nat.reduceLeDiff, Int.reduceBEq, Int.reduceBNe, Int.reduceLT, Int.reduceLE, Int.reduceGT, Int.reduceGE, Nat.reduceDiv, Nat.reduceMul, e2, e3, e4, e39, e40, e41, hdec, hc, wrPure]
        exact ⟨cd, by rw [hst, q1], rfl⟩
end Go.Proofs.Eng
