/- Associates holds of all calls. No conditions beyond those in the theorems. -/
import Derived.Test.YtodnkbnbjhcikaaDoorJ3
import Derived.Test.YtodnkbnbjhcikaaDoorQA
set_option linter.all false
set_option linter.deprecated false
set_option linter.unnecessarySimpa false
set_option linter.unusedVariables false
set_option linter.unusedSimpArgs false
set_option linter.defProp false
namespace Go.Proofs.Eng
open Go Go.Proofs
set_option maxRecDepth 100000
set_option maxHeartbeats 16000000
theorem compL_ok {a b : Cl} (h : (compL a b).2 = 0) : checkR [a, b] = 0 ∧ a.t = b.f ∧ compL a b = (comp a b, 0) := by
  unfold compL at h ⊢
  split at h
  · rename_i h1
    rw [if_pos h1]
    split at h
    · rename_i h2
      rw [if_pos h2]
      exact ⟨h1, h2, rfl⟩
    · simp at h
  · rename_i h1
    exact absurd h h1
theorem compL_bad {a b : Cl} (h : (compL a b).2 ≠ 0) : (compL a b).1 = ⟨0, 0, []⟩ := by
  unfold compL at h ⊢
  split at h
  · rename_i h1
    rw [if_pos h1]
    split at h
    · exact absurd rfl h
    · rename_i h2
      rw [if_neg h2]
  · rename_i h1
    rw [if_neg h1]
theorem compL_form {a b : Cl} (ha : formB a = true) (hb : formB b = true) : (compL a b).2 = 0 ∨ (compL a b).2 = 1 := by
  unfold compL
  split
  · split
    · exact .inl rfl
    · exact .inr rfl
  · rename_i h1
    right
    simp only
    unfold checkR at h1 ⊢
    have hall : ([a, b].all formB) = true := by simp [ha, hb]
    rw [if_pos hall] at h1 ⊢
    split at h1
    · exact absurd rfl h1
    · rename_i h2; rw [if_neg h2]
theorem assoc_two {a b c : Cl} (h1 : checkR [a, b] = 0) (h2 : checkR [b, c] = 0) (e : a.t = b.f) (k : b.t = c.f) : comp (comp a b) c = comp a (comp b c) ∧ formB (comp a b) = true ∧ formB (comp b c) = true ∧ formB a = true ∧ formB c = true := by
  obtain ⟨ar, hg⟩ := check_good h1
  obtain ⟨ar2, hs⟩ := check_good h2
  have ga := hg a (by simp)
  have gb := hg b (by simp)
  have sb := hs b (by simp)
  have sc := hs c (by simp)
  have hr : ar b.t = ar2 b.t := by rw [← gb.wm.len, ← sb.wm.len]
  refine ⟨comp_assoc ga.wm (by rw [e]; exact gb.wm) (by rw [hr, k]; exact sc.wm) ga.r1.1 gb.r1.1, (comp_good ga gb e).form, (comp_good sb sc k).form, ga.form, sc.form⟩
theorem zero_mat {u : AV} (h : ClIs ⟨0, 0, []⟩ u) : ∃ ut, u = .agg [.int 0, .int 0, .sl [] ut] := by
  obtain ⟨ul, ut, rfl, h1, _⟩ := h.of
  cases ul with
  | nil => exact ⟨ut, rfl⟩
  | cons a l => simp [LIs] at h1
theorem assoc_law {a b c : Cl} {x y z : AV} (hx : ClIs a x) (hy : ClIs b y) (hz : ClIs c z) : Out md pfs 6 [x, y, z] (· = .bool true) fun _ => False := by
  obtain ⟨_, rfl, aw⟩ := awake_ret.call rfl (by simp [pvs_nil])
  obtain ⟨_, ⟨b1, rfl, _⟩, cx⟩ := (short_ret (k := 6) hx (by omega)).call rfl (by simp [pvs_cons, pvs_nil, pv_v, hx.pure])
  obtain ⟨_, ⟨b2, rfl, _⟩, cy⟩ := (short_ret (k := 6) hy (by omega)).call rfl (by simp [pvs_cons, pvs_nil, pv_v, hy.pure])
  obtain ⟨_, ⟨b3, rfl, _⟩, cz⟩ := (short_ret (k := 6) hz (by omega)).call rfl (by simp [pvs_cons, pvs_nil, pv_v, hz.pure])
  rw [show ((6 : Nat) : Int) = 6 from rfl] at cx cy cz
  obtain ⟨_, ⟨u, rfl, hu⟩, c1⟩ := (pcompose_ret hx hy).call rfl (by simp [pvs_cons, pvs_nil, hx.pure, hy.pure])
  obtain ⟨_, ⟨v, rfl, hv⟩, c2⟩ := (pcompose_ret hy hz).call rfl (by simp [pvs_cons, pvs_nil, hy.pure, hz.pure])
  obtain ⟨_, ⟨p, rfl, hp⟩, c3⟩ := (pcompose_ret hu hz).call rfl (by simp [pvs_cons, pvs_nil, hu.pure, hz.pure])
  obtain ⟨_, ⟨q, rfl, hq⟩, c4⟩ := (pcompose_ret hx hv).call rfl (by simp [pvs_cons, pvs_nil, hx.pure, hv.pure])
  obtain ⟨_, rfl, c19⟩ := (same_ret hp hq).call rfl (by simp [pvs_cons, pvs_nil, hp.pure, hq.pure])
  obtain ⟨xl, xt, rfl, _⟩ := hx.of
  obtain ⟨yl, yt, rfl, _⟩ := hy.of
  obtain ⟨zl, zt, rfl, _⟩ := hz.of
  refine out_of pf6_is (Nat.le_of_ble_eq_true rfl) ?_
  cases b1 with
  | false => simp only [pf6, ↓wpre, wset, wcore, wext, ne_eq, if_true, if_false, exists_eq_left', true_implies, false_implies, exists_const, exists_eq_right, binA, intA, loadA, storeA, pickC, setAt, mapO, argsE, X.isC, resA, oneA, unA, boundA, eqiA, eqsA, fillA, fillE, ASt.fz, strA, simprocAttr, List.length_append, List.append_assoc, app_get_len, app_get_add, app_set_len, app_set_add, cx, cy, cz, aw]
  | true =>
  cases b2 with
  | false => simp only [pf6, ↓wpre, wset, wcore, wext, ne_eq, if_true, if_false, exists_eq_left', true_implies, false_implies, exists_const, exists_eq_right, binA, intA, loadA, storeA, pickC, setAt, mapO, argsE, X.isC, resA, oneA, unA, boundA, eqiA, eqsA, fillA, fillE, ASt.fz, strA, simprocAttr, List.length_append, List.append_assoc, app_get_len, app_get_add, app_set_len, app_set_add, cx, cy, cz, aw]
  | true =>
  cases b3 with
  | false => simp only [pf6, ↓wpre, wset, wcore, wext, ne_eq, if_true, if_false, exists_eq_left', true_implies, false_implies, exists_const, exists_eq_right, binA, intA, loadA, storeA, pickC, setAt, mapO, argsE, X.isC, resA, oneA, unA, boundA, eqiA, eqsA, fillA, fillE, ASt.fz, strA, simprocAttr, List.length_append, List.append_assoc, app_get_len, app_get_add, app_set_len, app_set_add, cx, cy, cz, aw]
  | true =>
  by_cases he : (compL a b).2 = 0
  case neg =>
    have hz0 := compL_bad he
    rw [hz0] at hu
    obtain ⟨ut, rfl⟩ := zero_mat hu
    have d1 := ibne he
    have d2 : ((compL a b).2 == 0) = false := by simpa using he
    obtain ⟨vl, vt, rfl, _⟩ := hv.of
    simp only [pf6, ↓wpre, wset, wcore, wext, ne_eq, if_true, if_false, exists_eq_left', true_implies, false_implies, exists_const, exists_eq_right, binA, intA, loadA, storeA, pickC, setAt, mapO, argsE, X.isC, resA, oneA, unA, boundA, eqiA, eqsA, fillA, fillE, ASt.fz, strA, simprocAttr, List.length_append, List.append_assoc, app_get_len, app_get_add, app_set_len, app_set_add, cx, cy, cz, c1, c2, aw, d1, d2]
  have d1 := ibne' he
  have d2 : ((compL a b).2 == 0) = true := by simpa using he
  obtain ⟨k1, k2, k3⟩ := compL_ok he
  by_cases hf : (compL b c).2 = 0
  case neg =>
    have d3 := ibne hf
    obtain ⟨ul, ut, rfl, _⟩ := hu.of
    obtain ⟨vl, vt, rfl, _⟩ := hv.of
    simp only [pf6, ↓wpre, wset, wcore, wext, ne_eq, if_true, if_false, exists_eq_left', true_implies, false_implies, exists_const, exists_eq_right, binA, intA, loadA, storeA, pickC, setAt, mapO, argsE, X.isC, resA, oneA, unA, boundA, eqiA, eqsA, fillA, fillE, ASt.fz, strA, simprocAttr, List.length_append, List.append_assoc, app_get_len, app_get_add, app_set_len, app_set_add, cx, cy, cz, c1, c2, aw, d1, d2, d3]
  have d3 := ibne' hf
  obtain ⟨m1, m2, m3⟩ := compL_ok hf
  obtain ⟨n1, n2, n3, n4, n5⟩ := assoc_two k1 m1 k2 m2
  rw [k3] at hu c3 hp c19
  rw [m3] at hv c4 hq c19
  simp only at hu c3 hp c19 hv c4 hq
  have hg := compL_form n2 n5
  have hh := compL_form n4 n3
  have hsm : (compL (comp a b) c).2 = 0 → (compL a (comp b c)).2 = 0 → decide ((compL (comp a b) c).1 = (compL a (comp b c)).1) = true := fun q1 q2 => by
    rw [(compL_ok q1).2.2, (compL_ok q2).2.2]
    exact decide_eq_true n1
  generalize decide ((compL (comp a b) c).1 = (compL a (comp b c)).1) = sm at *
  generalize (compL (comp a b) c) = r1 at *
  generalize (compL a (comp b c)) = r2 at *
  obtain ⟨r1, g1⟩ := r1
  obtain ⟨r2, g2⟩ := r2
  simp only at *
  obtain ⟨ul, ut, rfl, _⟩ := hu.of
  obtain ⟨vl, vt, rfl, _⟩ := hv.of
  obtain ⟨pl, pt, rfl, _⟩ := hp.of
  obtain ⟨ql, qt, rfl, _⟩ := hq.of
  rcases hg with rfl | rfl
  · rcases hh with rfl | rfl
    · have := hsm rfl rfl
      subst this
      simp only [pf6, ↓wpre, wset, wcore, wext, ne_eq, if_true, if_false, exists_eq_left', true_implies, false_implies, exists_const, exists_eq_right, binA, intA, loadA, storeA, pickC, setAt, mapO, argsE, X.isC, resA, oneA, unA, boundA, eqiA, eqsA, fillA, fillE, ASt.fz, strA, simprocAttr, List.length_append, List.append_assoc, app_get_len, app_get_add, app_set_len, app_set_add, cx, cy, cz, c1, c2, c3, c4, c19, aw, d1, d2, d3]
    · simp only [pf6, ↓wpre, wset, wcore, wext, ne_eq, if_true, if_false, exists_eq_left', true_implies, false_implies, exists_const, exists_eq_right, binA, intA, loadA, storeA, pickC, setAt, mapO, argsE, X.isC, resA, oneA, unA, boundA, eqiA, eqsA, fillA, fillE, ASt.fz, strA, simprocAttr, List.length_append, List.append_assoc, app_get_len, app_get_add, app_set_len, app_set_add, cx, cy, cz, c1, c2, c3, c4, c19, aw, d1, d2, d3]
  · simp only [pf6, ↓wpre, wset, wcore, wext, ne_eq, if_true, if_false, exists_eq_left', true_implies, false_implies, exists_const, exists_eq_right, binA, intA, loadA, storeA, pickC, setAt, mapO, argsE, X.isC, resA, oneA, unA, boundA, eqiA, eqsA, fillA, fillE, ASt.fz, strA, simprocAttr, List.length_append, List.append_assoc, app_get_len, app_get_add, app_set_len, app_set_add, cx, cy, cz, c1, c2, c3, c4, c19, aw, d1, d2, d3]
end Go.Proofs.Eng
