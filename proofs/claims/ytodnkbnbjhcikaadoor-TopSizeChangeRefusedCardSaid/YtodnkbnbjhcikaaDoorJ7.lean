/- Witness holds of all calls. No conditions beyond those in the theorems. -/
import Derived.Test.YtodnkbnbjhcikaaDoorJ2
import Derived.Test.YtodnkbnbjhcikaaDoorPf22
import Derived.KernelRfl
set_option linter.all false
set_option linter.deprecated false
set_option linter.unnecessarySimpa false
set_option linter.unusedVariables false
set_option linter.unusedSimpArgs false
set_option linter.defProp false
namespace Go.Proofs.Eng
open Go Go.Proofs
set_option maxRecDepth 100000
set_option maxHeartbeats 16000000
theorem good_self {ar : Int → Nat} {c : Cl} (h : Good ar c) (e : c.f = c.t) : Good ar (comp c c) := comp_good h h e.symm
def termL (l : List Cl) : Bool × Cl × Int :=
  if (closL l).2 = 0 then match (closL l).1.find? badB with
    | some c => (false, c, 0)
    | none => (true, ⟨0, 0, []⟩, 0)
  else (false, ⟨0, 0, []⟩, (closL l).2)
def ResT (r : Bool × Cl × Int) (v : AV) : Prop := ∃ x, v = .tup [.bool r.1, x, .int r.2.2] ∧ ClIs r.2.1 x
theorem find_hit {α : Type} {l : List α} {j : Nat} {x : α} {P : α → Bool} (h : ∀ y ∈ l.take j, P y = false) (hx : l[j]? = some x) (hp : P x = true) : l.find? P = some x := by
  have e : l = l.take j ++ x :: l.drop (j + 1) := by conv => lhs; rw [← List.take_append_drop j l, drop_cons hx]
  rw [e, List.find?_append, List.find?_eq_none.2 (fun y hy => by simp [h y hy]), List.find?_cons_of_pos hp]; rfl
theorem find_no {α : Type} {l : List α} {P : α → Bool} (h : ∀ y ∈ l, P y = false) : l.find? P = none := List.find?_eq_none.2 fun y hy => by simp [h y hy]
theorem closL_good {l : List Cl} : ∃ ar : Int → Nat, ∀ c ∈ (closL l).1, Good ar c := by
  unfold closL
  by_cases hck : checkR l = 0
  · rw [if_pos hck]
    obtain ⟨ar, hg⟩ := check_good hck
    cases hq : cloQ l with
    | none => exact ⟨fun _ => 0, fun c hc => by simp at hc⟩
    | some q =>
      have hclo := clo_of hg hq
      exact ⟨ar, fun c hc => hclo.good c (((srt_sorted hclo.good).2 c).1 hc)⟩
  · rw [if_neg hck]
    exact ⟨fun _ => 0, fun c hc => by simp at hc⟩
theorem closL_len {l : List Cl} : (closL l).1.length ≤ 2000 := by
  unfold closL
  by_cases hck : checkR l = 0
  · rw [if_pos hck]
    obtain ⟨ar, hg⟩ := check_good hck
    cases hq : cloQ l with
    | none => simp
    | some q =>
      have hclo := clo_of hg hq
      simp only
      rw [srt_len hclo.good hclo.nd]; exact hclo.len
  · rw [if_neg hck]; simp
theorem pterm_ret {l : List Cl} {al : List AV} {t : Tl} (h : LIs ClIs l al) (ht : t.pure = true) (hl : al.length ≤ 1000) : Out md pfs 17 [.sl al t] (ResT (termL l)) fun _ => False := by
  obtain ⟨_, ⟨la, tl, rfl, hL, htl⟩, c14⟩ := (closure_ret (t := t) h ht hl).call rfl (by simp [pvs_cons, pvs_nil, pv_sl, ht, clsPure h])
  obtain ⟨ar, hg⟩ := closL_good (l := l)
  have hlen := closL_len (l := l)
  refine out_of pf17_is (Nat.le_of_ble_eq_true rfl) ?_
  by_cases he : (closL l).2 = 0
  case neg =>
    have d1 : ((closL l).2 != 0) = true := ibne he
    have hr : termL l = (false, ⟨0, 0, []⟩, (closL l).2) := if_neg he
    simp only [pf17, ↓wpre, wset, wcore, wext, ne_eq, if_true, if_false, exists_eq_left', true_implies, false_implies, exists_const, exists_eq_right, binA, intA, loadA, storeA, pickC, setAt, mapO, argsE, X.isC, resA, oneA, unA, boundA, eqiA, eqsA, fillA, fillE, ASt.fz, strA, simprocAttr, c14, d1]
    exact ⟨_, by rw [hr], by rw [hr]; exact zeroIs⟩
  have d1 : ((closL l).2 != 0) = false := ibne' he
  have hr : termL l = match (closL l).1.find? badB with
    | some c => (false, c, 0)
    | none => (true, ⟨0, 0, []⟩, 0) := if_pos he
  have hall := hL.all clAgg
  have hln := hL.len
  simp only [pf17, ↓wpre, wset, wcore, wext, ne_eq, if_true, if_false, exists_eq_left', true_implies, false_implies, exists_const, exists_eq_right, binA, intA, loadA, storeA, pickC, setAt, mapO, argsE, X.isC, resA, oneA, unA, boundA, eqiA, eqsA, fillA, fillE, ASt.fz, strA, simprocAttr, c14, d1]
  refine W_loopE (fun j => la.length - j) (fun j E H T => E 3 = .ptr 0 0 ∧ H[0]? = some (.cells false [.int 0, .int 0, .sl [] .nil]) ∧ E 18 = .sl la tl ∧ E 19 = .int la.length ∧ E 20 = .int (j : Nat) ∧ j ≤ la.length ∧ ∀ x ∈ (closL l).1.take j, badB x = false) ?_ 0 ⟨rfl, rfl, rfl, rfl, rfl, Nat.zero_le _, by simp⟩
  rintro j E H T ⟨e3, h0, e18, e19, e20, hj, hb⟩
  rcases Nat.lt_or_ge j la.length with hlt | hge
  · have q1 := dlt hlt
    obtain ⟨c, a, g1, g2, g3, g4⟩ := cl_get hL hlt
    have hgc := hg c g2
    have hsm := form_sm hgc.form
    have hcp := g4.pure
    have hep : pureAVs [a] = true := by simp [pvs_cons, pvs_nil, hcp]
    obtain ⟨_, rfl, c34⟩ := (decP_ret g4).call rfl hep
    obtain ⟨_, ⟨t1, rfl, ht1⟩, c36⟩ := (entries_ret g4 hsm).call rfl hep
    have g4' := g4
    have l0 := lt_of_get h0
    by_cases hft : c.f = c.t
    · have d2 : (c.f == c.t) = true := by simpa using hft
      cases hdc : decB c with
      | true =>
        rw [hdc] at c34
        have hbc : badB c = false := by
          unfold badB
          rw [hdc]; simp
        obtain ⟨bl, u, rfl, _⟩ := g4.of
        simp only [↓wpre, wset, wcore, wext, ne_eq, if_true, if_false, exists_eq_left', true_implies, false_implies, exists_const, exists_eq_right, binA, intA, loadA, storeA, pickC, setAt, mapO, argsE, X.isC, resA, oneA, unA, boundA, eqiA, eqsA, fillA, fillE, ASt.fz, strA, simprocAttr, List.length_append, List.append_assoc, app_get_len, app_get_add, app_set_len, app_set_add, e3, app_get_of h0, e18, e19, e20, q1, hall, g3, d2, c34]
        exact EQ_in ⟨j + 1, by omega, e3, app_get_of h0 _, e18, e19, next_ixv (by unfold lenB; omega), by omega, all_snoc hb g1 hbc⟩
      | false =>
        rw [hdc] at c34
        have hwf : Wm c.m (ar c.f) (ar c.f) := by have := hgc.wm; rw [← hft] at this; exact this
        obtain ⟨cv, hcv, c37⟩ := (composed_ret g4 g4 hwf hwf hgc.c1.1 hgc.c1.2 hgc.c1.2 hgc.c1.2).call rfl (by simp [pvs_cons, pvs_nil, hcp])
        have hgs := good_self hgc hft
        have hss := form_sm hgs.form
        obtain ⟨_, ⟨t2, rfl, ht2⟩, c36'⟩ := (entries_ret hcv hss).call rfl (by simp [pvs_cons, pvs_nil, hcv.pure])
        have hel := hsm.tot
        obtain ⟨_, rfl, c35⟩ := (eq_ret (l := entL c) (m := entL (comp c c)) (t := t1) (u := t2) (by unfold entL lenB; simp only [List.length_cons]; omega)).call rfl (by simp [pvs_cons, pvs_nil, pv_sl, ht1, ht2, ints_pure])
        have hiff : decide (entL c = entL (comp c c)) = decide (comp c c = c) := by
          rw [decide_eq_decide]
          exact ⟨fun e => (ent_inj hgc hgs e).symm, fun e => by rw [e]⟩
        rw [hiff] at c35
        obtain ⟨cl, cu, rfl, _⟩ := hcv.of
        obtain ⟨bl, u, rfl, _⟩ := g4.of
        by_cases hid : comp c c = c
        · rw [decide_eq_true hid] at c35
          have hbc : badB c = true := by
            unfold badB
            rw [decide_eq_true hft, hdc, decide_eq_true hid]; rfl
          rw [find_hit hb g1 hbc] at hr
          have n1 : ∀ B : AObj, (H ++ [B])[H.length]? = some B := fun B => app_get_len
          simp only [↓wpre, wset, wcore, wext, ne_eq, if_true, if_false, exists_eq_left', true_implies, false_implies, exists_const, exists_eq_right, binA, intA, loadA, storeA, pickC, setAt, mapO, argsE, X.isC, resA, oneA, unA, boundA, eqiA, eqsA, fillA, fillE, ASt.fz, strA, simprocAttr, List.length_append, List.append_assoc, app_get_len, app_get_add, app_set_len, app_set_add, e3, app_get_of h0, e18, e19, e20, q1, hall, g3, d2, c34, c35, c36, c36', c37, List.getElem?_set, if_pos l0, List.length_cons, List.length_nil]
          rw [purify_pure hcp]
          exact ⟨_, rfl, _, by rw [hr], by rw [hr]; exact g4'⟩
        · rw [decide_eq_false hid] at c35
          have hbc : badB c = false := by
            unfold badB
            rw [decide_eq_false hid]; simp
          simp only [↓wpre, wset, wcore, wext, ne_eq, if_true, if_false, exists_eq_left', true_implies, false_implies, exists_const, exists_eq_right, binA, intA, loadA, storeA, pickC, setAt, mapO, argsE, X.isC, resA, oneA, unA, boundA, eqiA, eqsA, fillA, fillE, ASt.fz, strA, simprocAttr, List.length_append, List.append_assoc, app_get_len, app_get_add, app_set_len, app_set_add, e3, app_get_of h0, e18, e19, e20, q1, hall, g3, d2, c34, c35, c36, c36', c37]
          exact EQ_in ⟨j + 1, by omega, e3, app_get_of h0 _, e18, e19, next_ixv (by unfold lenB; omega), by omega, all_snoc hb g1 hbc⟩
    · have d2 : (c.f == c.t) = false := by simpa using hft
      have hbc : badB c = false := by
        unfold badB
        rw [decide_eq_false hft]; rfl
      obtain ⟨bl, u, rfl, _⟩ := g4.of
      simp only [↓wpre, wset, wcore, wext, ne_eq, if_true, if_false, exists_eq_left', true_implies, false_implies, exists_const, exists_eq_right, binA, intA, loadA, storeA, pickC, setAt, mapO, argsE, X.isC, resA, oneA, unA, boundA, eqiA, eqsA, fillA, fillE, ASt.fz, strA, simprocAttr, List.length_append, List.append_assoc, app_get_len, app_get_add, app_set_len, app_set_add, e3, app_get_of h0, e18, e19, e20, q1, hall, g3, d2]
      exact EQ_in ⟨j + 1, by omega, e3, app_get_of h0 _, e18, e19, next_ixv (by unfold lenB; omega), by omega, all_snoc hb g1 hbc⟩
  · have q1 := dltf hge
    rw [List.take_of_length_le (by omega)] at hb
    rw [find_no hb] at hr
    have l0 := lt_of_get h0
    simp only [↓wpre, wset, wcore, wext, ne_eq, if_true, if_false, exists_eq_left', true_implies, false_implies, exists_const, exists_eq_right, binA, intA, loadA, storeA, pickC, setAt, mapO, argsE, X.isC, resA, oneA, unA, boundA, eqiA, eqsA, fillA, fillE, ASt.fz, strA, simprocAttr, e3, h0, e18, e19, e20, q1, List.getElem?_set, if_pos l0]
    exact ⟨_, by rw [hr], by rw [hr]; exact zeroIs⟩
def isTrueA : Option (Outc × ASt) → Bool
  | some (.ret (.v (.bool true)), _) => true
  | _ => false
theorem true_ret {f : Nat} (h : isTrueA (callN md pfs 60 f [] ⟨[], []⟩) = true) : Out md pfs f [] (· = .bool true) fun _ => False := by
  cases hc : callN md pfs 60 f [] ⟨[], []⟩ with
  | none => rw [hc] at h; cases h
  | some x =>
    obtain ⟨out, s⟩ := x
    rw [hc] at h
    have ho : out = .ret (.v (.bool true)) := by
      cases out with
      | pan v => cases h
      | ret v => cases v with
        | v x => cases x with
          | bool b => cases b with
            | true => rfl
            | false => cases h
          | _ => cases h
        | _ => cases h
    subst ho
    exact ⟨_, s, .ret (.bool true), run_of hc, by simp only [Outc.purify, purify_pure pv_v, Option.map_some], rfl⟩
theorem d43_try : isTrueA (callN md pfs 60 27 [] ⟨[], []⟩) = true := by kernel_rfl
theorem d43_ret : Out md pfs 27 [] (· = .bool true) fun _ => False := true_ret d43_try
theorem closL_ok {l : List Cl} (h : (closL l).2 = 0) : ∃ (ar : Int → Nat) (q : List Cl), (∀ c ∈ l, Good ar c) ∧ Clo ar l q ∧ (closL l).1 = srt q := by
  unfold closL at h ⊢
  split at h
  · rename_i h1
    rw [if_pos h1]
    obtain ⟨ar, hg⟩ := check_good h1
    cases hq : cloQ l with
    | none => rw [hq] at h; simp at h
    | some q => exact ⟨ar, q, hg, clo_of hg hq, rfl⟩
  · rename_i h1
    exact absurd h h1
theorem termL_eq {l : List Cl} : ((termL l).2.2 = (closL l).2) ∧ ((closL l).2 ≠ 0 → (termL l).1 = false) ∧ ((closL l).2 = 0 → termL l = match (closL l).1.find? badB with | some c => (false, c, 0) | none => (true, ⟨0, 0, []⟩, 0)) := by
  unfold termL
  refine ⟨?_, fun h => by rw [if_neg h], fun h => by rw [if_pos h]; try rfl⟩
  split
  · rename_i h
    rw [h]
    cases (closL l).1.find? badB <;> rfl
  · rfl
end Go.Proofs.Eng
