/- The reference's insertion. No conditions beyond those in the theorems. -/
import Derived.Test.YtodnkbnbjhcikaaDoorH8
set_option linter.all false
set_option linter.deprecated false
set_option linter.unnecessarySimpa false
set_option linter.unusedVariables false
set_option linter.unusedSimpArgs false
set_option linter.defProp false
namespace Go.Proofs.Eng
open Go Go.Proofs
set_option maxRecDepth 100000
set_option maxHeartbeats 16000000
theorem app_many {T : List Nat} {es : Nat} {l xs : List AV} {t : Tl} (h : App T l t) (hl : l.length + xs.length ≤ 1073741824) (ha : (l.all fun x => x.cells.length == es) = true) (hx : (xs.all fun x => x.cells.length == es && x.cells.all oneCell) = true) :
    ∃ t' T', (∀ H, appA ⟨H, T⟩ es none l t xs = some (.sl (l ++ xs) t', ⟨H, T'⟩)) ∧ App T' (l ++ xs) t' := by
  cases xs with
  | nil => exact ⟨t, T, fun H => by simp [appA], by simpa using h⟩
  | cons x xs =>
    simp only [List.length_cons] at hl
    rcases h with ⟨rfl, rfl⟩ | ⟨hne, id, ver, rfl, hT⟩
    · refine ⟨.tl T.length 0, T ++ [0], fun H => ?_, .inr ⟨by simp, _, _, rfl, by simp⟩⟩
      rw [appA, if_pos ⟨by simp only [List.length_cons, List.length_nil]; simp only [List.length_nil] at hl; omega, rfl, hx⟩]
    · refine ⟨.tl id (ver + 1), T.set id (ver + 1), fun H => ?_, .inr ⟨by simp, _, _, rfl, by rw [List.getElem?_set_self (List.getElem?_eq_some_iff.1 hT).1]⟩⟩
      rw [appA, if_pos ⟨by simp only [List.length_cons]; omega, ha, hx⟩]
      simp only [hT]
      rw [if_pos ⟨trivial, hne⟩]
theorem cls_all2 : ∀ {l : List Cl} {al : List AV}, LIs ClIs l al → (al.all fun x => x.cells.length == 3 && x.cells.all oneCell) = true
  | [], [], _ => rfl
  | [], _ :: _, h => by simp [LIs] at h
  | _ :: _, [], h => by simp [LIs] at h
  | x :: l, a :: al, h => by
    simp only [LIs] at h
    obtain ⟨bl, t, rfl, _⟩ := h.1.of
    rw [List.all_cons, cls_all2 h.2]; rfl
theorem tw_take {α : Type} {p : α → Bool} : ∀ {l : List α} {j : Nat}, (∀ x ∈ l.take j, p x = true) → j ≤ l.length → (∀ x, l[j]? = some x → p x = false) → l.takeWhile p = l.take j
  | [], j, _, hj, _ => by simp
  | x :: l, 0, _, _, h => by
    have := h x rfl
    rw [List.takeWhile_cons_of_neg (by simp [this])]; rfl
  | x :: l, j + 1, h1, hj, h => by
    rw [List.takeWhile_cons_of_pos (h1 x (by simp)), List.take_succ_cons, tw_take (fun y hy => h1 y (by rw [List.take_succ_cons]; exact List.mem_cons_of_mem _ hy)) (by simpa using hj) fun y hy => h y (by simpa using hy)]
theorem ins_at {l : List Cl} {c : Cl} {j : Nat} (h1 : ∀ x ∈ l.take j, ordR x c < 0) (hj : j ≤ l.length) (h2 : ∀ x, l[j]? = some x → ¬ ordR x c < 0) : insR l c = if (l[j]?).any (fun x => ordR x c == 0) then (l, false) else (l.take j ++ c :: l.drop j, true) := by
  have ht := tw_take (p := fun x => decide (ordR x c < 0)) (l := l) (j := j) (fun x hx => by simpa using h1 x hx) hj (fun x hx => by simpa using h2 x hx)
  unfold insR
  rw [ht, List.length_take, Nat.min_eq_left hj, List.head?_drop]
theorem sl_hi {es : Nat} {l : List AV} {t : Tl} {j : Nat} (h : j ≤ l.length) : ∃ t', sliceA es l t 0 j none = some (.sl (l.take j) t') := by
  unfold sliceA
  rw [if_pos ⟨Nat.zero_le _, h⟩]
  by_cases hj : j = l.length
  · subst hj
    simp only [List.take_length, and_self, if_true]
    exact ⟨_, rfl⟩
  · simp only [true_and, if_neg hj, List.drop_zero]
    exact ⟨_, rfl⟩
theorem sl_lo {es : Nat} {l : List AV} {t : Tl} {j : Nat} (h : j ≤ l.length) : ∃ t', sliceA es l t j l.length none = some (.sl (l.drop j) t') := by
  unfold sliceA
  rw [if_pos ⟨h, Nat.le_refl _⟩]
  by_cases hj : j = 0
  · subst hj
    simp only [List.drop_zero, and_self, if_true]
    exact ⟨_, rfl⟩
  · simp only [hj, false_and, if_false, List.take_length]
    exact ⟨_, rfl⟩
theorem dneg0 {x : Int} (h : x < 0) : decide (x < 0) = true := decide_eq_true h
theorem insert_ret {l : List Cl} {al : List AV} {t : Tl} {c : Cl} {a : AV} (h : LIs ClIs l al) (k : ClIs c a) (hl : al.length ≤ 100000) (hok : ∀ x ∈ l, Ok x) (hc : Ok c) (ht : t.pure = true) : Out md pfs 32 [.sl al t, a] (fun v => ∃ al' t', v = .tup [.sl al' t', .bool (insR l c).2] ∧ LIs ClIs (insR l c).1 al' ∧ t'.pure = true) fun _ => False := by
  have hall := h.all clAgg
  have hla := h.len
  have hp := clsPure h
  have hkp := k.pure
  have hone := LIs.one k
  obtain ⟨bl, u, rfl, k1, k2, k3, k4, k5⟩ := k.of
  refine out_of pf32_is (Nat.le_of_ble_eq_true rfl) ?_
  simp only [pf32, ↓wpre, wset, wcore, wext, ne_eq, if_true, if_false, exists_eq_left', true_implies, false_implies, exists_const, exists_eq_right, binA, intA, loadA, storeA, pickC, setAt, mapO, argsE, X.isC, resA, oneA, unA, boundA, eqiA, eqsA, fillA, fillE, ASt.fz, strA, simprocAttr]
  refine W_loopE (fun j => al.length - j) (fun j E H T => E 0 = .sl al t ∧ E 3 = .ptr 0 0 ∧ H[0]? = some (.cells false [.int c.f, .int c.t, .sl bl u]) ∧ E 6 = .int (j : Nat) ∧ j ≤ al.length ∧ ∀ x ∈ l.take j, ordR x c < 0) ?_ 0 ⟨rfl, rfl, rfl, rfl, Nat.zero_le _, by simp⟩
  rintro j E H T ⟨e0, e3, h0, e6, hj, hr⟩
  have hend : (∀ x, l[j]? = some x → ¬ ordR x c < 0) → ∀ b : Bool, True := fun _ _ => trivial
  rcases Nat.lt_or_ge j al.length with hlt | hge
  · have q1 := dlt hlt
    obtain ⟨d, b, g1, g2, g3, g4⟩ := cl_get h hlt
    obtain ⟨_, rfl, cc⟩ := (order_ret g4 k (hok d g2) hc).call rfl (by simp [pvs_cons, pvs_nil, g4.pure, hkp])
    obtain ⟨dl, du, rfl, _⟩ := g4.of
    by_cases hneg : ordR d c < 0
    · have q2 := dneg0 hneg
      simp only [↓wpre, wset, wcore, wext, ne_eq, if_true, if_false, exists_eq_left', true_implies, false_implies, exists_const, exists_eq_right, binA, intA, loadA, storeA, pickC, setAt, mapO, argsE, X.isC, resA, oneA, unA, boundA, eqiA, eqsA, fillA, fillE, ASt.fz, strA, simprocAttr, e0, e3, h0, e6, q1, g3, hall, cc, q2]
      exact EQ_in ⟨j + 1, by omega, e0, e3, h0, next_ixv (by unfold lenB; omega), by omega, all_snoc hr g1 hneg⟩
    · have q2 : decide (ordR d c < 0) = false := decide_eq_false hneg
      have hins := ins_at hr (by omega) (fun x hx => by rw [g1] at hx; cases hx; exact hneg)
      rw [g1] at hins
      by_cases hz : ordR d c = 0
      · have q3 : (ordR d c == 0) = true := by simp [hz]
        simp only [Option.any_some, q3, if_true] at hins
        simp only [↓wpre, wset, wcore, wext, ne_eq, if_true, if_false, exists_eq_left', true_implies, false_implies, exists_const, exists_eq_right, binA, intA, loadA, storeA, pickC, setAt, mapO, argsE, X.isC, resA, oneA, unA, boundA, eqiA, eqsA, fillA, fillE, ASt.fz, strA, simprocAttr, e0, e3, h0, e6, q1, g3, hall, cc, q2, q3]
        rw [purify_pure (by simp [pv_sl, hp, ht])]
        exact ⟨_, rfl, al, t, by rw [hins], by rw [hins]; exact h, ht⟩
      · have q3 : (ordR d c == 0) = false := by simp [hz]
        simp only [Option.any_some, q3, Bool.false_eq_true, if_false] at hins
        obtain ⟨t1, T1, ap1, hA1⟩ := app_many (es := 3) (xs := al.take j) (app_start T) (by simp; omega) rfl (cls_all2 (h.take j))
        simp only [List.nil_append] at ap1 hA1
        obtain ⟨t2, T2, ap2, hA2⟩ := app_many (es := 3) (xs := [.agg [.int c.f, .int c.t, .sl bl u]]) hA1 (by simp; omega) ((h.take j).all clAgg) (cls_all2 hone)
        obtain ⟨t3, T3, ap3, hA3⟩ := app_many (es := 3) (xs := al.drop j) hA2 (by simp; omega) (((h.take j).append hone).all clAgg) (cls_all2 (h.drop j))
        have q4 : ((j : Int) ≤ (al.length : Int)) = True := eq_true (by omega)
        obtain ⟨s1, hs1⟩ := sl_hi (es := 3) (l := al) (t := t) hj
        obtain ⟨s2, hs2⟩ := sl_lo (es := 3) (l := al) (t := t) hj
        have hL3 := ((h.take j).append hone).append (h.drop j)
        obtain ⟨t4, ht4, hz⟩ := app_purify (s := ⟨H, T3⟩) hA3 (clsPure hL3) (n := 1019) (by omega)
        simp only [↓wpre, wset, wcore, wext, ne_eq, if_true, if_false, exists_eq_left', true_implies, false_implies, exists_const, exists_eq_right, binA, intA, loadA, storeA, pickC, setAt, mapO, argsE, X.isC, resA, oneA, unA, boundA, eqiA, eqsA, fillA, fillE, ASt.fz, strA, simprocAttr, e0, e3, h0, e6, q1, g3, hall, cc, q2, q3, q4, hs1, hs2, ap1, ap2, ap3]
        rw [hz]
        exact ⟨_, rfl, _, t4, by rw [hins], by rw [hins]; simpa using hL3, ht4⟩
  · have q1 := dltf hge
    have hins := ins_at hr (by omega) (fun x hx => by rw [List.getElem?_eq_none (by omega)] at hx; cases hx)
    rw [List.getElem?_eq_none (by omega)] at hins
    simp only [Option.any_none, Bool.false_eq_true, if_false] at hins
    obtain ⟨t1, T1, ap1, hA1⟩ := app_many (es := 3) (xs := al.take j) (app_start T) (by simp; omega) rfl (cls_all2 (h.take j))
    simp only [List.nil_append] at ap1 hA1
    obtain ⟨t2, T2, ap2, hA2⟩ := app_many (es := 3) (xs := [.agg [.int c.f, .int c.t, .sl bl u]]) hA1 (by simp; omega) ((h.take j).all clAgg) (cls_all2 hone)
    obtain ⟨t3, T3, ap3, hA3⟩ := app_many (es := 3) (xs := al.drop j) hA2 (by simp; omega) (((h.take j).append hone).all clAgg) (cls_all2 (h.drop j))
    have q4 : ((j : Int) ≤ (al.length : Int)) = True := eq_true (by omega)
    obtain ⟨s1, hs1⟩ := sl_hi (es := 3) (l := al) (t := t) hj
    obtain ⟨s2, hs2⟩ := sl_lo (es := 3) (l := al) (t := t) hj
    have hL3 := ((h.take j).append hone).append (h.drop j)
    obtain ⟨t4, ht4, hz⟩ := app_purify (s := ⟨H, T3⟩) hA3 (clsPure hL3) (n := 1019) (by omega)
    simp only [↓wpre, wset, wcore, wext, ne_eq, if_true, if_false, exists_eq_left', true_implies, false_implies, exists_const, exists_eq_right, binA, intA, loadA, storeA, pickC, setAt, mapO, argsE, X.isC, resA, oneA, unA, boundA, eqiA, eqsA, fillA, fillE, ASt.fz, strA, simprocAttr, e0, e3, h0, e6, q1, hall, q4, hs1, hs2, ap1, ap2, ap3]
    rw [hz]
    exact ⟨_, rfl, _, t4, by rw [hins], by rw [hins]; simpa using hL3, ht4⟩
end Go.Proofs.Eng
