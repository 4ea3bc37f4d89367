/- Sums of products; what the rows of the elimination say of a point. No conditions beyond those in the theorems. -/
import Derived.Test.YtglembbmmnakaaaDoorT1
set_option linter.all false
set_option linter.deprecated false
set_option linter.unnecessarySimpa false
set_option linter.unusedVariables false
set_option linter.unusedSimpArgs false
set_option linter.defProp false
namespace Go.Proofs.Eng
open Go Go.Proofs
def gt0 (A : List Int) (k : Nat) : Int := A.getD k 0
/-- The sum of the products of the first numbers. -/
def sg (a v : Nat → Int) : Nat → Int
  | 0 => 0
  | n + 1 => sg a v n + a n * v n
theorem sg_lin {a b c v : Nat → Int} {h p q : Int} : ∀ n, (∀ k, k < n → h * c k = p * a k + q * b k) → h * sg c v n = p * sg a v n + q * sg b v n
  | 0, _ => by simp [sg]
  | n + 1, H => by
    have ih := sg_lin (v := v) n fun k hk => H k (by omega)
    have e := H n (by omega)
    have e2 : h * (c n * v n) = p * (a n * v n) + q * (b n * v n) := by
      rw [← Int.mul_assoc, e, Int.add_mul, Int.mul_assoc, Int.mul_assoc]
    simp only [sg, Int.mul_add, ih, e2]
    omega
theorem sg_zero {a v : Nat → Int} : ∀ n, (∀ k, k < n → a k * v k = 0) → sg a v n = 0
  | 0, _ => rfl
  | n + 1, H => by rw [sg, sg_zero n fun k hk => H k (by omega), H n (by omega)]; rfl
def upd (v : Nat → Int) (j : Nat) (c e : Int) (k : Nat) : Int := if k = j then e else c * v k
theorem sg_upd_lt {a v : Nat → Int} {j : Nat} {c e : Int} : ∀ n, n ≤ j → sg a (upd v j c e) n = c * sg a v n
  | 0, _ => by simp [sg]
  | n + 1, h => by
    rw [sg, sg_upd_lt n (by omega), sg, upd, if_neg (by omega), Int.mul_add]
    congr 1
    rw [← Int.mul_assoc, Int.mul_comm (a n) c, Int.mul_assoc]
theorem sg_upd {a v : Nat → Int} {j : Nat} {c e : Int} : ∀ n, j < n → sg a (upd v j c e) n = c * (sg a v n - a j * v j) + a j * e
  | 0, h => by omega
  | n + 1, h => by
    by_cases hj : j < n
    · rw [sg, sg_upd n hj, sg, upd, if_neg (by omega)]
      have e1 : a n * (c * v n) = c * (a n * v n) := by rw [← Int.mul_assoc, Int.mul_comm (a n) c, Int.mul_assoc]
      rw [e1]
      simp only [Int.mul_add, Int.mul_sub]
      omega
    · obtain rfl : j = n := by omega
      rw [sg, sg_upd_lt j (Nat.le_refl _), sg, upd, if_pos rfl]
      congr 2
      omega
theorem addM_at {p q : Int} : ∀ {a b : List Int}, a.length = b.length → ∀ k, gt0 (addM p q a b) k = p * gt0 a k + q * gt0 b k
  | [], [], _, k => by simp [addM, gt0]
  | x :: a, y :: b, h, 0 => by simp [addM, gt0]
  | x :: a, y :: b, h, k + 1 => by
    have := addM_at (p := p) (q := q) (a := a) (b := b) (by simpa using h) k
    simpa [addM, gt0] using this
theorem map_at {d : Int} {l : List Int} (h : ∀ n ∈ l, d ∣ n) (k : Nat) : gt0 l k = d * gt0 (l.map (·.tdiv d)) k := by
  unfold gt0
  rw [List.getD_eq_getElem?_getD, List.getD_eq_getElem?_getD, List.getElem?_map]
  cases e : l[k]? with
  | none => simp
  | some n => exact (Int.mul_tdiv_cancel' (h n (List.mem_of_getElem? e))).symm
theorem divX_at (x : Rw) : ∃ d : Int, 0 < d ∧ (∀ k, d * gt0 (divX x).A k = gt0 x.A k) ∧ ∀ k, d * gt0 (divX x).F k = gt0 x.F k := by
  unfold divX
  split
  · rename_i h
    have hd := (gcdF_dvd (x.A ++ x.F) 0).2
    refine ⟨gcdX x, by omega, fun k => (map_at (fun n hn => ?_) k).symm, fun k => (map_at (fun n hn => ?_) k).symm⟩
    · exact Int.ofNat_dvd_left.2 (hd n (List.mem_append_left _ hn))
    · exact Int.ofNat_dvd_left.2 (hd n (List.mem_append_right _ hn))
  · exact ⟨1, by omega, fun k => by rw [Int.one_mul], fun k => by rw [Int.one_mul]⟩
/-- A combination is one of the two rows. -/
structure IsComb (j : Nat) (r s x : Rw) : Prop where
  ex : ∃ h g p q : Int, 0 < h ∧ 0 < g ∧ 0 ≤ p ∧ 0 ≤ q ∧ g * p = -gt0 s.A j ∧ g * q = gt0 r.A j ∧ (∀ k, h * gt0 x.A k = p * gt0 r.A k + q * gt0 s.A k) ∧ ∀ k, h * gt0 x.F k = p * gt0 r.F k + q * gt0 s.F k
theorem comb_is {r s : Rw} {j w m : Nat} (hr : RowE w m r) (hs : RowE w m s) (hj : j < w) (h1 : gt0 r.A j > 0) (h2 : gt0 s.A j < 0) : IsComb j r s (divX (combX r s j)) := by
  obtain ⟨d, hd, d1, d2⟩ := divX_at (combX r s j)
  have hc := RowE.ok hr hs hj h1 h2
  obtain ⟨g0, p0, _, q0, _⟩ := comb_pos hc
  have hA : r.A.length = s.A.length := by rw [hr.lA, hs.lA]
  have hF : r.F.length = s.F.length := by rw [hr.lF, hs.lF]
  refine ⟨d, cg r s j, cp r s j, cq r s j, hd, by omega, p0, q0, ?_, ?_, fun k => by rw [d1]; exact addM_at hA k, fun k => by rw [d2]; exact addM_at hF k⟩
  · rw [cp, Int.mul_tdiv_cancel' (Int.ofNat_dvd.2 (show cg r s j ∣ _ from Nat.gcd_dvd_right _ _))]
    show _ = -(s.A.getD j 0)
    have : s.A.getD j 0 < 0 := h2
    omega
  · rw [cq, Int.mul_tdiv_cancel' (Int.ofNat_dvd.2 (show cg r s j ∣ _ from Nat.gcd_dvd_left _ _))]
    show _ = r.A.getD j 0
    have : r.A.getD j 0 > 0 := h1
    omega
theorem IsComb.zero {j : Nat} {r s x : Rw} (h : IsComb j r s x) : gt0 x.A j = 0 := by
  obtain ⟨h, g, p, q, h0, g0, p0, q0, e1, e2, e3, _⟩ := h.ex
  have e := e3 j
  have e4 : g * (h * gt0 x.A j) = 0 := by
    rw [e, Int.mul_add, ← Int.mul_assoc, ← Int.mul_assoc, e1, e2, Int.neg_mul, Int.mul_comm (gt0 s.A j)]
    omega
  rcases Int.mul_eq_zero.1 e4 with h | h
  · omega
  · rcases Int.mul_eq_zero.1 h with h | h
    · omega
    · exact h
theorem IsComb.keep {j k : Nat} {r s x : Rw} (h : IsComb j r s x) (h1 : gt0 r.A k = 0) (h2 : gt0 s.A k = 0) : gt0 x.A k = 0 := by
  obtain ⟨h, g, p, q, h0, g0, p0, q0, e1, e2, e3, _⟩ := h.ex
  have e := e3 k
  rw [h1, h2, Int.mul_zero, Int.mul_zero] at e
  rcases Int.mul_eq_zero.1 e with h | h
  · omega
  · exact h
/-- A point satisfies rows. -/
def Sat (w : Nat) (l : List Rw) (v : Nat → Int) : Prop := ∀ r ∈ l, sg (gt0 r.A) v w ≤ 0
theorem made_cases {j w m : Nat} {l l' : List Rw} (h : stageR j l = .ok l') (hj : j < w) (hE : ∀ r ∈ l, RowE w m r) {x : Rw} (hx : x ∈ l') : (x ∈ l ∧ gt0 x.A j = 0) ∨ ∃ r ∈ l, ∃ s ∈ l, gt0 r.A j > 0 ∧ gt0 s.A j < 0 ∧ IsComb j r s x := by
  rcases (stageR_ok h).1 x hx with h | ⟨r, hr, s, hs, h1, h2, rfl, _⟩
  · exact .inl h
  · exact .inr ⟨r, hr, s, hs, h1, h2, comb_is (hE r hr) (hE s hs) hj h1 h2⟩
theorem nonpos_of_mul {h x : Int} (h0 : 0 < h) (hx : h * x ≤ 0) : x ≤ 0 := by
  rcases Int.lt_or_le 0 x with hp | hp
  · have := Int.mul_pos h0 hp; omega
  · exact hp
theorem mul_nonpos {p x : Int} (h0 : 0 ≤ p) (hx : x ≤ 0) : p * x ≤ 0 := Int.mul_nonpos_of_nonneg_of_nonpos h0 hx
theorem stage_sound {j w m : Nat} {l l' : List Rw} (h : stageR j l = .ok l') (hj : j < w) (hE : ∀ r ∈ l, RowE w m r) {v : Nat → Int} (hv : Sat w l v) : Sat w l' v := by
  intro x hx
  rcases made_cases h hj hE hx with ⟨h, _⟩ | ⟨r, hr, s, hs, h1, h2, hc⟩
  · exact hv x h
  · obtain ⟨h, g, p, q, h0, g0, p0, q0, e1, e2, e3, _⟩ := hc.ex
    have e := sg_lin (v := v) w fun k _ => e3 k
    have a := mul_nonpos p0 (hv r hr)
    have b := mul_nonpos q0 (hv s hs)
    exact nonpos_of_mul h0 (by omega)
theorem stage_zero {j w m : Nat} {l l' : List Rw} (h : stageR j l = .ok l') (hj : j < w) (hE : ∀ r ∈ l, RowE w m r) (hz : ∀ r ∈ l, ∀ k, k < j → gt0 r.A k = 0) : ∀ r ∈ l', ∀ k, k < j + 1 → gt0 r.A k = 0 := by
  intro x hx k hk
  rcases made_cases h hj hE hx with ⟨h, h'⟩ | ⟨r, hr, s, hs, h1, h2, hc⟩
  · by_cases hkj : k = j
    · rw [hkj]; exact h'
    · exact hz x h k (by omega)
  · by_cases hkj : k = j
    · rw [hkj]; exact hc.zero
    · exact hc.keep (hz r hr k (by omega)) (hz s hs k (by omega))
theorem badR_iff {r : Rw} {n m : Nat} (h : RowE (n + 1) m r) : badR r = true ↔ gt0 r.A n > 0 ∧ ∀ k, k < n → gt0 r.A k = 0 := by
  unfold badR
  rw [h.lA, Bool.and_eq_true, decide_eq_true_iff, List.all_eq_true]
  refine ⟨fun ⟨h1, h2⟩ => ⟨h1, fun k hk => ?_⟩, fun ⟨h1, h2⟩ => ⟨h1, fun x hx => ?_⟩⟩
  · have hg : r.A[k]? = some (gt0 r.A k) := by rw [gt0, List.getD_eq_getElem?_getD, List.getElem?_eq_getElem (by rw [h.lA]; omega)]; rfl
    have := h2 (gt0 r.A k) (List.mem_of_getElem? (i := k) (by rw [List.getElem?_take, if_pos (by omega)]; exact hg))
    simpa using this
  · obtain ⟨k, hk⟩ := List.mem_iff_getElem?.1 hx
    rw [List.getElem?_take] at hk
    split at hk
    · have := h2 k (by omega)
      rw [gt0, List.getD_eq_getElem?_getD, hk] at this
      simpa using this
    · cases hk
theorem bad_unsat {r : Rw} {n m : Nat} (h : RowE (n + 1) m r) (hb : badR r = true) {v : Nat → Int} (hv : 0 < v n) : ¬ sg (gt0 r.A) v (n + 1) ≤ 0 := by
  obtain ⟨h1, h2⟩ := (badR_iff h).1 hb
  rw [sg, sg_zero n fun k hk => by rw [h2 k hk, Int.zero_mul]]
  have := Int.mul_pos h1 hv
  omega
theorem elim_sound {n m : Nat} {F : List Int} {v : Nat → Int} (hv : 0 < v n) : ∀ {k : Nat} {l : List Rw} {ss : List (List Rw)}, k ≤ n → (∀ r ∈ l, RowE (n + 1) m r) → elimR n k l ss = .ref F → ¬ Sat (n + 1) l v
  | 0, l, ss, _, hE, h, hs => by
    rw [elimR] at h
    split at h
    · rename_i r hr
      have := List.find?_some hr
      have hm := List.mem_of_find?_eq_some hr
      exact bad_unsat (hE r hm) this hv (hs r hm)
    · cases h
  | k + 1, l, ss, hk, hE, h, hs => by
    rw [elimR] at h
    split at h
    · rename_i r hr
      have := List.find?_some hr
      have hm := List.mem_of_find?_eq_some hr
      exact bad_unsat (hE r hm) this hv (hs r hm)
    · split at h
      · cases h
      · rename_i l' hl
        exact elim_sound hv (by omega) (stageR_E hl (by omega) hE) h (stage_sound hl (by omega) hE hs)
/-- The greatest quotient. -/
theorem exists_max : ∀ l : List (Int × Int), l ≠ [] → (∀ p ∈ l, 0 < p.2) → ∃ p ∈ l, ∀ q ∈ l, q.1 * p.2 ≤ p.1 * q.2
  | [], h, _ => absurd rfl h
  | [p], _, _ => ⟨p, by simp, fun q hq => by rw [List.mem_singleton.1 hq]; exact Int.le_refl _⟩
  | p :: p2 :: l, _, hp => by
    obtain ⟨m, hm, hmax⟩ := exists_max (p2 :: l) (by simp) fun q hq => hp q (by simp [List.mem_cons.1 hq])
    have p0 := hp p (by simp)
    have m0 := hp m (List.mem_cons_of_mem _ hm)
    rcases Int.le_total (p.1 * m.2) (m.1 * p.2) with h | h
    · refine ⟨m, by simp [List.mem_cons.1 hm], fun q hq => ?_⟩
      rcases List.mem_cons.1 hq with rfl | hq
      · exact h
      · exact hmax q hq
    · refine ⟨p, by simp, fun q hq => ?_⟩
      rcases List.mem_cons.1 hq with rfl | hq
      · exact Int.le_refl _
      · have q0 := hp q (List.mem_cons_of_mem _ hq)
        have h1 := Int.mul_le_mul_of_nonneg_right (hmax q hq) (Int.le_of_lt p0)
        have h2 := Int.mul_le_mul_of_nonneg_right h (Int.le_of_lt q0)
        refine Int.le_of_mul_le_mul_right (a := m.2) ?_ m0
        have e1 : q.1 * p.2 * m.2 = q.1 * m.2 * p.2 := by rw [Int.mul_assoc, Int.mul_comm p.2, ← Int.mul_assoc]
        have e2 : m.1 * q.2 * p.2 = m.1 * p.2 * q.2 := by rw [Int.mul_assoc, Int.mul_comm q.2, ← Int.mul_assoc]
        have e3 : p.1 * q.2 * m.2 = p.1 * m.2 * q.2 := by rw [Int.mul_assoc, Int.mul_comm q.2, ← Int.mul_assoc]
        rw [e1, e3]
        rw [e2] at h1
        omega
/-- A solution of a stage's result is one of the stage's rows, but for one number and a factor. -/
theorem stage_complete {j w m n : Nat} {l l' : List Rw} (h : stageR j l = .ok l') (hjn : j < n) (hw : w = n + 1) (hE : ∀ r ∈ l, RowE w m r) {v : Nat → Int} (hv : Sat w l' v) (hv0 : 0 < v n) : ∃ u, Sat w l u ∧ 0 < u n := by
  obtain ⟨_, hkeep, hcomb⟩ := stageR_ok h
  -- the rest of a row
  have hrest : ∀ r : Rw, ∀ c e : Int, sg (gt0 r.A) (upd v j c e) w = c * (sg (gt0 r.A) v w - gt0 r.A j * v j) + gt0 r.A j * e := fun r c e => sg_upd w (by omega)
  generalize hrho : (fun r : Rw => sg (gt0 r.A) v w - gt0 r.A j * v j) = rho at *
  have hrest' : ∀ r : Rw, ∀ c e : Int, sg (gt0 r.A) (upd v j c e) w = c * rho r + gt0 r.A j * e := fun r c e => by rw [← hrho]; exact hrest r c e
  have hZ : ∀ r ∈ l, gt0 r.A j = 0 → rho r ≤ 0 := fun r hr h0 => by
    obtain ⟨x, hx, e⟩ := hkeep r hr h0
    have := hv x hx
    rw [e] at this
    rw [← hrho]; simp only [h0, Int.zero_mul]; omega
  have hPN : ∀ r ∈ l, gt0 r.A j > 0 → ∀ s ∈ l, gt0 s.A j < 0 → -gt0 s.A j * rho r + gt0 r.A j * rho s ≤ 0 := fun r hr h1 s hs h2 => by
    obtain ⟨_, x, hx, e⟩ := hcomb r hr h1 s hs h2
    have hx' := hv x hx
    rw [e] at hx'
    have hc := comb_is (hE r hr) (hE s hs) (by omega) h1 h2
    have hz := hc.zero
    generalize divX (combX r s j) = y at hx' hc hz
    obtain ⟨h, g, p, q, h0, g0, p0, q0, e1, e2, e3, _⟩ := hc.ex
    have e := sg_lin (v := v) w fun k _ => e3 k
    have e4 : p * gt0 r.A j + q * gt0 s.A j = 0 := by rw [← e3, hz, Int.mul_zero]
    have e5 : p * rho r + q * rho s = h * sg (gt0 y.A) v w := by
      rw [e, ← hrho]
      simp only [Int.mul_sub]
      have : p * (gt0 r.A j * v j) + q * (gt0 s.A j * v j) = 0 := by rw [← Int.mul_assoc, ← Int.mul_assoc, ← Int.add_mul, e4, Int.zero_mul]
      omega
    have e6 : h * sg (gt0 y.A) v w ≤ 0 := mul_nonpos (Int.le_of_lt h0) hx'
    rw [← e1, ← e2, Int.mul_assoc, Int.mul_assoc, ← Int.mul_add, e5]
    exact mul_nonpos (Int.le_of_lt g0) e6
  by_cases hN : ∃ s ∈ l, gt0 s.A j < 0
  · -- the greatest lower bound
    obtain ⟨p, hp, hmax⟩ := exists_max ((l.filter fun s => decide (gt0 s.A j < 0)).map fun s => (rho s, -gt0 s.A j)) (by
      obtain ⟨s, hs, h⟩ := hN
      exact List.ne_nil_of_mem (List.mem_map.2 ⟨s, List.mem_filter.2 ⟨hs, by simpa using h⟩, rfl⟩)) (fun p hp => by
      obtain ⟨s, hs, rfl⟩ := List.mem_map.1 hp
      have := (List.mem_filter.1 hs).2
      simp only [decide_eq_true_eq] at this
      simp only; omega)
    obtain ⟨s, hs, rfl⟩ := List.mem_map.1 hp
    obtain ⟨hs1, hs2⟩ := List.mem_filter.1 hs
    simp only [decide_eq_true_eq] at hs2
    refine ⟨upd v j (-gt0 s.A j) (rho s), fun r hr => ?_, ?_⟩
    · rw [hrest']
      rcases Int.lt_trichotomy (gt0 r.A j) 0 with h | h | h
      · have := hmax (rho r, -gt0 r.A j) (List.mem_map.2 ⟨r, List.mem_filter.2 ⟨hr, by simpa using h⟩, rfl⟩)
        simp only at this
        rw [Int.mul_comm (rho r), Int.mul_comm (rho s), Int.neg_mul (gt0 r.A j)] at this
        omega
      · rw [h, Int.zero_mul, Int.add_zero]
        exact mul_nonpos (by omega) (hZ r hr h)
      · exact hPN r hr h s hs1 hs2
    · rw [upd, if_neg (by omega)]
      exact Int.mul_pos (by omega) hv0
  · by_cases hP : ∃ s ∈ l, gt0 s.A j > 0
    · obtain ⟨p, hp, hmax⟩ := exists_max ((l.filter fun s => decide (gt0 s.A j > 0)).map fun s => (rho s, gt0 s.A j)) (by
        obtain ⟨s, hs, h⟩ := hP
        exact List.ne_nil_of_mem (List.mem_map.2 ⟨s, List.mem_filter.2 ⟨hs, by simpa using h⟩, rfl⟩)) (fun p hp => by
        obtain ⟨s, hs, rfl⟩ := List.mem_map.1 hp
        have := (List.mem_filter.1 hs).2
        simp only [decide_eq_true_eq] at this
        simp only; omega)
      obtain ⟨s, hs, rfl⟩ := List.mem_map.1 hp
      obtain ⟨hs1, hs2⟩ := List.mem_filter.1 hs
      simp only [decide_eq_true_eq] at hs2
      refine ⟨upd v j (gt0 s.A j) (-rho s), fun r hr => ?_, ?_⟩
      · rw [hrest']
        rcases Int.lt_trichotomy (gt0 r.A j) 0 with h | h | h
        · exact absurd ⟨r, hr, h⟩ hN
        · rw [h, Int.zero_mul, Int.add_zero]
          exact mul_nonpos (by omega) (hZ r hr h)
        · have := hmax (rho r, gt0 r.A j) (List.mem_map.2 ⟨r, List.mem_filter.2 ⟨hr, by simpa using h⟩, rfl⟩)
          simp only at this
          rw [Int.mul_comm (rho r), Int.mul_comm (rho s)] at this
          rw [Int.mul_neg]
          omega
      · rw [upd, if_neg (by omega)]
        exact Int.mul_pos (by omega) hv0
    · refine ⟨upd v j 1 0, fun r hr => ?_, ?_⟩
      · rw [hrest', Int.mul_zero, Int.one_mul, Int.add_zero]
        rcases Int.lt_trichotomy (gt0 r.A j) 0 with h | h | h
        · exact absurd ⟨r, hr, h⟩ hN
        · exact hZ r hr h
        · exact absurd ⟨r, hr, h⟩ hP
      · rw [upd, if_neg (by omega), Int.one_mul]
        exact hv0
theorem end_sat {n m : Nat} {l : List Rw} (hE : ∀ r ∈ l, RowE (n + 1) m r) (hz : ∀ r ∈ l, ∀ k, k < n → gt0 r.A k = 0) (hf : l.find? badR = none) : ∀ r ∈ l, gt0 r.A n ≤ 0 := by
  intro r hr
  have h1 := List.find?_eq_none.1 hf r hr
  rw [badR_iff (hE r hr)] at h1
  rcases Int.lt_or_le 0 (gt0 r.A n) with h | h
  · exact absurd ⟨h, hz r hr⟩ h1
  · exact h
theorem elim_complete {n m : Nat} {S : List (List Rw)} : ∀ {k : Nat} {l : List Rw} {ss : List (List Rw)}, k ≤ n → (∀ r ∈ l, RowE (n + 1) m r) → (∀ r ∈ l, ∀ i, i < n - k → gt0 r.A i = 0) → elimR n k l ss = .sts S → ∃ v, Sat (n + 1) l v ∧ 0 < v n
  | 0, l, ss, _, hE, hz, h => by
    rw [elimR] at h
    split at h
    · cases h
    · rename_i hf
      have := end_sat hE hz hf
      refine ⟨fun _ => 1, fun r hr => ?_, by simp⟩
      rw [sg, sg_zero n fun i hi => by rw [hz r hr i (by omega), Int.zero_mul]]
      have := this r hr
      omega
  | k + 1, l, ss, hk, hE, hz, h => by
    rw [elimR] at h
    split at h
    · cases h
    · split at h
      · cases h
      · rename_i l' hl
        obtain ⟨v, h1, h2⟩ := elim_complete (by omega) (stageR_E hl (by omega) hE) (fun r hr i hi => stage_zero hl (by omega) hE hz r hr i (by omega)) h
        exact stage_complete hl (by omega) rfl hE h1 h2
end Go.Proofs.Eng
