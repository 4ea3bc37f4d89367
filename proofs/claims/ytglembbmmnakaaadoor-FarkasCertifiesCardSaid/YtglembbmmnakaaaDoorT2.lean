/- Sums of products; what the rows of the elimination say of a point. No conditions beyond those in the theorems. -/
import Derived.Test.YtglembbmmnakaaaDoorT1
set_option linter.all false
set_option linter.deprecated false
set_option linter.unnecessarySimpa false
set_option linter.unusedVariables false
set_option linter.unusedSimpArgs false
set_option linter.defProp false
namespace Go.Proofs.Eng
open Go Go.Proofs
def gt0 (A : List Int) (k : Nat) : Int := A.getD k 0
/-- The sum of the products of the first numbers. -/
def sg (a v : Nat → Int) : Nat → Int
  | 0 => 0
  | n + 1 => sg a v n + a n * v n
theorem sg_lin {a b c v : Nat → Int} {h p q : Int} : ∀ n, (∀ k, k < n → h * c k = p * a k + q * b k) → h * sg c v n = p * sg a v n + q * sg b v n
  | 0, _ => by simp [sg]
  | n + 1, H => by
    have ih := sg_lin (v := v) n fun k hk => H k (by omega)
    have e := H n (by omega)
    have e2 : h * (c n * v n) = p * (a n * v n) + q * (b n * v n) := by
      rw [← Int.mul_assoc, e, Int.add_mul, Int.mul_assoc, Int.mul_assoc]
    simp only [sg, Int.mul_add, ih, e2]
    omega
theorem sg_congr {a b v u : Nat → Int} : ∀ n, (∀ k, k < n → a k * v k = b k * u k) → sg a v n = sg b u n
  | 0, _ => rfl
  | n + 1, H => by rw [sg, sg, sg_congr n fun k hk => H k (by omega), H n (by omega)]
theorem sg_zero {a v : Nat → Int} : ∀ n, (∀ k, k < n → a k * v k = 0) → sg a v n = 0
  | 0, _ => rfl
  | n + 1, H => by rw [sg, sg_zero n fun k hk => H k (by omega), H n (by omega)]; rfl
theorem addM_at {p q : Int} : ∀ {a b : List Int}, a.length = b.length → ∀ k, gt0 (addM p q a b) k = p * gt0 a k + q * gt0 b k
  | [], [], _, k => by simp [addM, gt0]
  | x :: a, y :: b, h, 0 => by simp [addM, gt0]
  | x :: a, y :: b, h, k + 1 => by
    have := addM_at (p := p) (q := q) (a := a) (b := b) (by simpa using h) k
    simpa [addM, gt0] using this
theorem map_at {d : Int} {l : List Int} (h : ∀ n ∈ l, d ∣ n) (k : Nat) : gt0 l k = d * gt0 (l.map (·.tdiv d)) k := by
  unfold gt0
  rw [List.getD_eq_getElem?_getD, List.getD_eq_getElem?_getD, List.getElem?_map]
  cases e : l[k]? with
  | none => simp
  | some n => exact (Int.mul_tdiv_cancel' (h n (List.mem_of_getElem? e))).symm
theorem divX_at (x : Rw) : ∃ d : Int, 0 < d ∧ (∀ k, d * gt0 (divX x).A k = gt0 x.A k) ∧ ∀ k, d * gt0 (divX x).F k = gt0 x.F k := by
  unfold divX
  split
  · rename_i h
    have hd := (gcdF_dvd (x.A ++ x.F) 0).2
    refine ⟨gcdX x, by omega, fun k => (map_at (fun n hn => ?_) k).symm, fun k => (map_at (fun n hn => ?_) k).symm⟩
    · exact Int.ofNat_dvd_left.2 (hd n (List.mem_append_left _ hn))
    · exact Int.ofNat_dvd_left.2 (hd n (List.mem_append_right _ hn))
  · exact ⟨1, by omega, fun k => by rw [Int.one_mul], fun k => by rw [Int.one_mul]⟩
/-- A combination is one of the two rows. -/
structure IsComb (j : Nat) (r s x : Rw) : Prop where
  ex : ∃ h g p q : Int, 0 < h ∧ 0 < g ∧ 0 ≤ p ∧ 0 ≤ q ∧ g * p = -gt0 s.A j ∧ g * q = gt0 r.A j ∧ (∀ k, h * gt0 x.A k = p * gt0 r.A k + q * gt0 s.A k) ∧ ∀ k, h * gt0 x.F k = p * gt0 r.F k + q * gt0 s.F k
theorem comb_is {r s : Rw} {j w m : Nat} (hr : RowE w m r) (hs : RowE w m s) (hj : j < w) (h1 : gt0 r.A j > 0) (h2 : gt0 s.A j < 0) : IsComb j r s (divX (combX r s j)) := by
  obtain ⟨d, hd, d1, d2⟩ := divX_at (combX r s j)
  have hc := RowE.ok hr hs hj h1 h2
  obtain ⟨g0, p0, _, q0, _⟩ := comb_pos hc
  have hA : r.A.length = s.A.length := by rw [hr.lA, hs.lA]
  have hF : r.F.length = s.F.length := by rw [hr.lF, hs.lF]
  refine ⟨d, cg r s j, cp r s j, cq r s j, hd, by omega, p0, q0, ?_, ?_, fun k => by rw [d1]; exact addM_at hA k, fun k => by rw [d2]; exact addM_at hF k⟩
  · rw [cp, Int.mul_tdiv_cancel' (Int.ofNat_dvd.2 (show cg r s j ∣ _ from Nat.gcd_dvd_right _ _))]
    show _ = -(s.A.getD j 0)
    have : s.A.getD j 0 < 0 := h2
    omega
  · rw [cq, Int.mul_tdiv_cancel' (Int.ofNat_dvd.2 (show cg r s j ∣ _ from Nat.gcd_dvd_left _ _))]
    show _ = r.A.getD j 0
    have : r.A.getD j 0 > 0 := h1
    omega
theorem IsComb.zero {j : Nat} {r s x : Rw} (h : IsComb j r s x) : gt0 x.A j = 0 := by
  obtain ⟨h, g, p, q, h0, g0, p0, q0, e1, e2, e3, _⟩ := h.ex
  have e := e3 j
  have e4 : g * (h * gt0 x.A j) = 0 := by
    rw [e, Int.mul_add, ← Int.mul_assoc, ← Int.mul_assoc, e1, e2, Int.neg_mul, Int.mul_comm (gt0 s.A j)]
    omega
  rcases Int.mul_eq_zero.1 e4 with h | h
  · omega
  · rcases Int.mul_eq_zero.1 h with h | h
    · omega
    · exact h
theorem IsComb.keep {j k : Nat} {r s x : Rw} (h : IsComb j r s x) (h1 : gt0 r.A k = 0) (h2 : gt0 s.A k = 0) : gt0 x.A k = 0 := by
  obtain ⟨h, g, p, q, h0, g0, p0, q0, e1, e2, e3, _⟩ := h.ex
  have e := e3 k
  rw [h1, h2, Int.mul_zero, Int.mul_zero] at e
  rcases Int.mul_eq_zero.1 e with h | h
  · omega
  · exact h
/-- A point satisfies rows. -/
def Sat (w : Nat) (l : List Rw) (v : Nat → Int) : Prop := ∀ r ∈ l, sg (gt0 r.A) v w ≤ 0
theorem made_cases {j w m : Nat} {l l' : List Rw} (h : stageR j l = .ok l') (hj : j < w) (hE : ∀ r ∈ l, RowE w m r) {x : Rw} (hx : x ∈ l') : (x ∈ l ∧ gt0 x.A j = 0) ∨ ∃ r ∈ l, ∃ s ∈ l, gt0 r.A j > 0 ∧ gt0 s.A j < 0 ∧ IsComb j r s x := by
  rcases (stageR_ok h).1 x hx with h | ⟨r, hr, s, hs, h1, h2, rfl, _⟩
  · exact .inl h
  · exact .inr ⟨r, hr, s, hs, h1, h2, comb_is (hE r hr) (hE s hs) hj h1 h2⟩
theorem stage_zero {j w m : Nat} {l l' : List Rw} (h : stageR j l = .ok l') (hj : j < w) (hE : ∀ r ∈ l, RowE w m r) (hz : ∀ r ∈ l, ∀ k, k < j → gt0 r.A k = 0) : ∀ r ∈ l', ∀ k, k < j + 1 → gt0 r.A k = 0 := by
  intro x hx k hk
  rcases made_cases h hj hE hx with ⟨h, h'⟩ | ⟨r, hr, s, hs, h1, h2, hc⟩
  · by_cases hkj : k = j
    · rw [hkj]; exact h'
    · exact hz x h k (by omega)
  · by_cases hkj : k = j
    · rw [hkj]; exact hc.zero
    · exact hc.keep (hz r hr k (by omega)) (hz s hs k (by omega))
theorem badR_iff {r : Rw} {n m : Nat} (h : RowE (n + 1) m r) : badR r = true ↔ gt0 r.A n > 0 ∧ ∀ k, k < n → gt0 r.A k = 0 := by
  unfold badR
  rw [h.lA, Bool.and_eq_true, decide_eq_true_iff, List.all_eq_true]
  refine ⟨fun ⟨h1, h2⟩ => ⟨h1, fun k hk => ?_⟩, fun ⟨h1, h2⟩ => ⟨h1, fun x hx => ?_⟩⟩
  · have hg : r.A[k]? = some (gt0 r.A k) := by rw [gt0, List.getD_eq_getElem?_getD, List.getElem?_eq_getElem (by rw [h.lA]; omega)]; rfl
    have := h2 (gt0 r.A k) (List.mem_of_getElem? (i := k) (by rw [List.getElem?_take, if_pos (by omega)]; exact hg))
    simpa using this
  · obtain ⟨k, hk⟩ := List.mem_iff_getElem?.1 hx
    rw [List.getElem?_take] at hk
    split at hk
    · have := h2 k (by omega)
      rw [gt0, List.getD_eq_getElem?_getD, hk] at this
      simpa using this
    · cases hk
theorem end_sat {n m : Nat} {l : List Rw} (hE : ∀ r ∈ l, RowE (n + 1) m r) (hz : ∀ r ∈ l, ∀ k, k < n → gt0 r.A k = 0) (hf : l.find? badR = none) : ∀ r ∈ l, gt0 r.A n ≤ 0 := by
  intro r hr
  have h1 := List.find?_eq_none.1 hf r hr
  rw [badR_iff (hE r hr)] at h1
  rcases Int.lt_or_le 0 (gt0 r.A n) with h | h
  · exact absurd ⟨h, hz r hr⟩ h1
  · exact h
end Go.Proofs.Eng
