/- P4: what functions of the program return. No conditions beyond those in the theorems. -/
import Derived.Test.YtfopdknkbnhlkaaP3
import Derived.Test.YtfopdknkbnhlkaaA5
set_option linter.all false
set_option linter.deprecated false
set_option linter.unnecessarySimpa false
set_option linter.unusedVariables false
set_option linter.unusedSimpArgs false
set_option linter.defProp false
namespace Go.Proofs.Eng
open Go Go.Proofs
theorem size_zero {n : ByteArray} (h : n.size = 0) : n = ⟨#[]⟩ := by
  cases n with
  | mk a =>
    have : a.size = 0 := h
    rw [Array.size_eq_zero_iff.1 this]
/-- The reference's way and the program's way through a well-formed expression. -/
theorem mw_mv {B : Int} {g : Int → Int → Ex} {g' : Ex → Int → Ex} (hg : ∀ i d, 0 ≤ i → i ≤ B → g' (.var i) d = g i d) (e : Ex) : ∀ {d : Int}, e.gd B → e.mw g' d = e.mv g d := by
  induction e using Ex.ind with
  | h k i n s kids ih =>
    intro d h
    rw [Ex.gd_iff] at h
    obtain ⟨f1, f2, f3⟩ := h
    have hf := fm_facts f1
    rw [Ex.mw, Ex.mv]
    by_cases k0 : k = 0
    · rw [if_pos k0, if_pos k0]
      obtain ⟨z1, z2, z3⟩ := hf.2.2.2.2.2.2.1 k0
      subst k0
      rw [size_zero z3, z2, List.eq_nil_of_length_eq_zero z1]
      exact hg i d hf.2.2.1 (f2 rfl)
    · rw [if_neg k0, if_neg k0]
      have key : ∀ (l : List Ex) (j : Nat), (∀ x ∈ l, x ∈ kids) → mwL g' k s d j l = mvL g k s d j l := by
        intro l
        induction l with
        | nil => intro j _; simp [mwL, mvL]
        | cons x l ihl =>
          intro j hl
          simp only [mwL, mvL]
          rw [ih x (hl x (by simp)) (f3 x (hl x (by simp))), ihl (j + 1) fun y hy => hl y (by simp [hy])]
      rw [key kids 0 fun x hx => hx]
theorem mv_id {B : Int} {g : Int → Int → Ex} (hg : ∀ i d, 0 ≤ i → i ≤ B → g i d = .var i) (e : Ex) : ∀ {d : Int}, e.gd B → e.mv g d = e := by
  induction e using Ex.ind with
  | h k i n s kids ih =>
    intro d h
    rw [Ex.gd_iff] at h
    obtain ⟨f1, f2, f3⟩ := h
    have hf := fm_facts f1
    rw [Ex.mv]
    by_cases k0 : k = 0
    · rw [if_pos k0]
      obtain ⟨z1, z2, z3⟩ := hf.2.2.2.2.2.2.1 k0
      subst k0
      rw [size_zero z3, z2, List.eq_nil_of_length_eq_zero z1]
      exact hg i d hf.2.2.1 (f2 rfl)
    · rw [if_neg k0]
      have key : ∀ (l : List Ex) (j : Nat), (∀ x ∈ l, x ∈ kids) → mvL g k s d j l = l := by
        intro l
        induction l with
        | nil => intro j _; simp [mvL]
        | cons x l ihl =>
          intro j hl
          simp only [mvL]
          rw [ih x (hl x (by simp)) (f3 x (hl x (by simp))), ihl (j + 1) fun y hy => hl y (by simp [hy])]
      rw [key kids 0 fun x hx => hx]
theorem shift_lift {B : Int} (hB : B ≤ B62) {b : Int} {e : Ex} (h : e.gd B) : e.shift b 0 = e.lift b := by
  unfold Ex.shift Ex.lift
  rw [mw_mv (B := B) (g := liftG b) (fun i d i0 i1 => rfl) e h]
  by_cases hb : b = 0
  · rw [if_pos hb]
    subst hb
    refine mv_id (B := B) (fun i d i0 i1 => ?_) e h
    unfold liftG
    split
    · rw [show w64 (i + 0) = i from by rw [Int.add_zero]; exact wrap_in (by unfold in64; unfold B62 at hB; omega)]
    · rfl
  · rw [if_neg hb]
theorem rsubst_eq {B : Int} (hB : B ≤ B62) {e : Ex} (h : e.gd B) {vs : List Ex} (hv : ∀ v ∈ vs, v.gd B) : e.rsubst vs = e.subst vs := by
  unfold Ex.rsubst Ex.subst
  refine mw_mv (B := B) (fun i d i0 i1 => ?_) e h
  show (if i < d then Ex.var i else if w64 (i - d) < vs.length then (vs.getD (w64 (i - d)).toNat .zero).shift d 0 else .mk 0 (w64 (i - vs.length)) ⟨#[]⟩ [] []) = substG vs i d
  unfold substG
  split
  · rfl
  · split
    · cases hx : vs[(w64 (i - d)).toNat]? with
      | none =>
        simp only [List.getD, hx, Option.getD_none]
        exact shift_lift (B := 0) (by unfold B62; omega) (by rw [show Ex.zero = Ex.var 0 from rfl]; exact var_gd (Int.le_refl _) (Int.le_refl _))
      | some x =>
        simp only [List.getD, hx, Option.getD_some]
        exact shift_lift hB (hv x (List.mem_of_getElem? hx))
    · rfl
theorem few_gd {gl : ByteArray → Bool} {e : Ex} (h : e.few gl = true) : e.gd 1073745664 ∧ e.sz ≤ 60 := by
  simp only [Ex.few, Bool.and_eq_true, beq_iff_eq] at h
  have hs := small60 h.1
  have hd := dep_sz e
  exact ⟨gd_mono (by omega) e (err_gd e h.2 (by omega) (by unfold B62; omega)), hs⟩
theorem few_all {gl : ByteArray → Bool} {e : Ex} (h : e.few gl = true) : e.wf ∧ e.fits 0 ∧ e.slim ∧ 64 * (e.dep : Int) ≤ B62 := by
  have := few_gd h
  have hd := dep_sz e
  have hw := gd_wf e this.1
  exact ⟨hw, fits_of e hw (by omega) (by unfold B62; omega), slim_of e hw, by unfold B62; omega⟩
end Go.Proofs.Eng
