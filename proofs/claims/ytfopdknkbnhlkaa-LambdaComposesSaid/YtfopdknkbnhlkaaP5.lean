/- P5: what functions of the program return. No conditions beyond those in the theorems. -/
import Derived.Test.YtfopdknkbnhlkaaP4
set_option linter.all false
set_option linter.deprecated false
set_option linter.unnecessarySimpa false
set_option linter.unusedVariables false
set_option linter.unusedSimpArgs false
set_option linter.defProp false
namespace Go.Proofs.Eng
open Go Go.Proofs
/-- Closed values without kids. -/
def Ex.shut (v : Ex) : Prop := v.k ≠ 0 ∧ v.kids = []
theorem mv_shut {g : Int → Int → Ex} {d : Int} {v : Ex} (h : v.shut) : v.mv g d = v := by
  obtain ⟨k, i, n, s, kids⟩ := v
  obtain ⟨h1, h2⟩ := h
  simp only [Ex.k, Ex.kids] at h1 h2
  subst h2
  rw [Ex.mv, if_neg h1, mvL]
theorem lift_shut {b : Int} {v : Ex} (h : v.shut) : v.lift b = v := by
  unfold Ex.lift
  split
  · rfl
  · exact mv_shut h
theorem mv_mv {B D : Int} {g1 g2 g3 : Int → Int → Ex} (hD : D ≤ B62) (hg : ∀ i d, 0 ≤ i → i ≤ B → 0 ≤ d → d ≤ D → (g1 i d).mv g2 d = g3 i d) (e : Ex) : ∀ {d : Int}, e.gd B → 0 ≤ d → d + 64 * e.dep ≤ D → (e.mv g1 d).mv g2 d = e.mv g3 d := by
  induction e using Ex.ind with
  | h k i n s kids ih =>
    intro d h hd0 hd
    rw [Ex.gd_iff] at h
    obtain ⟨f1, f2, f3⟩ := h
    have hf := fm_facts f1
    rw [Ex.mv, Ex.mv]
    by_cases k0 : k = 0
    · rw [if_pos k0, if_pos k0]
      exact hg i d hf.2.2.1 (f2 k0) hd0 (by omega)
    · rw [if_neg k0, if_neg k0, Ex.mv, if_neg k0]
      simp only [Ex.dep] at hd
      have key : ∀ (l : List Ex) (j : Nat), (∀ x ∈ l, x ∈ kids) → mvL g2 k s d j (mvL g1 k s d j l) = mvL g3 k s d j l := by
        intro l
        induction l with
        | nil => intro j _; simp [mvL]
        | cons x l ihl =>
          intro j hl
          simp only [mvL]
          have hu := under_range (k := k) hf.2.2.2.2.2.1 j
          have hx := dep_kid (hl x (by simp))
          have hw : w64 (d + under k s j) = d + under k s j := wrap_in (by unfold in64; unfold B62 at hD; omega)
          rw [hw, ih x (hl x (by simp)) (f3 x (hl x (by simp))) (by omega) (by omega), ihl (j + 1) fun y hy => hl y (by simp [hy])]
      rw [key kids 0 fun x hx => hx]
theorem subst_cons {B D : Int} (hB : B + D ≤ B62) (hB0 : 0 ≤ D) (hB1 : 0 ≤ B) {e v : Ex} {vs : List Ex} (h : e.gd B) (hd : 64 * (e.dep : Int) ≤ D) (hv : v.shut) (hvs : ∀ v ∈ vs, v.shut) (hl : vs.length ≤ 6) : (e.subst [v]).subst vs = e.subst (v :: vs) := by
  unfold Ex.subst
  refine mv_mv (B := B) (D := D) (by omega) (fun i d i0 i1 d0 d1 => ?_) e h (Int.le_refl _) (by omega)
  have hw : ∀ x : Int, -10 - B62 ≤ x → x ≤ B62 → w64 x = x := fun x h1 h2 => wrap_in (by unfold in64; unfold B62 at h1 h2; omega)
  unfold substG
  by_cases c1 : i < d
  · rw [if_pos c1, if_pos c1]
    show substG vs i d = _
    unfold substG
    rw [if_pos c1]
  · rw [if_neg c1, if_neg c1, hw (i - d) (by omega) (by omega)]
    by_cases c2 : i = d
    · subst c2
      rw [if_pos (by simp), if_pos (by simp)]
      simp only [Int.sub_self, Int.toNat_zero, List.getD_cons_zero]
      rw [lift_shut hv, mv_shut hv]
    · rw [if_neg (by simp; omega)]
      rw [show (([v] : List Ex).length : Int) = 1 from rfl, hw (i - 1) (by omega) (by omega)]
      show substG vs (i - 1) d = _
      unfold substG
      rw [if_neg (by omega), hw (i - 1 - d) (by omega) (by omega)]
      have e1 : (i - d).toNat = (i - 1 - d).toNat + 1 := by omega
      by_cases c3 : i - 1 - d < vs.length
      · rw [if_pos c3, if_pos (by simp; omega), e1, List.getD_cons_succ]
      · rw [if_neg c3, if_neg (by simp; omega), hw _ (by omega) (by omega), hw _ (by simp; omega) (by omega)]
        congr 1
        simp; omega
theorem subst_nil {B D : Int} (hB : B + D ≤ B62) (hB0 : 0 ≤ D) (hB1 : 0 ≤ B) {e : Ex} (h : e.gd B) (hd : 64 * (e.dep : Int) ≤ D) : e.subst [] = e := by
  have h0 := mv_id (g := fun i _ => Ex.var i) (fun _ _ _ _ => rfl) e (d := 0) h
  have h1 := mv_mv (B := B) (D := D) (g1 := fun i _ => Ex.var i) (g2 := substG []) (g3 := fun i _ => Ex.var i) (by omega) (fun i d i0 i1 d0 d1 => by
    show substG [] i d = _
    unfold substG
    split
    · rfl
    · rw [show w64 (i - d) = i - d from wrap_in (by unfold in64; unfold B62 at hB; omega), if_neg (by simp; omega)]
      congr 1
      rw [show (([] : List Ex).length : Int) = 0 from rfl, Int.sub_zero]
      exact wrap_in (by unfold in64; unfold B62 at hB; omega)) e h (Int.le_refl _) (by omega)
  rw [h0] at h1
  exact h1
theorem shut_sz {v : Ex} (h : v.shut) : v.sz = 1 := by
  obtain ⟨k, i, n, s, kids⟩ := v
  obtain ⟨h1, h2⟩ := h
  simp only [Ex.kids] at h2
  subst h2
  simp [Ex.sz, szL]
/-- Closed values: one by one is all at once. -/
theorem subst_all : ∀ (vs : List Ex) {B : Int} {e : Ex}, 0 ≤ B → B + 3840 * (vs.length + 1) ≤ B62 → e.gd B → e.sz ≤ 60 → (∀ v ∈ vs, v.shut ∧ v.gd B) → vs.length ≤ 6 → vs.foldl (fun x v => x.subst [v]) e = e.subst vs
  | [], B, e, hB, hl, h, hs, _, _ => by
    have := dep_sz e
    exact (subst_nil (B := B) (D := 3840) (by simp at hl; omega) (by omega) hB h (by omega)).symm
  | v :: vs, B, e, hB, hl, h, hs, hv, hn => by
    have hd := dep_sz e
    have h1 := hv v (by simp)
    have hdv := dep_sz v
    rw [shut_sz h1.1] at hdv
    simp only [List.length_cons] at hl hn
    have hg := subst_gd (B := B) (D := 3840) hB (by omega) h (by omega) (vs := [v]) (fun x hx => by simp at hx; subst hx; exact ⟨h1.2, by omega⟩)
    have hz := subst_sz (e := e) (vs := [v]) (M := 1) (Nat.le_refl _) (fun x hx => by simp at hx; subst hx; rw [shut_sz h1.1]; exact Nat.le_refl _)
    rw [List.foldl_cons, subst_all vs (B := B + 3840) (by omega) (by omega) hg (by omega) (fun x hx => ⟨(hv x (by simp [hx])).1, gd_mono (by omega) x (hv x (by simp [hx])).2⟩) (by omega)]
    exact subst_cons (B := B) (D := 3840) (by omega) (by omega) hB h (by omega) h1.1 (fun x hx => (hv x (by simp [hx])).1) (by omega)
theorem fold_gd : ∀ (vs : List Ex) {B : Int} {e : Ex}, 0 ≤ B → B + 3840 * (vs.length + 1) ≤ B62 → e.gd B → e.sz ≤ 60 → (∀ v ∈ vs, v.shut ∧ v.gd B) → (vs.foldl (fun x v => x.subst [v]) e).gd (B + 3840 * vs.length) ∧ (vs.foldl (fun x v => x.subst [v]) e).sz ≤ 60
  | [], B, e, hB, hl, h, hs, _ => by
    simpa using ⟨h, hs⟩
  | v :: vs, B, e, hB, hl, h, hs, hv => by
    have hd := dep_sz e
    have h1 := hv v (by simp)
    have hdv := dep_sz v
    rw [shut_sz h1.1] at hdv
    simp only [List.length_cons] at hl
    have hg := subst_gd (B := B) (D := 3840) hB (by omega) h (by omega) (vs := [v]) (fun x hx => by simp at hx; subst hx; exact ⟨h1.2, by omega⟩)
    have hz := subst_sz (e := e) (vs := [v]) (M := 1) (Nat.le_refl _) (fun x hx => by simp at hx; subst hx; rw [shut_sz h1.1]; exact Nat.le_refl _)
    have := fold_gd vs (B := B + 3840) (by omega) (by omega) hg (by omega) (fun x hx => ⟨(hv x (by simp [hx])).1, gd_mono (by omega) x (hv x (by simp [hx])).2⟩)
    rw [List.foldl_cons, List.length_cons]
    exact ⟨gd_mono (by omega) _ this.1, this.2⟩
end Go.Proofs.Eng
