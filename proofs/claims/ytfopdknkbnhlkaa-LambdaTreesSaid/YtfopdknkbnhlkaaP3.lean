/- P3: what functions of the program return. No conditions beyond those in the theorems. -/
import Derived.Test.YtfopdknkbnhlkaaP2
import Derived.Test.YtfopdknkbnhlkaaE7
import Derived.Test.YtfopdknkbnhlkaaC1
set_option linter.all false
set_option linter.deprecated false
set_option linter.unnecessarySimpa false
set_option linter.unusedVariables false
set_option linter.unusedSimpArgs false
set_option linter.defProp false
namespace Go.Proofs.Eng
open Go Go.Proofs
theorem err_gd {gl : ByteArray → Bool} (e : Ex) : ∀ {v : Int}, e.err gl v = 0 → 0 ≤ v → v + 64 * e.dep ≤ B62 → e.gd (v + 64 * e.dep) := by
  induction e using Ex.ind with
  | h k i n s kids ih =>
    intro v h h0 h1
    rw [Ex.err] at h
    split at h
    · cases h
    rename_i hfm
    have f1 : fmB k i n s kids.length = true := by simpa using hfm
    split at h
    · cases h
    split at h
    · cases h
    rename_i hsc
    split at h
    · cases h
    have hf := fm_facts f1
    simp only [Ex.dep] at h1
    rw [Ex.gd_iff]
    refine ⟨f1, fun k0 => ?_, ?_⟩
    · have : ¬ i ≥ v := fun hi => hsc ⟨k0, by simpa using hi⟩
      omega
    · have key : ∀ (l : List Ex) (j : Nat), (∀ x ∈ l, x ∈ kids) → errL gl k s v j l = 0 → ∀ x ∈ l, x.gd (v + 64 * (Ex.mk k i n s kids).dep) := by
        intro l
        induction l with
        | nil => intro j _ _ x hx; simp at hx
        | cons y l ihl =>
          intro j hl he x hx
          rw [errL] at he
          have hy := hl y (by simp)
          have hdy := dep_kid hy
          have hr := under_range (k := k) hf.2.2.2.2.2.1 j
          split at he
          · rename_i hz
            rcases List.mem_cons.1 hx with rfl | hx
            · rw [show w64 (v + under k s j) = v + under k s j from wrap_in (by unfold in64; unfold B62 at h1; omega)] at hz
              refine gd_mono ?_ _ (ih x hy hz (by omega) (by omega))
              simp only [Ex.dep]; omega
            · exact ihl (j + 1) (fun z hz => hl z (by simp [hz])) he x hx
          · rename_i hz; exact absurd he hz
      exact key kids 0 (fun x hx => hx) h
theorem small_sz (e : Ex) : ∀ {nodes depth m : Int}, e.small nodes depth = some m → nodes ≤ 4611686018427387904 → m = nodes - e.sz ∧ 0 ≤ m := by
  induction e using Ex.ind with
  | h k i n s kids ih =>
    intro nodes depth m h h1
    rw [Ex.small] at h
    split at h
    · cases h
    rename_i hn
    split at h
    · cases h
    split at h
    · cases h
    split at h
    · cases h
    simp at hn
    have key : ∀ (l : List Ex) (nd m : Int), (∀ x ∈ l, x ∈ kids) → 0 ≤ nd → nd ≤ 4611686018427387904 → smallL (w64 (depth - 1)) nd l = some m → m = nd - szL l ∧ 0 ≤ m := by
      intro l
      induction l with
      | nil => intro nd m _ h0 _ h; simp [smallL] at h; subst h; simp [szL]; omega
      | cons y l ihl =>
        intro nd m hl h0 h2 h
        rw [smallL] at h
        cases hs : y.small nd (w64 (depth - 1)) with
        | none => rw [hs] at h; cases h
        | some m' =>
          rw [hs] at h
          have a := ih y (hl y (by simp)) hs h2
          have b := ihl m' m (fun z hz => hl z (by simp [hz])) a.2 (by omega) h
          simp only [szL]; omega
    rw [show w64 (nodes - 1) = nodes - 1 from wrap_in (by unfold in64; omega)] at h
    have := key kids _ _ (fun x hx => hx) (by omega) (by omega) h
    simp only [Ex.sz]; omega
theorem small60 {e : Ex} (h : (e.small 60 60).isSome = true) : e.sz ≤ 60 := by
  cases hs : e.small 60 60 with
  | none => rw [hs] at h; cases h
  | some m => have := small_sz e hs (by omega); omega
theorem whole_err {gl : ByteArray → Bool} {e : Ex} (h : e.whole gl = 0) : e.err gl 0 = 0 := by
  unfold Ex.whole at h
  split at h
  · rename_i hz; simp at hz; exact absurd h hz
  · rename_i hz; simpa using hz
theorem go_zero {p : Pr} : ∀ (prev gs : List Gl), p.go prev gs = 0 → p.main.whole p.gl = 0 ∧ ∀ g ∈ gs, g.2.whole p.gl = 0
  | prev, [], h => by rw [Pr.go] at h; exact ⟨h, by simp⟩
  | prev, g :: gs, h => by
    rw [Pr.go] at h
    split at h
    · cases h
    split at h
    · cases h
    split at h
    · rename_i hz; simp at hz; exact absurd h hz
    · rename_i hz
      have := go_zero (prev ++ [g]) gs h
      refine ⟨this.1, fun x hx => ?_⟩
      rcases List.mem_cons.1 hx with rfl | hx
      · simpa using hz
      · exact this.2 x hx
theorem gfind_mem {n : ByteArray} {b : Ex} : ∀ {gs : List Gl}, gfind gs n = some b → ∃ g ∈ gs, g.2 = b
  | [], h => by cases h
  | g :: gs, h => by
    rw [gfind] at h
    split at h
    · cases h; exact ⟨g, by simp, rfl⟩
    · obtain ⟨x, hx, e⟩ := gfind_mem h; exact ⟨x, by simp [hx], e⟩
theorem few_main {p : Pr} (h : p.few = true) : p.main.sz ≤ 60 ∧ ∀ g ∈ p.gs, g.2.sz ≤ 60 := by
  simp only [Pr.few, Bool.and_eq_true, List.all_eq_true] at h
  refine ⟨small60 h.1.1, fun g hg => ?_⟩
  have := h.1.2 g hg
  simp only [Gl.few, Bool.and_eq_true] at this
  exact small60 this.1
/-- The way of a small program that is correct. -/
def wayI (n : Nat) (e : Ex) : Prop := ∃ t : Nat, n + t ≤ 1000000 ∧ e.gd (3840 + t * 262144) ∧ e.sz ≤ 1073741824
theorem check_zero {p : Pr} (h : p.check = 0) : p.main.whole p.gl = 0 ∧ ∀ g ∈ p.gs, g.2.whole p.gl = 0 := by
  unfold Pr.check at h
  split at h
  · cases h
  · exact go_zero [] p.gs h
theorem whole_gd {gl : ByteArray → Bool} {e : Ex} (h : e.whole gl = 0) (hs : e.sz ≤ 60) : e.gd 3840 := by
  have hd := dep_sz e
  exact gd_mono (by omega) e (err_gd e (whole_err h) (Int.le_refl 0) (by unfold B62; omega))
theorem way_of {p : Pr} (hf : p.few = true) (hc : p.check = 0) : Way p.gs wayI := by
  have hm := few_main hf
  have hz := check_zero hc
  refine ⟨?_, ?_⟩
  · rintro n e ⟨t, h1, h2, h3⟩
    have := dep_sz e
    exact ⟨gd_wf e h2, by unfold B62; omega⟩
  · rintro n e x ⟨t, h1, h2, h3⟩ hsz hv hs
    have hs' := size_eq e (by omega)
    have hd := dep_sz e
    have := step_gd (gs := p.gs) (B := 3840 + t * 262144) (D := 262144) (G := 60) (by omega) (by unfold B62; omega) (fun nm b hb => by
      obtain ⟨g, hg, rfl⟩ := gfind_mem hb
      exact ⟨gd_mono (by omega) _ (whole_gd (hz.2 g hg) (hm.2 g hg)), hm.2 g hg⟩) e h2 (by omega) hv hs
    refine ⟨t + 1, by omega, gd_mono (by omega) _ this.1, ?_⟩
    have h4 : e.sz * e.sz ≤ 4096 * 4096 := Nat.mul_le_mul (by omega) (by omega)
    omega
theorem way_start {p : Pr} (hf : p.few = true) (hc : p.check = 0) {n : Nat} (hn : n ≤ 1000000) : wayI n p.main :=
  ⟨0, by omega, gd_mono (by omega) _ (whole_gd (check_zero hc).1 (few_main hf).1), by have := (few_main hf).1; omega⟩
end Go.Proofs.Eng
