/- L0: what functions of the program return. No conditions beyond those in the theorems. -/
import Derived.Test.YtfopdknkbnhlkaaC1
import Derived.Test.YtfopdknkbnhlkaaB5
set_option linter.all false
set_option linter.deprecated false
set_option linter.unnecessarySimpa false
set_option linter.unusedVariables false
set_option linter.unusedSimpArgs false
set_option linter.defProp false
namespace Go.Proofs.Eng
open Go Go.Proofs Go.Proofs.Ytfopdknkbnhlkaa
set_option maxRecDepth 100000
theorem cells3 : 0 < Try.prog.cellsOf 3 := by rw [show Try.prog.cellsOf 3 = 1 from by kernel_rfl]; decide
theorem cells26 : 0 < Try.prog.cellsOf 26 := by rw [show Try.prog.cellsOf 26 = 5 from by kernel_rfl]; decide
theorem cells65 : 0 < Try.prog.cellsOf 65 := by rw [show Try.prog.cellsOf 65 = 6 from by kernel_rfl]; decide
theorem oft_int {n : Nat} {l : List AV} (h : OfT Try.prog n 3 l) : ∃ i, l = [.int i] ∧ in64 i := by
  cases n with
  | zero => exact h.elim
  | succ n =>
    simp only [OfT, Try.underlying3] at h
    obtain ⟨i, rfl, hw⟩ := h
    refine ⟨i, rfl, ?_⟩
    unfold in64
    simp [Lit.wf, IntKind.min, IntKind.max, IntKind.signed, IntKind.bits] at hw
    omega
theorem oft_str {n : Nat} {l : List AV} (h : OfT Try.prog n 9 l) : ∃ s, l = [.str s] ∧ s.size ≤ lenB := by
  cases n with
  | zero => exact h.elim
  | succ n =>
    simp only [OfT, Try.underlying9] at h
    obtain ⟨s, rfl, hw⟩ := h
    exact ⟨s, rfl, by unfold lenB; simpa [maxLen] using hw⟩
theorem oft_slice {α : Type} {R : α → AV → Prop} {n : Nat} {t e : TypeId} {l : List AV} (hu : Try.prog.underlying t = some (.slice e)) (hc : 0 < Try.prog.cellsOf e) (hR : ∀ n l, OfT Try.prog n e l → ∃ x, R x (mkE (isAgg Try.prog e) l)) (h : OfT Try.prog n t l) : ∃ (xs : List α) (al : List AV) (tl : Tl), l = [.sl al tl] ∧ LIs R xs al ∧ tl.pure = true ∧ al.length ≤ lenB := by
  cases n with
  | zero => exact h.elim
  | succ n =>
    simp only [OfT, hu, if_pos hc] at h
    obtain ⟨xs, tl, rfl, h1, h2, h3⟩ := h
    have key : ∀ xs : List (List AV), (∀ x ∈ xs, OfT Try.prog n e x) → ∃ ys : List α, LIs R ys (xs.map (mkE (isAgg Try.prog e))) := by
      intro xs
      induction xs with
      | nil => intro _; exact ⟨[], trivial⟩
      | cons x xs ih =>
        intro h
        obtain ⟨y, hy⟩ := hR n x (h x (by simp))
        obtain ⟨ys, hys⟩ := ih fun z hz => h z (by simp [hz])
        exact ⟨y :: ys, hy, hys⟩
    obtain ⟨ys, hys⟩ := key xs h3
    refine ⟨ys, _, tl, rfl, hys, ?_, by rw [List.length_map]; unfold lenB; simpa [maxLen] using h2⟩
    rcases h1 with rfl | ⟨rfl, _⟩ <;> rfl
theorem oft_ints {n : Nat} {l : List AV} (h : OfT Try.prog n 23 l) : ∃ s tl, l = [.sl (ints s) tl] ∧ tl.pure = true ∧ s.length ≤ lenB := by
  obtain ⟨xs, al, tl, rfl, h1, h2, h3⟩ := oft_slice (R := fun (i : Int) a => a = .int i) Try.underlying23 cells3 (fun n l h => by
    obtain ⟨i, rfl, _⟩ := oft_int h
    exact ⟨i, by rw [show isAgg Try.prog 3 = false from by kernel_rfl]; rfl⟩) h
  have : ∀ {xs : List Int} {al : List AV}, LIs (fun (i : Int) a => a = .int i) xs al → al = ints xs := by
    intro xs
    induction xs with
    | nil => intro al h; cases al with
      | nil => rfl
      | cons => exact h.elim
    | cons x xs ih => intro al h; cases al with
      | nil => exact h.elim
      | cons a al => obtain ⟨rfl, h⟩ := h; rw [ih h]; rfl
  have e := this h1
  subst e
  exact ⟨xs, tl, rfl, h2, by rw [← ints_len]; exact h3⟩
theorem five {α : Type} {l : List α} (h : l.length = 5) : ∃ a b c d e, l = [a, b, c, d, e] := by
  match l, h with
  | [a, b, c, d, e], _ => exact ⟨a, b, c, d, e, rfl⟩
theorem two {α : Type} {l : List α} (h : l.length = 2) : ∃ a b, l = [a, b] := by
  match l, h with
  | [a, b], _ => exact ⟨a, b, rfl⟩
theorem oft_ex : ∀ (n : Nat) (l : List AV), OfT Try.prog n 26 l → ∃ e : Ex, e.Is (.agg l)
  | 0, _, h => h.elim
  | 1, l, h => by
    simp only [OfT, Try.underlying26] at h
    rw [if_pos (by kernel_rfl)] at h
    obtain ⟨xs, rfl, hl, hx⟩ := h
    obtain ⟨a, b, c, d, e, rfl⟩ := five hl
    exact (hx 0 _ a rfl rfl).elim
  | n + 2, l, h => by
    unfold OfT at h
    simp only [Try.underlying26] at h
    rw [if_pos (by kernel_rfl)] at h
    obtain ⟨xs, rfl, hl, hx⟩ := h
    obtain ⟨a, b, c, d, e, rfl⟩ := five hl
    obtain ⟨k, rfl, _⟩ := oft_int (hx 0 _ a rfl rfl)
    obtain ⟨i, rfl, hi⟩ := oft_int (hx 1 _ b rfl rfl)
    obtain ⟨nm, rfl, hn⟩ := oft_str (hx 2 _ c rfl rfl)
    obtain ⟨s, t1, rfl, h1, hs⟩ := oft_ints (hx 3 _ d rfl rfl)
    have he : OfT Try.prog (n + 1) 24 e := hx 4 _ e rfl rfl
    unfold OfT at he
    simp only [Try.underlying24] at he
    rw [if_pos cells26] at he
    obtain ⟨ys, t2, rfl, g1, g2, g3⟩ := he
    have key : ∀ ys : List (List AV), (∀ x ∈ ys, OfT Try.prog n 26 x) → ∃ kids : List Ex, LIs Ex.Is kids (ys.map (mkE (isAgg Try.prog 26))) := by
      intro ys
      induction ys with
      | nil => intro _; exact ⟨[], trivial⟩
      | cons x xs ih =>
        intro h
        obtain ⟨y, hy⟩ := oft_ex n x (h x (by simp))
        obtain ⟨ys, hys⟩ := ih fun z hz => h z (by simp [hz])
        exact ⟨y :: ys, by rw [show isAgg Try.prog 26 = true from by kernel_rfl]; exact hy, hys⟩
    obtain ⟨kids, hk⟩ := key ys g3
    exact ⟨.mk k i nm s kids, Ex.Is.mk h1 (by rcases g1 with rfl | ⟨rfl, _⟩ <;> rfl) ⟨hi, hn⟩ hs (by rw [List.length_map]; unfold lenB; simpa [maxLen] using g2) hk⟩
theorem oft_exs {n : Nat} {l : List AV} (h : OfT Try.prog n 24 l) : ∃ (xs : List Ex) (al : List AV) (tl : Tl), l = [.sl al tl] ∧ LIs Ex.Is xs al ∧ tl.pure = true ∧ al.length ≤ lenB :=
  oft_slice Try.underlying24 cells26 (fun n l h => by
    obtain ⟨e, he⟩ := oft_ex n l h
    exact ⟨e, by rw [show isAgg Try.prog 26 = true from by kernel_rfl]; exact he⟩) h
theorem oft_gl {n : Nat} {l : List AV} (h : OfT Try.prog n 65 l) : ∃ g : Gl, glIs g (.agg l) := by
  cases n with
  | zero => exact h.elim
  | succ n =>
    simp only [OfT, Try.underlying65] at h
    rw [if_pos (by kernel_rfl)] at h
    obtain ⟨xs, rfl, hl, hx⟩ := h
    obtain ⟨a, b, rfl⟩ := two hl
    obtain ⟨nm, rfl, hn⟩ := oft_str (hx 0 _ a rfl rfl)
    obtain ⟨e, he⟩ := oft_ex n b (hx 1 _ b rfl rfl)
    refine ⟨(nm, e), b, ?_, hn, he⟩
    simp
theorem oft_pr {n : Nat} {l : List AV} (h : OfT Try.prog n 28 l) : ∃ p : Pr, p.Is (.agg l) := by
  cases n with
  | zero => exact h.elim
  | succ n =>
    simp only [OfT, Try.underlying28] at h
    rw [if_pos (by kernel_rfl)] at h
    obtain ⟨xs, rfl, hl, hx⟩ := h
    obtain ⟨a, b, rfl⟩ := two hl
    obtain ⟨gs, gas, tg, rfl, g1, g2, g3⟩ := oft_slice (R := glIs) Try.underlying22 cells65 (fun n l h => by
      obtain ⟨g, hg⟩ := oft_gl h
      exact ⟨g, by rw [show isAgg Try.prog 65 = true from by kernel_rfl]; exact hg⟩) (hx 0 _ a rfl rfl)
    obtain ⟨e, he⟩ := oft_ex n b (hx 1 _ b rfl rfl)
    obtain ⟨c, q, hl2, ho⟩ := exAgg.cells he
    cases q
    have hp := exPure _ he
    rw [pv_agg] at hp
    refine ⟨⟨gs, e⟩, gas, tg, b, by simp, g2, g3, g1, he, hl2, List.take_of_length_le (by omega), ho, hp, g1.pure fun _ _ h => glAgg.pure h, g1.all glAgg⟩
end Go.Proofs.Eng
