/- Terms as arguments of the laws. No conditions beyond those in the theorems. -/
import Derived.Test.YtbcnlbnimabdeaaL0
import Derived.Test.YtbcnlbnimabdeaaD48
set_option linter.all false
set_option linter.deprecated false
set_option linter.unnecessarySimpa false
set_option linter.unusedVariables false
set_option linter.unusedSimpArgs false
set_option linter.defProp false
namespace Go.Proofs.Eng
open Go Go.Proofs Go.Proofs.Ytbcnlbnimabdeaa
set_option maxRecDepth 100000
theorem cells109 : 0 < Try.prog.cellsOf 109 := by rw [show Try.prog.cellsOf 109 = 2 from by kernel_rfl]; decide
theorem cells97 : 0 < Try.prog.cellsOf 97 := by rw [show Try.prog.cellsOf 97 = 2 from by kernel_rfl]; decide
theorem cells44 : 0 < Try.prog.cellsOf 44 := by rw [show Try.prog.cellsOf 44 = 5 from by kernel_rfl]; decide
theorem five {α : Type} {l : List α} (h : l.length = 5) : ∃ a b c d e, l = [a, b, c, d, e] := by
  match l, h with
  | [a, b, c, d, e], _ => exact ⟨a, b, c, d, e, rfl⟩
theorem two {α : Type} {l : List α} (h : l.length = 2) : ∃ a b, l = [a, b] := by
  match l, h with
  | [a, b], _ => exact ⟨a, b, rfl⟩
theorem oft_var {n : Nat} {l : List AV} (h : OfT Try.prog n 109 l) : ∃ v : Int × Int, varIs v (.agg l) := by
  cases n with
  | zero => exact h.elim
  | succ n =>
    simp only [OfT, Try.underlying109] at h
    rw [if_pos (by kernel_rfl)] at h
    obtain ⟨xs, rfl, hl, hx⟩ := h
    obtain ⟨a, b, rfl⟩ := two hl
    obtain ⟨i, rfl, hi⟩ := oft_int (hx 0 _ a rfl rfl)
    obtain ⟨p, rfl, hp⟩ := oft_int (hx 1 _ b rfl rfl)
    exact ⟨(i, p), rfl, hi, hp⟩
theorem oft_lv {n : Nat} {l : List AV} (h : OfT Try.prog n 97 l) : ∃ e : Lv, e.Is (.agg l) := by
  cases n with
  | zero => exact h.elim
  | succ n =>
    simp only [OfT, Try.underlying97] at h
    rw [if_pos (by kernel_rfl)] at h
    obtain ⟨xs, rfl, hl, hx⟩ := h
    obtain ⟨a, b, rfl⟩ := two hl
    obtain ⟨c, rfl, hc⟩ := oft_int (hx 0 _ a rfl rfl)
    obtain ⟨vs, al, tl, rfl, g1, g2, g3⟩ := oft_slice (R := varIs) Try.underlying95 cells109 (fun n l h => by
      obtain ⟨v, hv⟩ := oft_var h
      exact ⟨v, by rw [show isAgg Try.prog 109 = true from by kernel_rfl]; exact hv⟩) (hx 1 _ b rfl rfl)
    exact ⟨⟨c, vs⟩, tl, al, rfl, g2, hc, g3, g1⟩
theorem oft_tm : ∀ (n : Nat) (l : List AV), OfT Try.prog n 44 l → ∃ e : Tm, e.Is (.agg l)
  | 0, _, h => h.elim
  | 1, l, h => by
    simp only [OfT, Try.underlying44] at h
    rw [if_pos (by kernel_rfl)] at h
    obtain ⟨xs, rfl, hl, hx⟩ := h
    obtain ⟨a, b, c, d, e, rfl⟩ := five hl
    exact (hx 0 _ a rfl rfl).elim
  | n + 2, l, h => by
    unfold OfT at h
    simp only [Try.underlying44] at h
    rw [if_pos (by kernel_rfl)] at h
    obtain ⟨xs, rfl, hl, hx⟩ := h
    obtain ⟨a, b, c, d, e, rfl⟩ := five hl
    obtain ⟨k, rfl, hk⟩ := oft_int (hx 0 _ a rfl rfl)
    obtain ⟨i, rfl, hi⟩ := oft_int (hx 1 _ b rfl rfl)
    obtain ⟨nm, rfl, hn⟩ := oft_str (hx 2 _ c rfl rfl)
    obtain ⟨ls, las, t1, rfl, g1, g2, g3⟩ := oft_slice (R := Lv.Is) Try.underlying42 cells97 (fun n l h => by
      obtain ⟨v, hv⟩ := oft_lv h
      exact ⟨v, by rw [show isAgg Try.prog 97 = true from by kernel_rfl]; exact hv⟩) (hx 3 _ d rfl rfl)
    have he : OfT Try.prog (n + 1) 31 e := hx 4 _ e rfl rfl
    unfold OfT at he
    simp only [Try.underlying31] at he
    rw [if_pos cells44] at he
    obtain ⟨ys, t2, rfl, q1, q2, q3⟩ := he
    have key : ∀ ys : List (List AV), (∀ x ∈ ys, OfT Try.prog n 44 x) → ∃ kids : List Tm, LIs Tm.Is kids (ys.map (mkE (isAgg Try.prog 44))) := by
      intro ys
      induction ys with
      | nil => intro _; exact ⟨[], trivial⟩
      | cons x xs ih =>
        intro h
        obtain ⟨y, hy⟩ := oft_tm n x (h x (by simp))
        obtain ⟨ys, hys⟩ := ih fun z hz => h z (by simp [hz])
        exact ⟨y :: ys, by rw [show isAgg Try.prog 44 = true from by kernel_rfl]; exact hy, hys⟩
    obtain ⟨kids, hkk⟩ := key ys q3
    exact ⟨.mk k i nm ls kids, Tm.Is.mk g2 (by rcases q1 with rfl | ⟨rfl, _⟩ <;> rfl) hk hi hn g3 (by rw [List.length_map]; unfold lenB; simpa [maxLen] using q2) g1 hkk⟩
theorem oft_tms {n : Nat} {l : List AV} (h : OfT Try.prog n 31 l) : ∃ (xs : List Tm) (al : List AV) (tl : Tl), l = [.sl al tl] ∧ LIs Tm.Is xs al ∧ tl.pure = true ∧ al.length ≤ lenB :=
  oft_slice Try.underlying31 cells44 (fun n l h => by
    obtain ⟨v, hv⟩ := oft_tm n l h
    exact ⟨v, by rw [show isAgg Try.prog 44 = true from by kernel_rfl]; exact hv⟩) h
end Go.Proofs.Eng
