/- Texts of numbers tell the numbers. No conditions beyond those in the theorems. -/
import Derived.Test.YtglembbmmnakaaaDoorST
import Derived.Test.YtglembbmmnakaaaDoorD41
set_option linter.all false
set_option linter.deprecated false
set_option linter.unnecessarySimpa false
set_option linter.unusedVariables false
set_option linter.unusedSimpArgs false
set_option linter.defProp false
namespace Go.Proofs.Eng
open Go Go.Proofs
theorem digF_ge : ∀ (f u : Nat), ∀ c ∈ digF f u, 48 ≤ c.toNat
  | 0, _, c, h => by simp [digF] at h
  | f + 1, u, c, h => by
    rw [digF] at h
    have key : ∀ d, d < 10 → (UInt8.ofNat (48 + d)).toNat = 48 + d := fun d hd => by
      rw [UInt8.toNat_ofNat']; omega
    split at h
    · simp only [List.mem_singleton] at h
      rw [h, key _ ‹_›]; omega
    · rcases List.mem_append.1 h with h | h
      · exact digF_ge f (u / 10) c h
      · simp only [List.mem_singleton] at h
        rw [h, key _ (by omega)]; omega
def valU (l : List UInt8) : Nat := l.foldl (fun a c => 10 * a + (c.toNat - 48)) 0
theorem valU_digF : ∀ (f u : Nat), u < 10 ^ (f + 1) → valU (digF (f + 1) u) = u
  | 0, u, h => by
    have h : u < 10 := by simpa using h
    have key : (UInt8.ofNat (48 + u)).toNat = 48 + u := by rw [UInt8.toNat_ofNat']; omega
    simp only [digF, h, if_true, valU, List.foldl_cons, List.foldl_nil, key]; omega
  | f + 1, u, h => by
    rw [digF]
    split
    · have key : (UInt8.ofNat (48 + u)).toNat = 48 + u := by rw [UInt8.toNat_ofNat']; omega
      simp only [valU, List.foldl_cons, List.foldl_nil, key]; omega
    · have key : (UInt8.ofNat (48 + u % 10)).toNat = 48 + u % 10 := by rw [UInt8.toNat_ofNat']; omega
      have ih := valU_digF f (u / 10) (by rw [Nat.pow_succ] at h; omega)
      unfold valU at ih ⊢
      rw [List.foldl_append, ih]
      simp only [List.foldl_cons, List.foldl_nil, key]; omega
def valN : List UInt8 → Int
  | [] => 0
  | c :: l => if c = 45 then -(valU l : Nat) else (valU (c :: l) : Nat)
theorem valN_numF {n : Int} (h : in64 n) : valN (numF n) = n := by
  unfold in64 at h
  unfold numF
  split
  · rw [valN, if_pos rfl, valU_digF 19 _ (by omega)]; omega
  · have hv := valU_digF 19 n.toNat (by omega)
    have hg := digF_ge 20 n.toNat
    generalize digF (19 + 1) n.toNat = L at *
    cases L with
    | nil => rw [valN]; simp [valU] at hv; omega
    | cons c L =>
      have := hg c (by simp)
      rw [valN, if_neg (fun e => by rw [e] at this; exact absurd this (by decide)), hv]; omega
theorem numF_32 {n : Int} : ∀ c ∈ numF n, c ≠ 32 := by
  intro c hc e
  subst e
  unfold numF at hc
  split at hc
  · rcases List.mem_cons.1 hc with h | h
    · exact absurd h (by decide)
    · exact absurd (digF_ge _ _ _ h) (by decide)
  · exact absurd (digF_ge _ _ _ hc) (by decide)
theorem split_at {a b x y : List UInt8} (ha : ∀ c ∈ a, c ≠ 32) (hb : ∀ c ∈ b, c ≠ 32) (h : a ++ 32 :: x = b ++ 32 :: y) : a = b ∧ x = y := by
  induction a generalizing b with
  | nil =>
    cases b with
    | nil => simpa using h
    | cons c b => simp at h; exact absurd h.1.symm (hb c (by simp))
  | cons c a ih =>
    cases b with
    | nil => simp at h; exact absurd h.1 (ha c (by simp))
    | cons d b =>
      simp only [List.cons_append, List.cons.injEq] at h
      obtain ⟨e1, e2⟩ := ih (fun c hc => ha c (by simp [hc])) (fun c hc => hb c (by simp [hc])) h.2
      exact ⟨by rw [h.1, e1], e2⟩
theorem textOf_cons {n : Int} {l : List Int} : textOf (n :: l) = numF n ++ 32 :: textOf l := by simp [textOf]
theorem textOf_inj : ∀ {a b : List Int}, (∀ n ∈ a, in64 n) → (∀ n ∈ b, in64 n) → textOf a = textOf b → a = b
  | [], [], _, _, _ => rfl
  | [], n :: b, _, _, h => by rw [textOf_cons] at h; simp [textOf] at h
  | n :: a, [], _, _, h => by rw [textOf_cons] at h; simp [textOf] at h
  | n :: a, m :: b, ha, hb, h => by
    rw [textOf_cons, textOf_cons] at h
    obtain ⟨e1, e2⟩ := split_at numF_32 numF_32 h
    rw [textOf_inj (fun k hk => ha k (by simp [hk])) (fun k hk => hb k (by simp [hk])) e2]
    congr 1
    rw [← valN_numF (ha n (by simp)), e1, valN_numF (hb m (by simp))]
end Go.Proofs.Eng
