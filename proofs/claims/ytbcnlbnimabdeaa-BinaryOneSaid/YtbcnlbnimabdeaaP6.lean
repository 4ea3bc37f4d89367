/- P6: what functions of the program return. No conditions beyond those in the theorems. -/
import Derived.Test.YtbcnlbnimabdeaaP5
set_option linter.all false
set_option linter.deprecated false
set_option linter.unnecessarySimpa false
set_option linter.unusedVariables false
set_option linter.unusedSimpArgs false
set_option linter.defProp false
namespace Go.Proofs.Eng
open Go Go.Proofs
/-- Variables of a level: in range, in order. -/
def ascB : List (Int × Int) → Bool
  | [] => true
  | [_] => true
  | a :: b :: l => decide (a.1 < b.1) && ascB (b :: l)
def varB (v : Int × Int) : Bool := decide (-65536 ≤ v.1) && decide (v.1 < 8) && decide (0 ≤ v.2) && decide (v.2 ≤ 100)
def validB (l : Lv) : Bool := decide (0 ≤ l.c) && decide (l.c ≤ 100) && l.vs.all varB && ascB l.vs && (decide (l.c ≤ 0) || l.vs.all fun v => decide (v.2 < l.c))
/-- A node has the fields that its kind needs, and no others. -/
def Tm.right (t : Tm) : Bool :=
  t.ls.all validB && decide (kidsN t.k = t.kids.length) && (if t.k = 2 then decide (t.ls.length = 1) else if t.k = 3 then decide (t.ls.length ≤ 8) else decide (t.ls.length = 0)) && decide (t.n.size ≤ 65536) &&
  (if t.k = 0 ∨ t.k = 12 then decide (0 ≤ t.i) && decide (t.i ≤ 2147483647) && decide (t.n.size = 0) else decide (t.i = 0) && (decide (t.k = 3) || decide (t.n.size = 0)))
theorem valid_fine {l : Lv} (h : validB l = true) : l.fine ∧ l.c ≤ 100 ∧ ∀ v ∈ l.vs, v.1 < 8 ∧ v.2 ≤ 100 := by
  simp only [validB, varB, Bool.and_eq_true, decide_eq_true_eq, List.all_eq_true] at h
  obtain ⟨⟨⟨⟨h1, h2⟩, h3⟩, _⟩, _⟩ := h
  exact ⟨⟨h1, fun v hv => by have := h3 v hv; omega⟩, h2, fun v hv => by have := h3 v hv; omega⟩
theorem right_facts {t : Tm} (h : t.right = true) : t.fine ∧ (∀ l ∈ t.ls, validB l = true) ∧ t.ls.length ≤ 8 ∧ t.n.size ≤ 65536 ∧ t.i ≤ 2147483647 := by
  simp only [Tm.right, Bool.and_eq_true, List.all_eq_true, decide_eq_true_eq] at h
  obtain ⟨⟨⟨⟨h1, h2⟩, h3⟩, h4⟩, h5⟩ := h
  have h6 : t.ls.length ≤ 8 := by
    split at h3
    · simp at h3; omega
    split at h3
    · simpa using h3
    · simp at h3; simp [h3]
  refine ⟨⟨h2, fun l hl => (valid_fine (h1 l hl)).1, ⟨fun k => by rw [if_pos k] at h3; simpa using h3, fun k2 k3 => by rw [if_neg k2, if_neg k3] at h3; simpa using h3⟩, ⟨fun k => by rw [if_pos k] at h5; simp at h5; omega, fun k0 k12 => by rw [if_neg (by omega)] at h5; simp at h5; omega⟩, fun k3 => ?_⟩, h1, h6, h4, ?_⟩
  · split at h5
    · simp at h5; rw [h5.2]; rfl
    · simp at h5; rw [h5.2.resolve_left k3]; rfl
  · split at h5
    · simp at h5; omega
    · simp at h5; omega
/-! Reading. -/
abbrev By := List UInt8
def rN (s : By) : Option (Nat × By) := (getN s).map fun x => (x.1, s.drop x.2)
def rText (s : By) : Option (By × By) := (rN s).bind fun x => if x.1 > 65536 ∨ x.1 > x.2.length then none else some (x.2.take x.1, x.2.drop x.1)
def rVars : Nat → By → Option (List (Int × Int) × By)
  | 0, s => some ([], s)
  | n + 1, s => (rN s).bind fun a => (rN a.2).bind fun b => (rVars n b.2).map fun l => (((a.1 : Int) - 65536, (b.1 : Int)) :: l.1, l.2)
def rLv (s : By) : Option (Lv × By) := (rN s).bind fun c => (rN c.2).bind fun n => (rVars n.1 n.2).map fun l => (⟨c.1, l.1⟩, l.2)
def rLvs : Nat → By → Option (List Lv × By)
  | 0, s => some ([], s)
  | n + 1, s => (rLv s).bind fun a => (rLvs n a.2).map fun l => (a.1 :: l.1, l.2)
theorem asc_len : ∀ (l : List (Int × Int)), ascB l = true → (∀ v ∈ l, v.1 < 8) → ∀ a ∈ l.head?, (l.length : Int) ≤ 8 - a.1
  | [], _, _, a, h => by simp at h
  | [x], _, h, a, ha => by simp at ha; subst ha; have := h x (by simp); simp; omega
  | x :: y :: l, h1, h, a, ha => by
    simp at ha; subst ha
    simp only [ascB, Bool.and_eq_true, decide_eq_true_eq] at h1
    have := asc_len (y :: l) h1.2 (fun v hv => h v (by simp [hv])) y (by simp)
    simp only [List.length_cons] at this ⊢
    omega
theorem valid_len {l : Lv} (h : validB l = true) : l.vs.length ≤ mostN := by
  have h2 := valid_fine h
  simp only [validB, Bool.and_eq_true] at h
  have h3 := asc_len l.vs h.1.2 fun v hv => (h2.2.2 v hv).1
  cases hv : l.vs with
  | nil => simp
  | cons v vs =>
    have := h3 v (by rw [hv]; simp)
    have := (h2.1.2 v (by rw [hv]; simp)).1
    rw [hv] at h3
    rw [← hv]
    unfold mostN; omega
/-- Positions of a table. -/
def rKids (T : List Tm) : Nat → By → Option (List Tm × By)
  | 0, s => some ([], s)
  | n + 1, s => (rN s).bind fun a => match T[a.1]? with
    | none => none
    | some t => (rKids T n a.2).map fun l => (t :: l.1, l.2)
mutual
def Tm.dp : Tm → Nat
  | .mk _ _ _ _ kids => tdpL kids + 1
def tdpL : List Tm → Nat
  | [] => 0
  | t :: l => max t.dp (tdpL l)
end
/-- The fields of a kind. -/
def rPay (k : Nat) (s : By) : Option ((Int × ByteArray × List Lv) × By) :=
  if k = 0 ∨ k = 12 then (rN s).map fun x => (((x.1 : Int), ⟨#[]⟩, []), x.2)
  else if k = 2 then (rLv s).map fun x => ((0, ⟨#[]⟩, [x.1]), x.2)
  else if k = 3 then (rText s).bind fun x => (rN x.2).bind fun n => (rLvs n.1 n.2).map fun l => ((0, ⟨x.1.toArray⟩, l.1), l.2)
  else some ((0, ⟨#[]⟩, []), s)
def rEntry (T : List Tm) (s : By) : Option (Tm × By) :=
  (rN s).bind fun k => (rPay k.1 k.2).bind fun p => (rKids T (kidsN k.1).toNat p.2).bind fun l =>
    if (Tm.mk k.1 p.1.1 p.1.2.1 p.1.2.2 l.1).right = true ∧ (Tm.mk k.1 p.1.1 p.1.2.1 p.1.2.2 l.1).sz ≤ 4096 ∧ (Tm.mk k.1 p.1.1 p.1.2.1 p.1.2.2 l.1).dp ≤ 200 then some (Tm.mk k.1 p.1.1 p.1.2.1 p.1.2.2 l.1, l.2) else none
end Go.Proofs.Eng
