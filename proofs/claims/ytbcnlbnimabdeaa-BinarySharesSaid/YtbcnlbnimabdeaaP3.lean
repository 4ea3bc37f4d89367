/- P3: what functions of the program return. No conditions beyond those in the theorems. -/
import Derived.Test.YtbcnlbnimabdeaaP1
import Derived.Test.YtbcnlbnimabdeaaG5
set_option linter.all false
set_option linter.deprecated false
set_option linter.unnecessarySimpa false
set_option linter.unusedVariables false
set_option linter.unusedSimpArgs false
set_option linter.defProp false
namespace Go.Proofs.Eng
open Go Go.Proofs
/-- Levels: the constant, and variables with offsets. -/
structure Lv where
  c : Int
  vs : List (Int × Int)
  deriving DecidableEq
/-- Terms. -/
inductive Tm where
  | mk (k i : Int) (n : ByteArray) (ls : List Lv) (kids : List Tm)
theorem Tm.ind {P : Tm → Prop} (h : ∀ k i n ls kids, (∀ x ∈ kids, P x) → P (.mk k i n ls kids)) (e : Tm) : P e := by
  have key : ∀ n e, SizeOf.sizeOf e ≤ n → P e := by
    intro n
    induction n with
    | zero => intro e he; cases e; simp at he
    | succ n ih =>
      intro e he
      cases e with
      | mk k i nm s kids =>
        refine h k i nm s kids fun x hx => ih x ?_
        have := List.sizeOf_lt_of_mem hx
        simp at he
        omega
  exact key _ e (Nat.le_refl _)
def Tm.k : Tm → Int | .mk k _ _ _ _ => k
def Tm.i : Tm → Int | .mk _ i _ _ _ => i
def Tm.n : Tm → ByteArray | .mk _ _ n _ _ => n
def Tm.ls : Tm → List Lv | .mk _ _ _ ls _ => ls
def Tm.kids : Tm → List Tm | .mk _ _ _ _ l => l
mutual
def Tm.same : Tm → Tm → Bool
  | .mk k i n ls kids, .mk k' i' n' ls' kids' => decide (k = k') && decide (i = i') && decide (n = n') && decide (ls = ls') && sameL kids kids'
def sameL : List Tm → List Tm → Bool
  | [], [] => true
  | a :: l, b :: m => a.same b && sameL l m
  | _, _ => false
end
theorem same_iff (a : Tm) : ∀ b, a.same b = true ↔ a = b := by
  induction a using Tm.ind with
  | h k i n ls kids ih =>
    rintro ⟨k', i', n', ls', kids'⟩
    have key : ∀ l m : List Tm, (∀ x ∈ l, x ∈ kids) → (sameL l m = true ↔ l = m) := by
      intro l
      induction l with
      | nil => intro m _; cases m <;> simp [sameL]
      | cons x l ihl =>
        intro m hl
        cases m with
        | nil => simp [sameL]
        | cons y m =>
          rw [sameL, Bool.and_eq_true, ih x (hl x (by simp)) y, ihl m fun z hz => hl z (by simp [hz])]
          simp
    rw [Tm.same]
    simp only [Bool.and_eq_true, decide_eq_true_eq, key kids kids' fun _ h => h, Tm.mk.injEq, and_assoc]
instance : DecidableEq Tm := fun a b => decidable_of_iff _ (same_iff a b)
theorem encN_inj : ∀ (a b : Nat) (x y : List UInt8), encN a ++ x = encN b ++ y → a = b ∧ x = y := by
  intro a
  induction a using Nat.strongRecOn with
  | ind a ih =>
    intro b x y h
    rcases Nat.lt_or_ge a 128 with ha | ha <;> rcases Nat.lt_or_ge b 128 with hb | hb
    · rw [encN_lt ha, encN_lt hb] at h
      simp only [List.cons_append, List.nil_append, List.cons.injEq] at h
      have := congrArg UInt8.toNat h.1
      rw [u8_nat (by omega), u8_nat (by omega)] at this
      exact ⟨this, h.2⟩
    · rw [encN_lt ha, encN_ge hb] at h
      simp only [List.cons_append, List.nil_append, List.cons.injEq] at h
      have := congrArg UInt8.toNat h.1
      rw [u8_nat (by omega), u8_nat (by omega)] at this
      omega
    · rw [encN_ge ha, encN_lt hb] at h
      simp only [List.cons_append, List.nil_append, List.cons.injEq] at h
      have := congrArg UInt8.toNat h.1
      rw [u8_nat (by omega), u8_nat (by omega)] at this
      omega
    · rw [encN_ge ha, encN_ge hb] at h
      simp only [List.cons_append, List.cons.injEq] at h
      have h1 := congrArg UInt8.toNat h.1
      rw [u8_nat (by omega), u8_nat (by omega)] at h1
      have h2 := ih (a / 128) (by omega) (b / 128) x y h.2
      exact ⟨by omega, h2.2⟩
/-- The encoding of a level. -/
def encV (v : Int × Int) : List UInt8 := encN (v.1 + 65536).toNat ++ encN v.2.toNat
def encL (l : Lv) : List UInt8 := encN l.c.toNat ++ (encN l.vs.length ++ l.vs.flatMap encV)
def Lv.fine (l : Lv) : Prop := 0 ≤ l.c ∧ ∀ v ∈ l.vs, -65536 ≤ v.1 ∧ 0 ≤ v.2
/-- Lists of a known length, of parts that can be told apart. -/
theorem flat_inj {α : Type} {f : α → List UInt8} {ok : α → Prop} (hf : ∀ a b x y, ok a → ok b → f a ++ x = f b ++ y → a = b ∧ x = y) : ∀ (l m : List α) (x y : List UInt8), l.length = m.length → (∀ a ∈ l, ok a) → (∀ a ∈ m, ok a) → l.flatMap f ++ x = m.flatMap f ++ y → l = m ∧ x = y
  | [], [], x, y, _, _, _, h => ⟨rfl, h⟩
  | a :: l, b :: m, x, y, hl, h1, h2, h => by
    simp only [List.flatMap_cons, List.append_assoc] at h
    have h3 := hf a b _ _ (h1 a (by simp)) (h2 b (by simp)) h
    have h4 := flat_inj hf l m x y (by simpa using hl) (fun a ha => h1 a (by simp [ha])) (fun a ha => h2 a (by simp [ha])) h3.2
    exact ⟨by rw [h3.1, h4.1], h4.2⟩
  | [], _ :: _, _, _, hl, _, _, _ => by simp at hl
  | _ :: _, [], _, _, hl, _, _, _ => by simp at hl
theorem encV_inj (a b : Int × Int) (x y : List UInt8) (ha : -65536 ≤ a.1 ∧ 0 ≤ a.2) (hb : -65536 ≤ b.1 ∧ 0 ≤ b.2) (h : encV a ++ x = encV b ++ y) : a = b ∧ x = y := by
  simp only [encV, List.append_assoc] at h
  obtain ⟨h1, h⟩ := encN_inj _ _ _ _ h
  obtain ⟨h2, h⟩ := encN_inj _ _ _ _ h
  refine ⟨Prod.ext ?_ ?_, h⟩ <;> omega
theorem encL_inj (a b : Lv) (x y : List UInt8) (ha : a.fine) (hb : b.fine) (h : encL a ++ x = encL b ++ y) : a = b ∧ x = y := by
  obtain ⟨c, vs⟩ := a
  obtain ⟨c', vs'⟩ := b
  simp only [encL, List.append_assoc] at h
  obtain ⟨h1, h⟩ := encN_inj _ _ _ _ h
  obtain ⟨h2, h⟩ := encN_inj _ _ _ _ h
  obtain ⟨h3, h6⟩ := flat_inj (ok := fun v => -65536 ≤ v.1 ∧ 0 ≤ v.2) encV_inj vs vs' x y h2 ha.2 hb.2 h
  have h4 := ha.1
  have h5 := hb.1
  simp only at h1 h4 h5 h3
  subst h3
  exact ⟨by congr 1; omega, h6⟩
/-- What an entry says of a node besides its kind and its kids. -/
def Tm.pay : Tm → List UInt8
  | .mk k i n ls _ => if k = 0 ∨ k = 12 then encN i.toNat else if k = 2 then encL (ls.headD ⟨0, []⟩) else if k = 3 then encN n.size ++ (n.toList ++ (encN ls.length ++ ls.flatMap encL)) else []
def entryT (pos : Tm → Nat) (t : Tm) : List UInt8 := encN t.k.toNat ++ (t.pay ++ t.kids.flatMap fun x => encN (pos x))
/-- How many kids a kind has. -/
def kidsN (k : Int) : Int := if k = 0 ∨ k = 1 ∨ k = 2 ∨ k = 3 ∨ k = 12 then 0 else if k = 9 ∨ k = 10 then 1 else if k = 4 ∨ k = 5 ∨ k = 6 ∨ k = 7 then 2 else if k = 8 ∨ k = 11 then 3 else -1
/-- The fields of a node are those that its kind needs. -/
structure Tm.fine (t : Tm) : Prop where
  kids : kidsN t.k = t.kids.length
  lv : ∀ l ∈ t.ls, l.fine
  ls : (t.k = 2 → t.ls.length = 1) ∧ (t.k ≠ 2 → t.k ≠ 3 → t.ls = [])
  ix : (t.k = 0 ∨ t.k = 12 → 0 ≤ t.i) ∧ (t.k ≠ 0 → t.k ≠ 12 → t.i = 0)
  nm : t.k ≠ 3 → t.n = ⟨#[]⟩
theorem toList_inj {a b : ByteArray} (h : a.toList = b.toList) : a = b := by
  have h1 := str_eq a b
  rw [h, beq_self_eq_true] at h1
  simpa using h1.symm
end Go.Proofs.Eng
