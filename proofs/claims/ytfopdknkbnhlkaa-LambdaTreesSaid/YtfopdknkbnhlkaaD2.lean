/- D2: what functions of the program return. No conditions beyond those in the theorems. -/
import Derived.Test.YtfopdknkbnhlkaaL0
set_option linter.all false
set_option linter.deprecated false
set_option linter.unnecessarySimpa false
set_option linter.unusedVariables false
set_option linter.unusedSimpArgs false
set_option linter.defProp false
namespace Go.Proofs.Eng
open Go Go.Proofs Go.Proofs.Ytfopdknkbnhlkaa
set_option maxRecDepth 100000
/-- Trees of constructors. -/
inductive Dt where
  | mk (c : ByteArray) (l : List Dt)
mutual
def Dt.Is : Dt → AV → Prop
  | .mk c l, a => ∃ t das, a = .agg [.str c, .sl das t] ∧ t.pure = true ∧ c.size ≤ lenB ∧ das.length ≤ lenB ∧ Dt.IsL l das
def Dt.IsL : List Dt → List AV → Prop
  | [], [] => True
  | e :: es, a :: al => e.Is a ∧ Dt.IsL es al
  | _, _ => False
end
theorem Dt.ind {P : Dt → Prop} (h : ∀ c l, (∀ x ∈ l, P x) → P (.mk c l)) (e : Dt) : P e := by
  have key : ∀ n e, SizeOf.sizeOf e ≤ n → P e := by
    intro n
    induction n with
    | zero => intro e he; cases e; simp at he
    | succ n ih =>
      intro e he
      cases e with
      | mk c l =>
        refine h c l fun x hx => ih x ?_
        have := List.sizeOf_lt_of_mem hx
        simp at he
        omega
  exact key _ e (Nat.le_refl _)
theorem isLD_iff : ∀ {l : List Dt} {al : List AV}, Dt.IsL l al ↔ LIs Dt.Is l al
  | [], [] => by simp [Dt.IsL, LIs]
  | e :: es, a :: al => by simp only [Dt.IsL, LIs, isLD_iff (l := es)]
  | [], _ :: _ => by simp [Dt.IsL, LIs]
  | _ :: _, [] => by simp [Dt.IsL, LIs]
theorem Dt.Is.opn {c : ByteArray} {l : List Dt} {a : AV} (h : (Dt.mk c l).Is a) : ∃ t das, a = .agg [.str c, .sl das t] ∧ t.pure = true ∧ c.size ≤ lenB ∧ das.length ≤ lenB ∧ LIs Dt.Is l das := by
  simp only [Dt.Is, isLD_iff] at h; exact h
theorem Dt.Is.mk {c : ByteArray} {l : List Dt} {t : Tl} {das : List AV} (h1 : t.pure = true) (h2 : c.size ≤ lenB) (h3 : das.length ≤ lenB) (h4 : LIs Dt.Is l das) : (Dt.mk c l).Is (.agg [.str c, .sl das t]) := by
  simp only [Dt.Is, isLD_iff]; exact ⟨t, das, rfl, h1, h2, h3, h4⟩
theorem dtPure (e : Dt) : ∀ {a}, e.Is a → pureAV a = true := by
  induction e using Dt.ind with
  | h c l ih =>
    intro a h
    obtain ⟨t, das, rfl, h1, _, h3, h5⟩ := h.opn
    have := LIs.pure (R := fun x a => pureAV a = true) (fun _ _ h => h) (h5.mono fun x hx a h => ih x hx h)
    simp [pv_agg, pv_v, pv_sl, pvs_cons, pvs_nil, h1, this]
theorem dtAgg : AggR Dt.Is 2 := ⟨fun {x a} h => by
    cases x
    obtain ⟨t, das, rfl, _⟩ := h.opn
    exact ⟨_, rfl, rfl, rfl⟩, fun {x a} h => dtPure x h⟩
theorem dtsPure {l : List Dt} {al : List AV} (h : LIs Dt.Is l al) : pureAVs al = true := h.pure fun x _ h => dtPure x h
def Dt.c : Dt → ByteArray | .mk c _ => c
def Dt.kids : Dt → List Dt | .mk _ l => l
def Dt.zero : Dt := .mk ⟨#[]⟩ []
theorem zeroDt : Dt.zero.Is (.agg [.str ⟨#[]⟩, .sl [] .nil]) := Dt.Is.mk rfl (Nat.zero_le _) (Nat.zero_le _) trivial
end Go.Proofs.Eng
