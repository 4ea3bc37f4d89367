/- D55: what functions of the program return. No conditions beyond those in the theorems. -/
import Derived.Test.YtfopdknkbnhlkaaPf55
set_option linter.all false
set_option linter.deprecated false
set_option linter.unnecessarySimpa false
set_option linter.unusedVariables false
set_option linter.unusedSimpArgs false
set_option linter.defProp false
namespace Go.Proofs.Eng
open Go Go.Proofs
abbrev w64 (n : Int) : Int := IntKind.i64.wrap n
abbrev B62 : Int := 4611686018427387904
inductive Ex where
  | mk (k i : Int) (n : ByteArray) (szs : List Int) (kids : List Ex)
def okIN (i : Int) (n : ByteArray) : Prop := in64 i ∧ n.size ≤ lenB
mutual
def Ex.Is : Ex → AV → Prop
  | .mk k i n szs kids, a => ∃ t1 t2 kas, a = .agg [.int k, .int i, .str n, .sl (ints szs) t1, .sl kas t2] ∧ t1.pure = true ∧ t2.pure = true ∧ okIN i n ∧ szs.length ≤ lenB ∧ kas.length ≤ lenB ∧ Ex.IsL kids kas
def Ex.IsL : List Ex → List AV → Prop
  | [], [] => True
  | e :: es, a :: al => e.Is a ∧ Ex.IsL es al
  | _, _ => False
end
theorem Ex.ind {P : Ex → Prop} (h : ∀ k i n s kids, (∀ x ∈ kids, P x) → P (.mk k i n s kids)) (e : Ex) : P e := by
  have key : ∀ n e, SizeOf.sizeOf e ≤ n → P e := by
    intro n
    induction n with
    | zero => intro e he; cases e; simp at he
    | succ n ih =>
      intro e he
      cases e with
      | mk k i nm s kids =>
        refine h k i nm s kids fun x hx => ih x ?_
        have := List.sizeOf_lt_of_mem hx
        simp at he
        omega
  exact key _ e (Nat.le_refl _)
theorem isL_iff : ∀ {l : List Ex} {al : List AV}, Ex.IsL l al ↔ LIs Ex.Is l al
  | [], [] => by simp [Ex.IsL, LIs]
  | e :: es, a :: al => by simp only [Ex.IsL, LIs, isL_iff (l := es)]
  | [], _ :: _ => by simp [Ex.IsL, LIs]
  | _ :: _, [] => by simp [Ex.IsL, LIs]
theorem Ex.Is.opn {k i : Int} {n : ByteArray} {s : List Int} {kids : List Ex} {a : AV} (h : (Ex.mk k i n s kids).Is a) : ∃ t1 t2 kas, a = .agg [.int k, .int i, .str n, .sl (ints s) t1, .sl kas t2] ∧ t1.pure = true ∧ t2.pure = true ∧ okIN i n ∧ s.length ≤ lenB ∧ kas.length ≤ lenB ∧ LIs Ex.Is kids kas := by
  simp only [Ex.Is, isL_iff] at h; exact h
theorem Ex.Is.mk {k i : Int} {n : ByteArray} {s : List Int} {kids : List Ex} {t1 t2 : Tl} {kas : List AV} (h1 : t1.pure = true) (h2 : t2.pure = true) (h3 : okIN i n) (h4 : s.length ≤ lenB) (h5 : kas.length ≤ lenB) (h6 : LIs Ex.Is kids kas) : (Ex.mk k i n s kids).Is (.agg [.int k, .int i, .str n, .sl (ints s) t1, .sl kas t2]) := by
  simp only [Ex.Is, isL_iff]; exact ⟨t1, t2, kas, rfl, h1, h2, h3, h4, h5, h6⟩
theorem exPure (e : Ex) : ∀ {a}, e.Is a → pureAV a = true := by
  induction e using Ex.ind with
  | h k i n s kids ih =>
    intro a h
    obtain ⟨t1, t2, kas, rfl, h1, h2, _, h3, h4, h5⟩ := h.opn
    have := LIs.pure (R := fun x a => pureAV a = true) (fun _ _ h => h) (h5.mono fun x hx a h => ih x hx h)
    simp [pv_agg, pv_v, pv_sl, pvs_cons, pvs_nil, ints_pure, h1, h2, this]
theorem exAgg : AggR Ex.Is 5 := ⟨fun {x a} h => by
    cases x
    obtain ⟨t1, t2, kas, rfl, _⟩ := h.opn
    exact ⟨_, rfl, rfl, rfl⟩, fun {x a} h => exPure x h⟩
theorem exsPure {l : List Ex} {al : List AV} (h : LIs Ex.Is l al) : pureAVs al = true := h.pure fun x _ h => exPure x h
def Ex.k : Ex → Int | .mk k _ _ _ _ => k
def Ex.i : Ex → Int | .mk _ i _ _ _ => i
def Ex.n : Ex → ByteArray | .mk _ _ n _ _ => n
def Ex.s : Ex → List Int | .mk _ _ _ s _ => s
def Ex.kids : Ex → List Ex | .mk _ _ _ _ l => l
/-- The zero expression. -/
def Ex.zero : Ex := .mk 0 0 ⟨#[]⟩ [] []
def zeroAV : AV := .agg [.int 0, .int 0, .str ⟨#[]⟩, .sl [] .nil, .sl [] .nil]
theorem zeroIs : Ex.zero.Is zeroAV := Ex.Is.mk (s := []) rfl rfl ⟨by unfold in64; omega, Nat.zero_le _⟩ (by simp) (by simp) trivial
/-- A variable. -/
def Ex.var (i : Int) : Ex := .mk 0 i ⟨#[]⟩ [] []
theorem varIs {i : Int} (h : in64 i) : (Ex.var i).Is (.agg [.int 0, .int i, .str ⟨#[]⟩, .sl [] .nil, .sl [] .nil]) := Ex.Is.mk (s := []) rfl rfl ⟨h, Nat.zero_le _⟩ (by simp) (by simp) trivial
theorem pz_ex {s : ASt} {k i : Int} {n : ByteArray} {sz : List Int} {t1 : Tl} {x x' : AV} (h1 : t1.pure = true) (h : purify 19 s x = some x') : purify 20 s (.agg [.int k, .int i, .str n, .sl (ints sz) t1, x]) = some (.agg [.int k, .int i, .str n, .sl (ints sz) t1, x']) := by
  rw [pz_agg]
  have h2 : purify 19 s (.sl (ints sz) t1) = some (.sl (ints sz) t1) := purify_pure (n := 18) (by simp [pv_sl, h1, ints_pure])
  simp only [mapO, h, h2, purify_pure (n := 18) pv_v, Option.map_some]
mutual
/-- Nodes have not too many kids. -/
def Ex.slim : Ex → Prop
  | .mk _ _ _ _ kids => kids.length ≤ capB ∧ slimL kids
def slimL : List Ex → Prop
  | [] => True
  | e :: es => e.slim ∧ slimL es
end
theorem slimL_iff : ∀ l : List Ex, slimL l ↔ ∀ e ∈ l, e.slim
  | [] => by simp [slimL]
  | e :: es => by simp [slimL, slimL_iff es]
theorem Ex.slim_iff {k i : Int} {n : ByteArray} {s : List Int} {kids : List Ex} : (Ex.mk k i n s kids).slim ↔ kids.length ≤ capB ∧ ∀ e ∈ kids, e.slim := by
  rw [Ex.slim, slimL_iff]
end Go.Proofs.Eng
