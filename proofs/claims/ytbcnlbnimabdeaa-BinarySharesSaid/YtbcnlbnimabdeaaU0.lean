/- Readers: the caller's store beside the reader's block; slices that are made. No conditions beyond those in the theorems. -/
import Derived.Test.YtbcnlbnimabdeaaQ5
import Derived.Test.YtbcnlbnimabdeaaP7
set_option linter.all false
set_option linter.deprecated false
set_option linter.unnecessarySimpa false
set_option linter.unusedVariables false
set_option linter.unusedSimpArgs false
set_option linter.defProp false
namespace Go.Proofs.Eng
open Go Go.Proofs
set_option maxRecDepth 100000
/-- A slice that is appended to, and is newer than the first n. -/
def AppF (n : Nat) (T : List Nat) (l : List AV) (t : Tl) : Prop := (l = [] ∧ t = .nil) ∨ (l ≠ [] ∧ ∃ id ver, t = .tl id ver ∧ n ≤ id ∧ T[id]? = some ver)
theorem AppF.app {n : Nat} {T : List Nat} {l : List AV} {t : Tl} (h : AppF n T l t) : App T l t := by
  rcases h with h | ⟨h, id, ver, h1, _, h2⟩
  · exact .inl h
  · exact .inr ⟨h, id, ver, h1, h2⟩
/-- The first n are as they were. -/
def Keep (n : Nat) (T T' : List Nat) : Prop := n ≤ T'.length ∧ ∀ i, i < n → T'[i]? = T[i]?
theorem Keep.refl (n : Nat) (T : List Nat) (h : n ≤ T.length) : Keep n T T := ⟨h, fun _ _ => rfl⟩
theorem Keep.trans {n : Nat} {T T' T'' : List Nat} (h : Keep n T T') (k : Keep n T' T'') : Keep n T T'' := ⟨k.1, fun i hi => (k.2 i hi).trans (h.2 i hi)⟩
theorem Keep.le {n m : Nat} {T T' : List Nat} (h : Keep n T T') (hm : m ≤ n) : Keep m T T' := ⟨Nat.le_trans hm h.1, fun i hi => h.2 i (by omega)⟩
theorem AppF.keep {n : Nat} {T T' : List Nat} {l : List AV} {t : Tl} (h : AppF n T l t) (k : Keep T.length T T') : AppF n T' l t := by
  rcases h with h | ⟨h1, id, ver, h2, h3, h4⟩
  · exact .inl h
  · exact .inr ⟨h1, id, ver, h2, h3, by rw [k.2 id (List.getElem?_eq_some_iff.1 h4).1]; exact h4⟩
theorem AppF.le {n m : Nat} {T : List Nat} {l : List AV} {t : Tl} (h : AppF n T l t) (hm : m ≤ n) : AppF m T l t := by
  rcases h with h | ⟨h1, id, ver, h2, h3, h4⟩
  · exact .inl h
  · exact .inr ⟨h1, id, ver, h2, by omega, h4⟩
/-- B is H, but for the block i, which is o. -/
structure BR (B H : List AObj) (i : Nat) (o : AObj) : Prop where
  len : B.length = H.length
  get : B[i]? = some o
  set : ∀ x, B.set i x = H.set i x
theorem BR.start {H : List AObj} {i : Nat} {o : AObj} (h : H[i]? = some o) : BR H H i o := ⟨rfl, h, fun _ => rfl⟩
theorem BR.eq {B H : List AObj} {i : Nat} {o : AObj} (h : BR B H i o) : B = H.set i o := by rw [← h.set, set_self h.get]
theorem BR.lt {B H : List AObj} {i : Nat} {o : AObj} (h : BR B H i o) : i < H.length := by rw [← h.len]; exact lt_of_get h.get
theorem BR.up {B H : List AObj} {i : Nat} {o : AObj} (h : BR B H i o) (o' : AObj) : BR (B.set i o') H i o' := ⟨by rw [List.length_set, h.len], get_set h.get, fun x => by rw [List.set_set, h.set]⟩
theorem BR.app {B H : List AObj} {i : Nat} {o : AObj} (h : BR B H i o) (Z : List AObj) (o' : AObj) : (B ++ Z).set i o' = B.set i o' ++ Z := List.set_append_left _ _ (lt_of_get h.get)
/-- How the blocks behind B are found. -/
theorem BR.f {B H : List AObj} {i : Nat} {o : AObj} (h : BR B H i o) : B.length = H.length ∧ (∀ l, (B ++ l)[H.length]? = l[0]?) ∧ (∀ l k, (B ++ l)[H.length + k]? = l[k]?) ∧ (∀ l y, (B ++ l).set H.length y = B ++ l.set 0 y) ∧ (∀ l k y, (B ++ l).set (H.length + k) y = B ++ l.set k y) ∧ (∀ l, (B ++ l)[i]? = some o) := by
  rw [← h.len]
  exact ⟨rfl, fun _ => app_get_len, fun _ _ => app_get_add, fun _ _ => app_set_len, fun _ _ _ => app_set_add, fun _ => app_get_of h.get _⟩
end Go.Proofs.Eng
