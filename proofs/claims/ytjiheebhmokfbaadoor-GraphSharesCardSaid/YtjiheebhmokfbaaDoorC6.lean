/- The reference enters terms. No conditions beyond those in the theorems. -/
import Derived.Test.YtjiheebhmokfbaaDoorT13
import Derived.Test.YtjiheebhmokfbaaDoorC2
set_option linter.all false
set_option linter.deprecated false
set_option linter.unnecessarySimpa false
set_option linter.unusedVariables false
set_option linter.unusedSimpArgs false
set_option linter.defProp false
namespace Go.Proofs.Eng
open Go Go.Proofs
set_option maxRecDepth 100000
set_option maxHeartbeats 16000000
theorem idx_first {T : List Tm} {e : Tm} {j : Nat} (h : T[j]? = some e) (hn : ∀ x ∈ T.take j, x ≠ e) : e ∈ T ∧ T.idxOf e = j := by
 induction T generalizing j with
 | nil => simp at h
 | cons y T ih =>
  cases j with
  | zero => simp at h; subst h; simp
  | succ j =>
   have h1 : y ≠ e := hn y (by simp)
   obtain ⟨a, b⟩ := ih (by simpa using h) fun x hx => hn x (by simp [hx])
   exact ⟨List.mem_cons_of_mem _ a, by rw [List.idxOf_cons, beq_false_of_ne h1, b]; rfl⟩
theorem GRes.pure {N : List Nd} {id e : Int} {v : AV} (h : GRes N id e v) : pureAV v = true := by
 obtain ⟨ga, rfl, h1⟩ := h
 simp [pv_tup, pvs_cons, pvs_nil, gPure h1, pv_v]
def AddR (T : List Tm) (t : Tm) (v : AV) : Prop := if t.allR = true then GRes (nodesOf (t.enter T)) ((t.enter T).idxOf t : Nat) 0 v else GRes [] 0 3 v
theorem enterL_split : ∀ (l m : List Tm) (T : List Tm), enterL T (l ++ m) = enterL (enterL T l) m
 | [], m, T => by rw [List.nil_append]; conv => rhs; rw [show enterL T [] = T from by rw [enterL]]
 | x :: l, m, T => by rw [List.cons_append, enterL, enterL_split l m, enterL]
theorem enterL_at {T : List Tm} (hG : GT T) {kids : List Tm} (hr : ∀ x ∈ subsL kids, x.right = true) (j : Nat) : GT (enterL T (kids.take j)) ∧ (∃ m, enterL T kids = enterL T (kids.take j) ++ m) ∧ ∀ x ∈ kids.take j, x ∈ enterL T (kids.take j) := by
 have h1 : ∀ x ∈ subsL (kids.take j), x.right = true := fun x hx => by
  obtain ⟨y, hy, hxy⟩ := mem_subsL.1 hx
  exact hr x (mem_subsL.2 ⟨y, List.mem_of_mem_take hy, hxy⟩)
 obtain ⟨a1, _, a3⟩ := enter_preL (l := kids.take j) hG h1
 refine ⟨a1, ?_, fun x hx => (a3 x).2 (.inr (mem_subsL.2 ⟨x, hx, subs_self x⟩))⟩
 have h2 : ∀ x ∈ subsL (kids.drop j), x.right = true := fun x hx => by
  obtain ⟨y, hy, hxy⟩ := mem_subsL.1 hx
  exact hr x (mem_subsL.2 ⟨y, List.mem_of_mem_drop hy, hxy⟩)
 obtain ⟨_, b2, _⟩ := enter_preL (l := kids.drop j) a1 h2
 rw [← enterL_split, List.take_append_drop] at b2
 exact b2
end Go.Proofs.Eng
