/- The text of a list of numbers, as a told result. No conditions beyond those in the theorems. -/
import Derived.Test.YtglembbmmnakaaaDoorST
import Derived.Test.YtglembbmmnakaaaDoorG5
set_option linter.all false
set_option linter.deprecated false
set_option linter.unnecessarySimpa false
set_option linter.unusedVariables false
set_option linter.unusedSimpArgs false
set_option linter.defProp false
namespace Go.Proofs.Eng
open Go Go.Proofs Go.Shelf Go.RowKit
/-- Numbers among values. -/
def intOf : AV → Option Int
  | .v (.int .i64 n) => if -9223372036854775808 ≤ n ∧ n ≤ 9223372036854775807 then some n else none
  | _ => none
def textO : List AV → Option AV
  | [.sl l _] => match mapO intOf l with
    | some ns => if ns.length ≤ 1073741824 then some (.str ⟨(textOf ns).toArray⟩) else none
    | none => none
  | _ => none
theorem intOf_some {a : AV} {n : Int} (h : intOf a = some n) : a = .int n ∧ -9223372036854775808 ≤ n ∧ n ≤ 9223372036854775807 := by
  unfold intOf at h
  split at h
  · split at h
    · simp only [Option.some.injEq] at h; subst h; exact ⟨rfl, ‹_›⟩
    · simp at h
  · simp at h
theorem intsOf_some : ∀ {l : List AV} {ns : List Int}, mapO intOf l = some ns → l = ints ns ∧ ∀ n ∈ ns, -9223372036854775808 ≤ n ∧ n ≤ 9223372036854775807
  | [], ns, h => by simp only [mapO, Option.some.injEq] at h; subst h; exact ⟨rfl, by simp⟩
  | a :: l, ns, h => by
    simp only [mapO] at h
    split at h
    · rename_i n hn
      split at h
      · rename_i ms hms
        simp only [Option.some.injEq] at h; subst h
        obtain ⟨h1, h2⟩ := intOf_some hn
        obtain ⟨h3, h4⟩ := intsOf_some hms
        refine ⟨by rw [h1, h3]; rfl, fun m hm => ?_⟩
        rcases List.mem_cons.1 hm with rfl | hm
        · exact h2
        · exact h4 m hm
      · simp at h
    · simp at h
theorem flat_ints : ∀ (ns : List Int), flat (ints ns) = ints ns
  | [] => rfl
  | n :: ns => by
    have := flat_ints ns
    simp only [ints, List.map_cons] at this ⊢
    rw [flat_cons, this]; rfl
theorem tab_of {g : Gh} {s : ASt} {w : World} (h : Inv g s w) {w' : World} (hb : Below w.heap.size w w') : Lib.TabIs Tryd.prog w' tabN .u64 Lib.pow10Tab := by
  obtain ⟨h1, _, t, z, h3⟩ := h.kn 0 rfl
  have e : Tryd.prog.globalNamed tabN = some 0 := by kernel_rfl
  unfold Lib.TabIs World.var?
  rw [e]
  simp only [Option.bind_some]
  rw [hb.block 0 h1, h3]
theorem text_ok : OraOK Tryd.prog 43 textO := by
  intro args v hv
  refine ⟨⟨_, _, Tryd.func43, rfl, by kernel_rfl⟩, fun g s w vs hI hr => ?_⟩
  unfold textO at hv
  split at hv
  · rename_i l t
    split at hv
    · rename_i ns hns
      split at hv
      · rename_i hlen
        simp only [Option.some.injEq] at hv; subst hv
        obtain ⟨rfl, hb⟩ := intsOf_some hns
        obtain ⟨u, us, rfl, hu, hnil⟩ := hr.cons_inv
        obtain rfl : us = [] := List.length_eq_zero_iff.1 hnil.1.symm
        obtain ⟨a, cap, b, o, cs, rfl, h1, h2, h3, h4, _⟩ := hu.sl_inv
        rw [flat_ints] at h1
        rw [ints_len]
        refine (text_walk ns hb hlen a cap b o w (fun hne => h3 (by intro e; exact hne (List.map_eq_nil_iff.1 e))) (fun k n hk => ?_) (fun w' hb => tab_of hI hb)).mono fun e w' ⟨he, hbl⟩ => ?_
        · have hlt := (List.getElem?_eq_some_iff.1 hk).1
          have hkc : k < cs.length := by rw [← h1.1, ints_len]; exact hlt
          have h5 := h1.2 k (.int n) cs[k] (by simp [ints, hk]) (List.getElem?_eq_getElem hkc)
          have h6 := (h2 k _ (List.getElem?_eq_getElem hkc)).1
          rw [h6, h5.v_inv]
        · subst he
          have hE : Ext g s w g s w' := Ext.same hbl.size hbl.block hbl.os hbl.tape hbl.output
          exact ⟨g, hI.keep hE fun c hc => hbl.block c (hI.has_lt hc), hE, .v rfl⟩
      · simp at hv
    · simp at hv
  · simp at hv
end Go.Proofs.Eng
