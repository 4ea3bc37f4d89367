/- A queue finds the different subterms; slices that begin behind the start of their block. No conditions beyond those in the theorems. -/
import Derived.Test.YtbcnlbnimabdeaaU0
import Derived.Test.YtbcnlbnimabdeaaT14
import Derived.Test.YtbcnlbnimabdeaaL2
set_option linter.all false
set_option linter.deprecated false
set_option linter.unnecessarySimpa false
set_option linter.unusedVariables false
set_option linter.unusedSimpArgs false
set_option linter.defProp false
namespace Go.Proofs.Eng
open Go Go.Proofs
set_option maxRecDepth 100000
theorem subsL_app {a b : List Tm} : subsL (a ++ b) = subsL a ++ subsL b := by
  induction a with
  | nil => simp [subsL]
  | cons x a ih => simp only [List.cons_append, subsL, ih, List.append_assoc]
theorem tszL_app {a b : List Tm} : tszL (a ++ b) = tszL a + tszL b := by
  induction a with
  | nil => simp [tszL]
  | cons x a ih => simp only [List.cons_append, tszL, ih, Nat.add_assoc]
theorem len_tszL : ∀ (l : List Tm), l.length ≤ tszL l
  | [] => by simp
  | x :: l => by
    have := len_tszL l
    obtain ⟨k, i, n, ls, kids⟩ := x
    simp only [tszL, Tm.sz, List.length_cons]; omega
/-- What was found and what is still to be looked through. -/
structure Queue (l all todo : List Tm) : Prop where
  nd : all.Nodup
  mem : ∀ x, (x ∈ all ∨ x ∈ subsL todo) ↔ x ∈ subsL l
  sz : tszL todo ≤ tszL l
theorem Queue.start (l : List Tm) : Queue l [] l := ⟨List.nodup_nil, fun x => by simp, Nat.le_refl _⟩
theorem Queue.next {l all r : List Tm} {t : Tm} (h : Queue l all (t :: r)) : Queue l (if t ∈ all then all else all ++ [t]) (r ++ t.kids) ∧ tszL (r ++ t.kids) < tszL (t :: r) := by
  obtain ⟨k, i, n, ls, kids⟩ := t
  have hs : tszL (r ++ kids) < tszL (Tm.mk k i n ls kids :: r) := by rw [tszL_app, tszL, Tm.sz]; omega
  refine ⟨⟨?_, fun x => ?_, ?_⟩, hs⟩
  · split
    · exact h.nd
    · rename_i hn
      rw [List.nodup_append]
      refine ⟨h.nd, by simp, fun a ha b hb => ?_⟩
      simp at hb; subst hb; rintro rfl; exact hn ha
  · rw [← h.mem x, subsL_app, subsL, Tm.subs]
    show _ ∨ x ∈ subsL r ++ subsL kids ↔ _
    simp only [List.mem_append, List.mem_cons]
    split
    · rename_i hm
      constructor
      · rintro (h1 | h1 | h1) <;> simp [h1]
      · rintro (h1 | (rfl | h1) | h1)
        · exact .inl h1
        · exact .inl hm
        · exact .inr (.inr h1)
        · exact .inr (.inl h1)
    · simp only [List.mem_append, List.mem_singleton]
      constructor
      · rintro ((h1 | h1) | h1 | h1) <;> simp [h1]
      · rintro (h1 | (h1 | h1) | h1) <;> simp [h1]
  · have := h.sz; show tszL (r ++ kids) ≤ _; omega
theorem Queue.len {l all todo : List Tm} (h : Queue l all todo) : all.length ≤ tszL l := by
  have key : ∀ t : Tm, t.subs.length = t.sz := by
    intro t
    induction t using Tm.ind with
    | h k i n ls kids ih =>
      have : ∀ m : List Tm, (∀ x ∈ m, x ∈ kids) → (subsL m).length = tszL m := by
        intro m
        induction m with
        | nil => intro _; simp [subsL, tszL]
        | cons x m ihm =>
          intro hm
          rw [subsL, tszL, List.length_append, ih x (hm x (by simp)), ihm fun y hy => hm y (by simp [hy])]
      rw [Tm.subs, Tm.sz, List.length_cons, this kids fun _ h => h]; omega
  have hL : ∀ m : List Tm, (subsL m).length = tszL m := by
    intro m
    induction m with
    | nil => simp [subsL, tszL]
    | cons x m ihm => rw [subsL, tszL, List.length_append, key x, ihm]
  have := nodup_len h.nd fun x hx => (h.mem x).1 (.inl hx)
  rw [hL] at this; exact this
theorem Queue.done {l all : List Tm} (h : Queue l all []) (ha : allRL l = true) : (enterL [] l).length = all.length := by
  obtain ⟨ok, _⟩ := table_ok ha
  refine nodup_eq ok.good.nodup h.nd fun x => ?_
  rw [ok.mem x, ← h.mem x]; simp [subsL]
/-- The queue's end. -/
def TlQ (i : Nat) (T : List Nat) (t : Tl) : Prop := ∃ v, T[i]? = some v ∧ (t = .tl i v ∨ t = .tls i v 5)
/-- The end of the other list. -/
def AllQ (i : Nat) (T : List Nat) (l : List AV) (t : Tl) : Prop := (l = [] ∧ t = .nil) ∨ (l ≠ [] ∧ ∃ id v, t = .tl id v ∧ T[id]? = some v ∧ id ≠ i)
theorem TlQ.slice {i : Nat} {T : List Nat} {t : Tl} {l : List AV} (h : TlQ i T t) (hl : 0 < l.length) : ∃ v, T[i]? = some v ∧ sliceA 5 l t 1 l.length none = some (.sl (l.drop 1) (.tls i v 5)) := by
  have h1 : 1 ≤ l.length := hl
  obtain ⟨v, hv, rfl | rfl⟩ := h
  · refine ⟨v, hv, ?_⟩
    rw [sliceA, if_pos ⟨h1, Nat.le_refl _⟩]
    simp
  · refine ⟨v, hv, ?_⟩
    rw [sliceA, if_pos ⟨h1, Nat.le_refl _⟩]
    simp
theorem app_tls {i v : Nat} {T : List Nat} {l xs : List AV} (hv : T[i]? = some v) (hl : l.length + xs.length ≤ capB) (ha : (l.all fun x => x.cells.length == 5) = true) (hx : (xs.all fun x => x.cells.length == 5 && x.cells.all oneCell) = true) :
    ∃ v' T', (∀ H, appA ⟨H, T⟩ 5 none l (.tls i v 5) xs = some (.sl (l ++ xs) (.tls i v' 5), ⟨H, T'⟩)) ∧ TlQ i T' (.tls i v' 5) ∧ ∀ j, j ≠ i → T'[j]? = T[j]? := by
  have hn : l.length + xs.length ≤ 1073741824 := by unfold capB at hl; omega
  cases xs with
  | nil => exact ⟨v, T, fun H => by simp [appA], ⟨v, hv, .inr rfl⟩, fun _ _ => rfl⟩
  | cons x xs =>
    have hi : i < T.length := (List.getElem?_eq_some_iff.1 hv).1
    refine ⟨v + 1, T.set i (v + 1), fun H => ?_, ⟨v + 1, by simp [List.getElem?_set, hi], .inr rfl⟩, fun j hj => by rw [List.getElem?_set_ne (Ne.symm hj)]⟩
    simp only [appA, hv, ha, hx]
    simp only [List.length_cons] at hn
    simp [hn]
theorem AllQ.keep {i : Nat} {T T' : List Nat} {l : List AV} {t : Tl} (h : AllQ i T l t) (hk : ∀ j, j ≠ i → T'[j]? = T[j]?) : AllQ i T' l t := by
  rcases h with h | ⟨h1, id, v, h2, h3, h4⟩
  · exact .inl h
  · exact .inr ⟨h1, id, v, h2, by rw [hk id h4]; exact h3, h4⟩
theorem AllQ.one {i : Nat} {T : List Nat} {l : List AV} {t tq : Tl} {x : AV} (h : AllQ i T l t) (hq : TlQ i T tq) (hl : l.length < capB) (ha : (l.all fun x => x.cells.length == 5) = true) (hx : x.cells.length = 5) (ho : x.cells.all oneCell = true) :
    ∃ t' T', (∀ H, appA ⟨H, T⟩ 5 none l t [x] = some (.sl (l ++ [x]) t', ⟨H, T'⟩)) ∧ AllQ i T' (l ++ [x]) t' ∧ TlQ i T' tq := by
  have hn' : l.length + 1 ≤ 1073741824 := by unfold capB at hl; omega
  obtain ⟨v, hv, hq⟩ := hq
  have hi : i < T.length := (List.getElem?_eq_some_iff.1 hv).1
  rcases h with ⟨rfl, rfl⟩ | ⟨hne, id, ver, rfl, hT, hid⟩
  · refine ⟨.tl T.length 0, T ++ [0], fun H => ?_, .inr ⟨by simp, _, _, rfl, by simp, by omega⟩, v, by rw [List.getElem?_append_left hi]; exact hv, hq⟩
    simp [appA, hx]
    simpa using ho
  · have : id < T.length := (List.getElem?_eq_some_iff.1 hT).1
    refine ⟨.tl id (ver + 1), T.set id (ver + 1), fun H => ?_, .inr ⟨by simp, _, _, rfl, by simp [List.getElem?_set, this], hid⟩, v, by rw [List.getElem?_set_ne hid]; exact hv, hq⟩
    simp only [appA, List.length_cons, List.length_nil, hT, ha, hx, List.all_cons, List.all_nil, ho, beq_self_eq_true, Bool.and_self]
    simp [hn', hne]
end Go.Proofs.Eng
