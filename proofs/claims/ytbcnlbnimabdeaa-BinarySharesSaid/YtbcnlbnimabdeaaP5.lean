/- P5: what functions of the program return. No conditions beyond those in the theorems. -/
import Derived.Test.YtbcnlbnimabdeaaP4
set_option linter.all false
set_option linter.deprecated false
set_option linter.unnecessarySimpa false
set_option linter.unusedVariables false
set_option linter.unusedSimpArgs false
set_option linter.defProp false
namespace Go.Proofs.Eng
open Go Go.Proofs
mutual
/-- The table with the subterms of a term, as the reference enters them. -/
def Tm.enter : List Tm → Tm → List Tm
  | T, .mk k i n ls kids => if Tm.mk k i n ls kids ∈ T then T else if Tm.mk k i n ls kids ∈ enterL T kids then enterL T kids else enterL T kids ++ [Tm.mk k i n ls kids]
def enterL : List Tm → List Tm → List Tm
  | T, [] => T
  | T, t :: l => enterL (Tm.enter T t) l
end
mutual
/-- The position of a term, and the texts of the entries, as the program enters them. -/
def Tm.ent : List (List UInt8) → Tm → Nat × List (List UInt8)
  | tab, .mk k i n ls kids =>
    if encN k.toNat ++ ((Tm.mk k i n ls kids).pay ++ (entL tab kids).1.flatMap encN) ∈ (entL tab kids).2 then ((entL tab kids).2.idxOf (encN k.toNat ++ ((Tm.mk k i n ls kids).pay ++ (entL tab kids).1.flatMap encN)), (entL tab kids).2)
    else ((entL tab kids).2.length, (entL tab kids).2 ++ [encN k.toNat ++ ((Tm.mk k i n ls kids).pay ++ (entL tab kids).1.flatMap encN)])
def entL : List (List UInt8) → List Tm → List Nat × List (List UInt8)
  | tab, [] => ([], tab)
  | tab, t :: l => ((Tm.ent tab t).1 :: (entL (Tm.ent tab t).2 l).1, (entL (Tm.ent tab t).2 l).2)
end
theorem enter_mem {T : List Tm} {t : Tm} (h : t ∈ T) : t.enter T = T := by
  cases t; rw [Tm.enter, if_pos h]
theorem enterL_mem {T : List Tm} : ∀ {l : List Tm}, (∀ x ∈ l, x ∈ T) → enterL T l = T
  | [], _ => by rw [enterL]
  | t :: l, h => by rw [enterL, enter_mem (h t (by simp)), enterL_mem fun x hx => h x (by simp [hx])]
/-- What entering does. -/
structure EnterOK (T T' : List Tm) (sub : Tm → Prop) : Prop where
  good : Good T'
  pre : ∃ m, T' = T ++ m
  mem : ∀ x, x ∈ T' ↔ x ∈ T ∨ sub x
theorem enterL_ok {T : List Tm} {l : List Tm} (ih : ∀ t ∈ l, ∀ T, Good T → (∀ x ∈ t.subs, x.fine) → EnterOK T (t.enter T) (· ∈ t.subs) ∧ t.ent (textT T) = ((t.enter T).idxOf t, textT (t.enter T))) (hT : Good T) (hf : ∀ x ∈ subsL l, x.fine) : EnterOK T (enterL T l) (· ∈ subsL l) ∧ entL (textT T) l = (l.map fun x => (enterL T l).idxOf x, textT (enterL T l)) := by
  induction l generalizing T with
  | nil =>
    rw [enterL, entL]
    exact ⟨⟨hT, ⟨[], by simp⟩, by simp [subsL]⟩, rfl⟩
  | cons t l ihl =>
    obtain ⟨a, b⟩ := ih t (by simp) T hT fun x hx => hf x (by rw [subsL]; simp [hx])
    obtain ⟨c, d⟩ := ihl (T := t.enter T) (fun u hu => ih u (by simp [hu])) a.good fun x hx => hf x (by rw [subsL]; simp [hx])
    obtain ⟨m, hm⟩ := a.pre
    obtain ⟨m', hm'⟩ := c.pre
    rw [enterL, entL, b]
    simp only [d]
    refine ⟨⟨c.good, ⟨m ++ m', by rw [hm', hm, List.append_assoc]⟩, fun x => ?_⟩, ?_⟩
    · rw [c.mem, a.mem, subsL, List.mem_append, or_assoc]
    · have : (enterL (t.enter T) l).idxOf t = (t.enter T).idxOf t := by
        rw [hm']
        exact idx_app ((a.mem t).2 (.inr (subs_self t))) _
      rw [List.map_cons, this]
theorem enter_ok (t : Tm) : ∀ T, Good T → (∀ x ∈ t.subs, x.fine) → EnterOK T (t.enter T) (· ∈ t.subs) ∧ t.ent (textT T) = ((t.enter T).idxOf t, textT (t.enter T)) := by
  induction t using Tm.ind with
  | h k i n ls kids ih =>
    intro T hT hf
    obtain ⟨a, b⟩ := enterL_ok ih hT fun x hx => hf x (by rw [Tm.subs]; simp [hx])
    have hb : ∀ T1 : List Tm, encN k.toNat ++ ((Tm.mk k i n ls kids).pay ++ (kids.map fun x => T1.idxOf x).flatMap encN) = entryT (fun x => T1.idxOf x) (Tm.mk k i n ls kids) := by
      intro T1
      unfold entryT
      rw [List.flatMap_map]; rfl
    by_cases ht : Tm.mk k i n ls kids ∈ T
    · rw [Tm.enter, if_pos ht]
      refine ⟨⟨hT, ⟨[], by simp⟩, fun x => ⟨.inl, fun h => h.elim id (hT.subs _ ht x)⟩⟩, ?_⟩
      have hk := (hT.all _ ht).2
      rw [enterL_mem (l := kids) hk] at b
      have hfm := (hT.all _ ht).1
      rw [Tm.ent, b]
      simp only [hb]
      rw [if_pos ((text_mem hT hfm hk).2 ht), text_idx hT ht]
    · have hn : Tm.mk k i n ls kids ∉ enterL T kids := by
        rw [a.mem]
        rintro (h | h)
        · exact ht h
        · obtain ⟨y, hy, hxy⟩ := mem_subsL.1 h
          have := subs_sz y _ hxy
          have := kid_sz (t := Tm.mk k i n ls kids) hy
          omega
      have hk : ∀ x ∈ (Tm.mk k i n ls kids).kids, x ∈ enterL T kids := fun x hx => (a.mem x).2 (.inr (mem_subsL.2 ⟨x, hx, subs_self x⟩))
      have hfm := hf _ (subs_self _)
      obtain ⟨m, hm⟩ := a.pre
      rw [Tm.enter, if_neg ht, if_neg hn]
      refine ⟨⟨.add a.good hn hfm hk, ⟨m ++ [Tm.mk k i n ls kids], by rw [hm, List.append_assoc]⟩, fun x => ?_⟩, ?_⟩
      · rw [List.mem_append, a.mem, Tm.subs]
        simp only [List.mem_cons, List.not_mem_nil, or_false]
        constructor
        · rintro ((h | h) | h)
          · exact .inl h
          · exact .inr (.inr h)
          · exact .inr (.inl h)
        · rintro (h | h | h)
          · exact .inl (.inl h)
          · exact .inr h
          · exact .inl (.inr h)
      · rw [Tm.ent, b]
        simp only [hb]
        rw [if_neg fun h => hn ((text_mem a.good hfm hk).1 h), idx_new hn, text_add a.good hk]
        simp [textT]
/-- The encoding of terms, by the reference. -/
def putT (l : List Tm) : List UInt8 :=
  encN (enterL [] l).length ++ ((textT (enterL [] l)).flatten ++ (encN l.length ++ l.flatMap fun t => encN ((enterL [] l).idxOf t)))
/-- The encoding of terms, by the program. -/
def putP (l : List Tm) : List UInt8 :=
  encN (entL [] l).2.length ++ ((entL [] l).2.flatten ++ (encN l.length ++ (entL [] l).1.flatMap encN))
theorem put_eq {l : List Tm} (hf : ∀ x ∈ subsL l, x.fine) : putP l = putT l := by
  obtain ⟨a, b⟩ := enterL_ok (l := l) (fun t _ => enter_ok t) Good.nil hf
  rw [show textT [] = [] from rfl] at b
  unfold putP putT
  rw [b]
  simp only
  rw [List.flatMap_map]
  simp [textT]
end Go.Proofs.Eng
