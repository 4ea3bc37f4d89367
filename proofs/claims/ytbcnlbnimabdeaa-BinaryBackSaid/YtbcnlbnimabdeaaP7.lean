/- P7: what functions of the program return. No conditions beyond those in the theorems. -/
import Derived.Test.YtbcnlbnimabdeaaP6
set_option linter.all false
set_option linter.deprecated false
set_option linter.unnecessarySimpa false
set_option linter.unusedVariables false
set_option linter.unusedSimpArgs false
set_option linter.defProp false
namespace Go.Proofs.Eng
open Go Go.Proofs
/-- The entries of a table. -/
def rTab : Nat → List Tm → By → Option (List Tm × By)
  | 0, T, s => some (T, s)
  | n + 1, T, s => (rEntry T s).bind fun x => rTab n (T ++ [x.1]) x.2
def getT (s : By) : Option (List Tm × By) :=
  (rN s).bind fun n => (rTab n.1 [] n.2).bind fun T => (rN T.2).bind fun m => if m.1 > 65536 then none else rKids T.1 m.1 m.2
/-- A term that may be encoded. -/
def Tm.fit (t : Tm) : Prop := t.right = true ∧ t.sz ≤ 4096 ∧ t.dp ≤ 200
theorem Good.cut {T m : List Tm} (h : Good (T ++ m)) : Good T := by
  generalize hU : T ++ m = U at h
  induction h generalizing m with
  | nil => simp at hU; rw [hU.1]; exact .nil
  | @add T' t h hn hf hk ih =>
    rcases List.eq_nil_or_concat m with rfl | ⟨m', x, rfl⟩
    · rw [List.append_nil] at hU; subst hU; exact .add h hn hf hk
    · rw [List.concat_eq_append, ← List.append_assoc] at hU
      exact ih (List.append_inj_left' hU rfl)
theorem Good.next {T m : List Tm} {t : Tm} (h : Good (T ++ t :: m)) : ∀ x ∈ t.kids, x ∈ T := by
  have h2 : Good (T ++ [t]) := by
    rw [show T ++ t :: m = (T ++ [t]) ++ m from by simp] at h
    exact h.cut
  generalize hU : T ++ [t] = U at h2
  cases h2 with
  | nil => simp at hU
  | add h hn hf hk =>
    have := List.append_inj_left' hU rfl
    have h3 := List.append_inj_right' hU rfl
    simp at h3; subst h3
    rw [this]; exact hk
theorem rTab_enc : ∀ (m : List Tm) {T : List Tm} (s : By), Good (T ++ m) → (T ++ m).length ≤ mostN → (∀ t ∈ m, t.fit) → rTab m.length T ((m.map (entryT fun x => (T ++ m).idxOf x)).flatten ++ s) = some (T ++ m, s)
  | [], T, s, _, _, _ => by simp [rTab]
  | t :: m, T, s, hg, hl, hf => by
    have hk := hg.next
    have ht := hf t (by simp)
    have hT : T.length ≤ mostN := by rw [List.length_append] at hl; omega
    have e1 : entryT (fun x => (T ++ t :: m).idxOf x) t = entryT (fun x => T.idxOf x) t := entry_congr fun x hx => idx_app (hk x hx) _
    rw [List.map_cons, List.flatten_cons, e1, List.append_assoc, List.length_cons, rTab, rEntry_enc hT ht.1 ht.2.1 ht.2.2 hk]
    simp only [Option.bind_some]
    have ih := rTab_enc m (T := T ++ [t]) s (by simpa using hg) (by simpa using hl) fun x hx => hf x (by simp [hx])
    simpa using ih
theorem getT_put {l : List Tm} (hf : ∀ x ∈ subsL l, x.fit) (hn : l.length ≤ 65536) (hT : (enterL [] l).length ≤ mostN) (s : By) : getT (putT l ++ s) = some (l, s) := by
  have hok := (enterL_ok (l := l) (fun t _ => enter_ok t) Good.nil fun x hx => (right_facts (hf x hx).1).1).1
  have hm : ∀ t ∈ enterL [] l, t.fit := fun t ht => hf t (((hok.mem t).1 ht).resolve_left (by simp))
  unfold getT putT
  simp only [List.append_assoc]
  rw [rN_enc hT]
  simp only [Option.bind_some]
  have := rTab_enc (enterL [] l) (T := []) (encN l.length ++ ((l.flatMap fun t => encN ((enterL [] l).idxOf t)) ++ s)) (by simpa using hok.good) (by simpa using hT) hm
  simp only [List.nil_append] at this
  unfold textT
  rw [this]
  simp only [Option.bind_some]
  rw [rN_enc (by unfold mostN; omega)]
  simp only [Option.bind_some]
  rw [if_neg (by omega)]
  exact rKids_enc hT l s fun x hx => (hok.mem x).2 (.inr (mem_subsL.2 ⟨x, hx, subs_self x⟩))
theorem dp_sz (t : Tm) : t.dp ≤ t.sz := by
  induction t using Tm.ind with
  | h k i n ls kids ih =>
    have key : ∀ l : List Tm, (∀ x ∈ l, x ∈ kids) → tdpL l ≤ tszL l := by
      intro l
      induction l with
      | nil => intro _; simp [tdpL]
      | cons x l ihl =>
        intro h
        have h1 := ih x (h x (by simp))
        have h2 := ihl fun y hy => h y (by simp [hy])
        simp only [tdpL, tszL]; omega
    have := key kids fun _ h => h
    rw [Tm.dp, Tm.sz]; omega
end Go.Proofs.Eng
