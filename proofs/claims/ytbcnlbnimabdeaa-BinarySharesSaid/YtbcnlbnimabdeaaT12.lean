/- The program's table: what is needed to enter terms. No conditions beyond those in the theorems. -/
import Derived.Test.YtbcnlbnimabdeaaT11
import Derived.Test.YtbcnlbnimabdeaaQ5
set_option linter.all false
set_option linter.deprecated false
set_option linter.unnecessarySimpa false
set_option linter.unusedVariables false
set_option linter.unusedSimpArgs false
set_option linter.defProp false
namespace Go.Proofs.Eng
open Go Go.Proofs
set_option maxRecDepth 100000
set_option maxHeartbeats 8000000
/-- A map from texts to places. -/
def MapT (es : List (AV × AV)) (tab : List (List UInt8)) : Prop := es.length = tab.length ∧ ∀ key : List UInt8, lookA (.str (strOf key)) es = some (if key ∈ tab then some (.int (tab.idxOf key : Nat)) else none)
theorem mapT_nil : MapT [] [] := ⟨rfl, fun key => by simp [lookA]⟩
theorem up_new {k x : AV} : ∀ {es : List (AV × AV)}, lookA k es = some none → upA k x es = some (es ++ [(k, x)])
  | [], _ => rfl
  | (k', y) :: es, h => by
    rw [lookA] at h
    rw [upA]
    split at h
    · cases h
    · simp only [up_new h, Option.map_some, List.cons_append]
    · cases h
theorem look_app {k k' x : AV} {b : Bool} (hb : keyEq k k' = some b) : ∀ {es : List (AV × AV)} {r : Option AV}, lookA k es = some r → lookA k (es ++ [(k', x)]) = some (match r with | some y => some y | none => if b = true then some x else none)
  | [], r, h => by
    simp only [lookA, Option.some.injEq] at h; subst h
    rw [List.nil_append, lookA, hb]
    cases b <;> simp [lookA]
  | (k2, y) :: es, r, h => by
    rw [lookA] at h
    rw [List.cons_append, lookA]
    split at h
    · simp only [Option.some.injEq] at h; subst h; rfl
    · exact look_app hb h
    · cases h
theorem mapT_add {es : List (AV × AV)} {tab : List (List UInt8)} (h : MapT es tab) {key : List UInt8} (hk : key ∉ tab) : upA (.str (strOf key)) (.int (es.length : Nat)) es = some (es ++ [(.str (strOf key), .int (es.length : Nat))]) ∧ MapT (es ++ [(.str (strOf key), .int (es.length : Nat))]) (tab ++ [key]) := by
  refine ⟨up_new (by rw [h.2, if_neg hk]), by simp [h.1], fun k2 => ?_⟩
  have hb : keyEq (.str (strOf k2)) (.str (strOf key)) = some (decide (k2 = key)) := by
    simp only [keyEq, str_beq, Option.some.injEq, decide_eq_decide]
    exact ⟨strOf_inj, fun e => by rw [e]⟩
  rw [look_app hb (h.2 k2)]
  by_cases h2 : k2 ∈ tab
  · rw [if_pos h2, if_pos (List.mem_append_left _ h2), List.idxOf_append, if_pos h2]
  · rw [if_neg h2]
    by_cases h3 : k2 = key
    · rw [h3, if_pos (by simp), List.idxOf_append, if_neg hk, h.1]
      simp
    · have hno : k2 ∉ tab ++ [key] := by simp [h2, h3]
      rw [if_neg hno]
      simp [h3]
/-- A slice of one's own, and the table's text. -/
structure Two (T : List Nat) (tt : Tl) (Tc : List Nat) (b : List UInt8) (tb : Tl) (txt : List UInt8) (tt' : Tl) : Prop where
  own : ∀ i v, tb = .tl i v → T.length ≤ i
  oth : Oth T tt Tc tt'
  appb : App Tc (bytes b) tb
  appt : App Tc (bytes txt) tt'
  dis : ∀ i v v', tb = .tl i v → tt' ≠ .tl i v'
theorem App.lt {T : List Nat} {l : List AV} {t : Tl} (h : App T l t) {i v : Nat} (e : t = .tl i v) : i < T.length := by
  rcases h with ⟨_, rfl⟩ | ⟨_, id, ver, rfl, h2⟩
  · cases e
  · cases e; exact (List.getElem?_eq_some_iff.1 h2).1
theorem App.keep {T T' : List Nat} {l : List AV} {t u u' : Tl} (h : App T l t) (o : Oth T u T' u') (d : ∀ i v v', u = .tl i v → t ≠ .tl i v') : App T' l t := by
  rcases h with ⟨h1, rfl⟩ | ⟨h1, id, ver, rfl, h2⟩
  · exact .inl ⟨h1, rfl⟩
  · exact .inr ⟨h1, id, ver, rfl, o.2.1 id ver h2 fun v e => d id v ver e rfl⟩
theorem Two.start {T : List Nat} {tt : Tl} {txt : List UInt8} (h : App T (bytes txt) tt) : Two T tt T [] .nil txt tt :=
  ⟨fun i v e => (by cases e), .refl _ _, .inl ⟨rfl, rfl⟩, h, fun i v v' e => (by cases e)⟩
theorem Two.b {T : List Nat} {tt : Tl} {Tc : List Nat} {b : List UInt8} {tb : Tl} {txt : List UInt8} {tt' : Tl} (h : Two T tt Tc b tb txt tt') {Tc2 : List Nat} {b2 : List UInt8} {tb2 : Tl} (ha : App Tc2 (bytes b2) tb2) (o : Oth Tc tb Tc2 tb2) : Two T tt Tc2 b2 tb2 txt tt' where
  own i v e := by
    rcases o.2.2 i v e with ⟨v0, e0⟩ | hle
    · exact h.own i v0 e0
    · exact Nat.le_trans h.oth.1 hle
  oth := by
    refine ⟨Nat.le_trans h.oth.1 o.1, fun i v e n => o.2.1 i v (h.oth.2.1 i v e n) fun ver e' => ?_, h.oth.2.2⟩
    have h1 := h.own i ver e'
    have h2 := (List.getElem?_eq_some_iff.1 e).1
    omega
  appb := ha
  appt := h.appt.keep o h.dis
  dis i v v' e e' := by
    rcases o.2.2 i v e with ⟨v0, e0⟩ | hle
    · exact h.dis i v0 v' e0 e'
    · have := h.appt.lt e'; omega
theorem Two.t {T : List Nat} {tt : Tl} {Tc : List Nat} {b : List UInt8} {tb : Tl} {txt : List UInt8} {tt' : Tl} (h : Two T tt Tc b tb txt tt') {Tc2 : List Nat} {txt2 : List UInt8} {tt2 : Tl} (ha : App Tc2 (bytes txt2) tt2) (o : Oth Tc tt' Tc2 tt2) : Two T tt Tc2 b tb txt2 tt2 where
  own := h.own
  oth := h.oth.trans o
  appb := h.appb.keep o fun i v v' e e' => h.dis i v' v e' e
  appt := ha
  dis i v v' e e' := by
    rcases o.2.2 i v' e' with ⟨v0, e0⟩ | hle
    · exact h.dis i v v0 e e0
    · have := h.appb.lt e; omega
/-- The caller's blocks, of which two were written. -/
def BaseOK (B H : List AObj) (x m : Nat) (X M : AObj) : Prop := B.length = H.length ∧ B[x]? = some X ∧ B[m]? = some M ∧ ∀ X' M', (B.set x X').set m M' = (H.set x X').set m M'
theorem BaseOK.start {H : List AObj} {x m : Nat} {X M : AObj} (hx : H[x]? = some X) (hm : H[m]? = some M) : BaseOK H H x m X M := ⟨rfl, hx, hm, fun _ _ => rfl⟩
theorem BaseOK.step {B H : List AObj} {x m : Nat} {X M : AObj} (h : BaseOK B H x m X M) (hxm : x ≠ m) (X' M' : AObj) : BaseOK ((B.set x X').set m M') H x m X' M' := by
  obtain ⟨h1, h2, h3, h4⟩ := h
  have hx := (List.getElem?_eq_some_iff.1 h2).1
  have hm := (List.getElem?_eq_some_iff.1 h3).1
  refine ⟨by simp [h1], by rw [List.getElem?_set_ne (Ne.symm hxm)]; simp [hx], by simp [hm], fun X2 M2 => ?_⟩
  rw [← h4]
  apply List.ext_getElem?
  intro i
  simp only [List.getElem?_set, List.length_set]
  by_cases e1 : m = i
  · simp [e1]
  · by_cases e2 : x = i
    · simp [e1, e2]
    · simp [e1, e2]
theorem ent_lt (e : Tm) : ∀ tab, (e.ent tab).1 < (e.ent tab).2.length := by
  cases e with
  | mk k i n ls kids =>
    intro tab
    rw [Tm.ent]
    split
    · rename_i h; exact List.idxOf_lt_length_of_mem h
    · simp
theorem entL_app : ∀ (l : List Tm) (tab : List (List UInt8)) (x : Tm), entL tab (l ++ [x]) = ((entL tab l).1 ++ [(x.ent (entL tab l).2).1], (x.ent (entL tab l).2).2)
  | [], tab, x => by rw [List.nil_append, entL, entL, entL]; rfl
  | y :: l, tab, x => by rw [List.cons_append, entL, entL_app l, entL]; rfl
theorem entL_take {tab : List (List UInt8)} {l : List Tm} {j : Nat} {x : Tm} (h : l[j]? = some x) : entL tab (l.take (j + 1)) = ((entL tab (l.take j)).1 ++ [(x.ent (entL tab (l.take j)).2).1], (x.ent (entL tab (l.take j)).2).2) := by
  rw [List.take_add_one, h]
  exact entL_app _ _ _
theorem entL_pre_of {l : List Tm} (ih : ∀ t ∈ l, ∀ tab, ∃ m, (Tm.ent tab t).2 = tab ++ m) : ∀ tab, ∃ m, (entL tab l).2 = tab ++ m := by
  induction l with
  | nil => intro tab; exact ⟨[], by rw [entL]; simp⟩
  | cons t l ihl =>
    intro tab
    obtain ⟨m1, h1⟩ := ih t (by simp) tab
    obtain ⟨m2, h2⟩ := ihl (fun u hu => ih u (by simp [hu])) (Tm.ent tab t).2
    exact ⟨m1 ++ m2, by rw [entL, ← List.append_assoc, ← h1]; exact h2⟩
theorem ent_pre (e : Tm) : ∀ tab, ∃ m, (e.ent tab).2 = tab ++ m := by
  induction e using Tm.ind with
  | h k i n ls kids ih =>
    intro tab
    obtain ⟨m, hm⟩ := entL_pre_of ih tab
    rw [Tm.ent]
    split
    · exact ⟨m, hm⟩
    · refine ⟨m ++ [encN k.toNat ++ ((Tm.mk k i n ls kids).pay ++ (entL tab kids).1.flatMap encN)], ?_⟩
      show (entL tab kids).2 ++ _ = _
      rw [hm, List.append_assoc]
theorem entL_pre (l : List Tm) (tab : List (List UInt8)) : ∃ m, (entL tab l).2 = tab ++ m := entL_pre_of (fun t _ => ent_pre t) tab
theorem entL_pre_take {l : List Tm} {tab : List (List UInt8)} (j : Nat) : ∃ m, (entL tab l).2 = (entL tab (l.take j)).2 ++ m := by
  have key : ∀ (a b : List Tm) (tab : List (List UInt8)), (entL tab (a ++ b)).2 = (entL (entL tab a).2 b).2 := by
    intro a
    induction a with
    | nil => intro b tab; rw [List.nil_append, entL]
    | cons y a ih => intro b tab; rw [List.cons_append, entL, entL]; exact ih b _
  have := key (l.take j) (l.drop j) tab
  rw [List.take_append_drop] at this
  rw [this]
  exact entL_pre _ _
theorem entL_pos_take {l : List Tm} {tab : List (List UInt8)} (j : Nat) : ∃ m, (entL tab l).1 = (entL tab (l.take j)).1 ++ m := by
  have key : ∀ (a b : List Tm) (tab : List (List UInt8)), (entL tab (a ++ b)).1 = (entL tab a).1 ++ (entL (entL tab a).2 b).1 := by
    intro a
    induction a with
    | nil => intro b tab; rw [List.nil_append, entL]; rfl
    | cons y a ih =>
      intro b tab
      rw [List.cons_append, entL, entL]
      show _ :: (entL (Tm.ent tab y).2 (a ++ b)).1 = _
      rw [ih b]; rfl
  have := key (l.take j) (l.drop j) tab
  rw [List.take_append_drop] at this
  exact ⟨_, this⟩
theorem BaseOK.eq {B H : List AObj} {x m : Nat} {X M : AObj} (h : BaseOK B H x m X M) : B = (H.set x X).set m M := by
  rw [← h.2.2.2 X M, set_self h.2.1, set_self h.2.2.1]
theorem flatten_mem {b : List UInt8} {L : List (List UInt8)} (h : b ∈ L) : b.length ≤ L.flatten.length := by
  induction L with
  | nil => simp at h
  | cons x L ih =>
    rw [List.flatten_cons, List.length_append]
    rcases List.mem_cons.1 h with rfl | h
    · omega
    · have := ih h; omega
end Go.Proofs.Eng
