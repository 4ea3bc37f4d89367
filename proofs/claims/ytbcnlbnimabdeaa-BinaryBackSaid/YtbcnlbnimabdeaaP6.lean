/- P6: what functions of the program return. No conditions beyond those in the theorems. -/
import Derived.Test.YtbcnlbnimabdeaaP5
set_option linter.all false
set_option linter.deprecated false
set_option linter.unnecessarySimpa false
set_option linter.unusedVariables false
set_option linter.unusedSimpArgs false
set_option linter.defProp false
namespace Go.Proofs.Eng
open Go Go.Proofs
/-- Variables of a level: in range, in order. -/
def ascB : List (Int × Int) → Bool
  | [] => true
  | [_] => true
  | a :: b :: l => decide (a.1 < b.1) && ascB (b :: l)
def varB (v : Int × Int) : Bool := decide (-65536 ≤ v.1) && decide (v.1 < 8) && decide (0 ≤ v.2) && decide (v.2 ≤ 100)
def validB (l : Lv) : Bool := decide (0 ≤ l.c) && decide (l.c ≤ 100) && l.vs.all varB && ascB l.vs && (decide (l.c ≤ 0) || l.vs.all fun v => decide (v.2 < l.c))
/-- A node has the fields that its kind needs, and no others. -/
def Tm.right (t : Tm) : Bool :=
  t.ls.all validB && decide (kidsN t.k = t.kids.length) && (if t.k = 2 then decide (t.ls.length = 1) else if t.k = 3 then decide (t.ls.length ≤ 8) else decide (t.ls.length = 0)) && decide (t.n.size ≤ 65536) &&
  (if t.k = 0 ∨ t.k = 12 then decide (0 ≤ t.i) && decide (t.i ≤ 2147483647) && decide (t.n.size = 0) else decide (t.i = 0) && (decide (t.k = 3) || decide (t.n.size = 0)))
theorem valid_fine {l : Lv} (h : validB l = true) : l.fine ∧ l.c ≤ 100 ∧ ∀ v ∈ l.vs, v.1 < 8 ∧ v.2 ≤ 100 := by
  simp only [validB, varB, Bool.and_eq_true, decide_eq_true_eq, List.all_eq_true] at h
  obtain ⟨⟨⟨⟨h1, h2⟩, h3⟩, _⟩, _⟩ := h
  exact ⟨⟨h1, fun v hv => by have := h3 v hv; omega⟩, h2, fun v hv => by have := h3 v hv; omega⟩
theorem right_facts {t : Tm} (h : t.right = true) : t.fine ∧ (∀ l ∈ t.ls, validB l = true) ∧ t.ls.length ≤ 8 ∧ t.n.size ≤ 65536 ∧ t.i ≤ 2147483647 := by
  simp only [Tm.right, Bool.and_eq_true, List.all_eq_true, decide_eq_true_eq] at h
  obtain ⟨⟨⟨⟨h1, h2⟩, h3⟩, h4⟩, h5⟩ := h
  have h6 : t.ls.length ≤ 8 := by
    split at h3
    · simp at h3; omega
    split at h3
    · simpa using h3
    · simp at h3; simp [h3]
  refine ⟨⟨h2, fun l hl => (valid_fine (h1 l hl)).1, ⟨fun k => by rw [if_pos k] at h3; simpa using h3, fun k2 k3 => by rw [if_neg k2, if_neg k3] at h3; simpa using h3⟩, ⟨fun k => by rw [if_pos k] at h5; simp at h5; omega, fun k0 k12 => by rw [if_neg (by omega)] at h5; simp at h5; omega⟩, fun k3 => ?_⟩, h1, h6, h4, ?_⟩
  · split at h5
    · simp at h5; rw [h5.2]; rfl
    · simp at h5; rw [h5.2.resolve_left k3]; rfl
  · split at h5
    · simp at h5; omega
    · simp at h5; omega
/-! Reading. -/
abbrev By := List UInt8
def rN (s : By) : Option (Nat × By) := (getN s).map fun x => (x.1, s.drop x.2)
theorem rN_enc {n : Nat} (h : n ≤ mostN) (s : By) : rN (encN n ++ s) = some (n, s) := by
  unfold rN; rw [getN_enc h]; simp
def rText (s : By) : Option (By × By) := (rN s).bind fun x => if x.1 > 65536 ∨ x.1 > x.2.length then none else some (x.2.take x.1, x.2.drop x.1)
theorem rText_enc {a : By} (h : a.length ≤ 65536) (s : By) : rText (encN a.length ++ (a ++ s)) = some (a, s) := by
  unfold rText
  rw [rN_enc (by unfold mostN; omega)]
  simp only [Option.bind_some]
  rw [if_neg (by simp; omega)]
  simp
def rVars : Nat → By → Option (List (Int × Int) × By)
  | 0, s => some ([], s)
  | n + 1, s => (rN s).bind fun a => (rN a.2).bind fun b => (rVars n b.2).map fun l => (((a.1 : Int) - 65536, (b.1 : Int)) :: l.1, l.2)
def rLv (s : By) : Option (Lv × By) := (rN s).bind fun c => (rN c.2).bind fun n => (rVars n.1 n.2).map fun l => (⟨c.1, l.1⟩, l.2)
def rLvs : Nat → By → Option (List Lv × By)
  | 0, s => some ([], s)
  | n + 1, s => (rLv s).bind fun a => (rLvs n a.2).map fun l => (a.1 :: l.1, l.2)
theorem rVars_enc : ∀ (vs : List (Int × Int)) (s : By), (∀ v ∈ vs, (-65536 ≤ v.1 ∧ 0 ≤ v.2) ∧ v.1 < 8 ∧ v.2 ≤ 100) → rVars vs.length (vs.flatMap encV ++ s) = some (vs, s)
  | [], s, _ => by simp [rVars]
  | v :: vs, s, h => by
    have hv := h v (by simp)
    have ih := rVars_enc vs s fun x hx => h x (by simp [hx])
    simp only [List.flatMap_cons, encV, List.append_assoc, List.length_cons, rVars]
    rw [rN_enc (by unfold mostN; omega)]
    simp only [Option.bind_some]
    rw [rN_enc (by unfold mostN; omega)]
    simp only [Option.bind_some]
    rw [ih]
    simp only [Option.map_some, Option.some.injEq, Prod.mk.injEq, and_true, List.cons.injEq]
    exact Prod.ext (by show ((v.1 + 65536).toNat : Int) - 65536 = v.1; omega) (by show (v.2.toNat : Int) = v.2; omega)
theorem asc_len : ∀ (l : List (Int × Int)), ascB l = true → (∀ v ∈ l, v.1 < 8) → ∀ a ∈ l.head?, (l.length : Int) ≤ 8 - a.1
  | [], _, _, a, h => by simp at h
  | [x], _, h, a, ha => by simp at ha; subst ha; have := h x (by simp); simp; omega
  | x :: y :: l, h1, h, a, ha => by
    simp at ha; subst ha
    simp only [ascB, Bool.and_eq_true, decide_eq_true_eq] at h1
    have := asc_len (y :: l) h1.2 (fun v hv => h v (by simp [hv])) y (by simp)
    simp only [List.length_cons] at this ⊢
    omega
theorem valid_len {l : Lv} (h : validB l = true) : l.vs.length ≤ mostN := by
  have h2 := valid_fine h
  simp only [validB, Bool.and_eq_true] at h
  have h3 := asc_len l.vs h.1.2 fun v hv => (h2.2.2 v hv).1
  cases hv : l.vs with
  | nil => simp
  | cons v vs =>
    have := h3 v (by rw [hv]; simp)
    have := (h2.1.2 v (by rw [hv]; simp)).1
    rw [hv] at h3
    rw [← hv]
    unfold mostN; omega
theorem rLv_enc {l : Lv} (h : validB l = true) (s : By) : rLv (encL l ++ s) = some (l, s) := by
  have h2 := valid_fine h
  have h3 := valid_len h
  have hc := h2.1.1
  unfold rLv encL
  simp only [List.append_assoc]
  rw [rN_enc (by unfold mostN; omega)]
  simp only [Option.bind_some]
  rw [rN_enc h3]
  simp only [Option.bind_some]
  rw [rVars_enc l.vs s fun v hv => ⟨h2.1.2 v hv, h2.2.2 v hv⟩]
  simp only [Option.map_some, Option.some.injEq, Prod.mk.injEq, and_true]
  cases l with
  | mk c vs => congr 1; exact Int.toNat_of_nonneg hc
theorem rLvs_enc : ∀ (ls : List Lv) (s : By), (∀ l ∈ ls, validB l = true) → rLvs ls.length (ls.flatMap encL ++ s) = some (ls, s)
  | [], s, _ => by simp [rLvs]
  | l :: ls, s, h => by
    simp only [List.flatMap_cons, List.append_assoc, List.length_cons, rLvs]
    rw [rLv_enc (h l (by simp))]
    simp only [Option.bind_some]
    rw [rLvs_enc ls s fun x hx => h x (by simp [hx])]
    rfl
/-- Positions of a table. -/
def rKids (T : List Tm) : Nat → By → Option (List Tm × By)
  | 0, s => some ([], s)
  | n + 1, s => (rN s).bind fun a => match T[a.1]? with
    | none => none
    | some t => (rKids T n a.2).map fun l => (t :: l.1, l.2)
theorem rKids_enc {T : List Tm} (hT : T.length ≤ mostN) : ∀ (l : List Tm) (s : By), (∀ x ∈ l, x ∈ T) → rKids T l.length ((l.flatMap fun x => encN (T.idxOf x)) ++ s) = some (l, s)
  | [], s, _ => by simp [rKids]
  | t :: l, s, h => by
    have ht := h t (by simp)
    have hl := List.idxOf_lt_length_of_mem ht
    simp only [List.flatMap_cons, List.append_assoc, List.length_cons, rKids]
    rw [rN_enc (by omega)]
    simp only [Option.bind_some]
    rw [List.getElem?_eq_getElem hl, List.getElem_idxOf]
    simp only
    rw [rKids_enc hT l s fun x hx => h x (by simp [hx])]
    rfl
mutual
def Tm.dp : Tm → Nat
  | .mk _ _ _ _ kids => tdpL kids + 1
def tdpL : List Tm → Nat
  | [] => 0
  | t :: l => max t.dp (tdpL l)
end
/-- The fields of a kind. -/
def rPay (k : Nat) (s : By) : Option ((Int × ByteArray × List Lv) × By) :=
  if k = 0 ∨ k = 12 then (rN s).map fun x => (((x.1 : Int), ⟨#[]⟩, []), x.2)
  else if k = 2 then (rLv s).map fun x => ((0, ⟨#[]⟩, [x.1]), x.2)
  else if k = 3 then (rText s).bind fun x => (rN x.2).bind fun n => (rLvs n.1 n.2).map fun l => ((0, ⟨x.1.toArray⟩, l.1), l.2)
  else some ((0, ⟨#[]⟩, []), s)
def rEntry (T : List Tm) (s : By) : Option (Tm × By) :=
  (rN s).bind fun k => (rPay k.1 k.2).bind fun p => (rKids T (kidsN k.1).toNat p.2).bind fun l =>
    if (Tm.mk k.1 p.1.1 p.1.2.1 p.1.2.2 l.1).right = true ∧ (Tm.mk k.1 p.1.1 p.1.2.1 p.1.2.2 l.1).sz ≤ 4096 ∧ (Tm.mk k.1 p.1.1 p.1.2.1 p.1.2.2 l.1).dp ≤ 200 then some (Tm.mk k.1 p.1.1 p.1.2.1 p.1.2.2 l.1, l.2) else none
theorem toArr (n : ByteArray) : (⟨n.toList.toArray⟩ : ByteArray) = n := by
  rw [ByteArray.toList_eq]
theorem rEntry_enc {T : List Tm} (hT : T.length ≤ mostN) {t : Tm} (hr : t.right = true) (hs : t.sz ≤ 4096) (hd : t.dp ≤ 200) (hk : ∀ x ∈ t.kids, x ∈ T) (s : By) : rEntry T (entryT (fun x => T.idxOf x) t ++ s) = some (t, s) := by
  obtain ⟨hf, h1, h2, h3, h4⟩ := right_facts hr
  have hkr := kidsN_range (k := t.k) (by rw [hf.kids]; omega)
  obtain ⟨k, i, n, ls, kids⟩ := t
  have f1 := hf.kids; have f2 := hf.ls; have f3 := hf.ix; have f4 := hf.nm
  simp only [Tm.k, Tm.i, Tm.n, Tm.ls, Tm.kids] at *
  obtain ⟨q, rfl⟩ : ∃ q : Nat, k = q := ⟨k.toNat, by omega⟩
  unfold rEntry entryT
  simp only [Tm.k, Tm.kids, List.append_assoc, Int.toNat_natCast]
  rw [rN_enc (by unfold mostN; omega)]
  simp only [Option.bind_some]
  have hp : rPay q ((Tm.mk q i n ls kids).pay ++ ((kids.flatMap fun x => encN (T.idxOf x)) ++ s)) = some ((i, n, ls), (kids.flatMap fun x => encN (T.idxOf x)) ++ s) := by
    unfold rPay
    simp only [Tm.pay]
    by_cases k0 : q = 0 ∨ q = 12
    · have k0' : (q : Int) = 0 ∨ (q : Int) = 12 := by omega
      rw [if_pos k0, if_pos k0', rN_enc (by unfold mostN; have := f3.1 k0'; omega)]
      simp only [Option.map_some, Option.some.injEq, Prod.mk.injEq, and_true]
      exact ⟨Int.toNat_of_nonneg (f3.1 k0'), (f4 (by omega)).symm, (f2.2 (by omega) (by omega)).symm⟩
    · have k0' : ¬ ((q : Int) = 0 ∨ (q : Int) = 12) := by omega
      rw [if_neg k0, if_neg k0']
      have hi := f3.2 (by omega) (by omega)
      by_cases k2 : q = 2
      · have k2' : (q : Int) = 2 := by omega
        rw [if_pos k2, if_pos k2']
        have hl := f2.1 k2'
        match ls, hl with
        | [l], _ =>
          rw [List.headD_cons, rLv_enc (h1 l (by simp))]
          simp only [Option.map_some, Option.some.injEq, Prod.mk.injEq, and_true]
          exact ⟨hi.symm, (f4 (by omega)).symm⟩
      · have k2' : ¬ (q : Int) = 2 := by omega
        rw [if_neg k2, if_neg k2']
        by_cases k3 : q = 3
        · have k3' : (q : Int) = 3 := by omega
          rw [if_pos k3, if_pos k3']
          simp only [List.append_assoc]
          rw [← toList_len, rText_enc (by rw [toList_len]; exact h3)]
          simp only [Option.bind_some]
          rw [rN_enc (by unfold mostN; omega)]
          simp only [Option.bind_some]
          rw [rLvs_enc ls _ h1]
          simp only [Option.map_some, Option.some.injEq, Prod.mk.injEq, and_true]
          exact ⟨hi.symm, toArr n⟩
        · have k3' : ¬ (q : Int) = 3 := by omega
          rw [if_neg k3, if_neg k3', List.nil_append, hi, f4 k3', f2.2 k2' k3']
  rw [hp]
  simp only [Option.bind_some]
  rw [f1, Int.toNat_natCast, rKids_enc hT kids s hk]
  simp only [Option.bind_some]
  rw [if_pos ⟨hr, hs, hd⟩]
end Go.Proofs.Eng
