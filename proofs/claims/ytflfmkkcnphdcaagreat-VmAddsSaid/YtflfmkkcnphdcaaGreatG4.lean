/- The engine's calculus, first part: the interpreter without its fuel. No conditions. -/
import Derived.Test.YtflfmkkcnphdcaaGreatG1
import Derived.Test.YtflfmkkcnphdcaaGreatG6
import Derived.ProofKit
import Derived.OpenVars
import Derived.DataReads
set_option linter.all false
set_option linter.deprecated false
set_option linter.unnecessarySimpa false
set_option linter.unusedVariables false
set_option linter.unusedSimpArgs false
set_option linter.defProp false
namespace Go.Proofs.Eng
structure ja {α : Type} (a : Nat -> Option α) (b : Option α) : Prop where
 mono : ∀ F F' r, F <= F' -> a F = some r -> a F' = some r
 up : ∀ F r, a F = some r -> b = some r
 fin : ∀ r, b = some r -> ∃ F, a F = some r
section
variable {α β : Type}
theorem ja.const (x : Option α) : ja (λ _ => x) x := ⟨λ _ _ _ _ h => h, λ _ _ h => h, λ _ h => ⟨0, h⟩⟩
theorem ja.app {a : Nat -> Option α} {b : Option α} {k : Nat -> Option α -> Option β} {k' : Option α -> Option β} (h : ja a b) (hn : ∀ F, k F none = none) (hn' : k' none = none) (hk : ∀ x, ja (λ F => k F (some x)) (k' (some x))) : ja (λ F => k F (a F)) (k' b) := by
 refine ⟨λ F F' r hF e => ?_, λ F r e => ?_, λ r e => ?_⟩
 ·cases ha : a F with
  | none => rw [ha, hn] at e; cases e
  | some x => rw [ha] at e; simp only [h.mono F F' x hF ha]; exact (hk x).mono F F' r hF e
 ·cases ha : a F with
  | none => rw [ha, hn] at e; cases e
  | some x => rw [ha] at e; rw [h.up F x ha]; exact (hk x).up F r e
 ·cases hb : b with
  | none => rw [hb, hn'] at e; cases e
  | some x =>
   rw [hb] at e
   obtain ⟨F1, h1⟩ := h.fin x hb
   obtain ⟨F2, h2⟩ := (hk x).fin r e
   refine ⟨max F1 F2, ?_⟩
   simp only [h.mono F1 (max F1 F2) x (Nat.le_max_left _ _) h1]
   exact (hk x).mono F2 (max F1 F2) r (Nat.le_max_right _ _) h2
open Classical in
noncomputable def lim (a : Nat -> Option α) : Option α := if h : ∃ r F, a F = some r then some h.choose else none
theorem ja.lim {a : Nat -> Option α} (hm : ∀ F F' r, F <= F' -> a F = some r -> a F' = some r) : ja a (lim a) := by
 have key : ∀ r F, a F = some r -> Go.Proofs.Eng.lim a = some r := by
  intro r F h
  have hx : ∃ r F, a F = some r := ⟨r, F, h⟩
  unfold Go.Proofs.Eng.lim
  rw [dif_pos hx]
  obtain ⟨F2, h2⟩ := hx.choose_spec
  have h3 := hm F (max F F2) r (Nat.le_max_left _ _) h
  have h4 := hm F2 (max F F2) _ (Nat.le_max_right _ _) h2
  rw [h3] at h4
  exact h4.symm
 refine ⟨hm, λ F r h => key r F h, λ r h => ?_⟩
 unfold Go.Proofs.Eng.lim at h
 split at h
 ·rename_i hx
  obtain ⟨F, hF⟩ := hx.choose_spec
  exact ⟨F, by rw [hF]; exact h⟩
 ·cases h
theorem ja.shift {a : Nat -> Option α} {b : Option α} (h : ja (λ F => a (F + 1)) b) (h0 : a 0 = none) : ja a b := by
 refine ⟨λ F F' r hF e => ?_, λ F r e => ?_, λ r e => ?_⟩
 ·cases F with
  | zero => rw [h0] at e; cases e
  | succ F =>
   cases F' with
   | zero => omega
   | succ F' => exact h.mono F F' r (by omega) e
 ·cases F with
  | zero => rw [h0] at e; cases e
  | succ F => exact h.up F r e
 ·obtain ⟨F, hF⟩ := h.fin r e; exact ⟨F + 1, hF⟩
theorem ja.uniq {a : Nat -> Option α} {b c : Option α} (h : ja a b) (k : ja a c) : b = c := by
 cases hb : b with
 | none =>
  cases hc : c with
  | none => rfl
  | some x => obtain ⟨F, hF⟩ := k.fin x hc; rw [h.up F x hF] at hb; cases hb
 | some x => obtain ⟨F, hF⟩ := h.fin x hb; exact (k.up F x hF).symm
end
section
variable {md : FuncId -> Md} {c : Nat -> gr} {c' : gr}
def nz (c : Nat -> gr) (c' : gr) : Prop := ∀ f args s, ja (λ F => c F f args s) (c' f args s)
theorem Me (h : nz c c') (pm : Bool) (s : ASt) (f : FuncId) (args : List AV) : ja (λ F => lj (c F) md pm s f args) (lj c' md pm s f args) := by
 unfold lj
 cases md f with
 | pure =>
  simp only
  by_cases hp : (pm && !gg args) = true
  ·simp only [hp, if_true]; exact .const _
  ·simp only [hp]
   cases iq (gh 20 s) args with
   | none => exact .const _
   | some args' => exact ja.app (k := λ _ (o : Option (ju × ASt)) => (match o with | some (out, s') => (out.gh 1020 s').map λ o => (o, args.foldl (frz 20) s) | none => none : Option (ju × ASt))) (k' := λ (o : Option (ju × ASt)) => (match o with | some (out, s') => (out.gh 1020 s').map λ o => (o, args.foldl (frz 20) s) | none => none : Option (ju × ASt))) (h f args' ⟨[], []⟩) (λ _ => rfl) rfl λ _ => .const _
 | shared =>
  simp only
  cases pm with
  | true => exact .const _
  | false => exact ja.app (k := λ _ (o : Option (ju × ASt)) => (match o with | some (out, s') => (out.gh 20 s').map λ o => (o, out.frz 20 s') | none => none : Option (ju × ASt))) (k' := λ (o : Option (ju × ASt)) => (match o with | some (out, s') => (out.gh 20 s').map λ o => (o, out.frz 20 s') | none => none : Option (ju × ASt))) (h f args s) (λ _ => rfl) rfl λ _ => .const _
 | raw =>
  simp only
  cases pm with
  | true => exact .const _
  | false => exact h f args s
theorem ll (h : nz c c') (pm : Bool) (i : PI) (st : St) : ja (λ F => ik (c F) md pm i st) (ik c' md pm i st) := by
 unfold ik
 cases ic st.tm i.g with
 | none => exact .const _
 | some b =>
  cases b with
  | false => exact .const _
  | true =>
   simp only
   cases opA st.tm st.s i.op with
   | none => exact .const _
   | some o =>
    cases o with
    | call f args => exact ja.app (k := λ _ (o : Option (ju × ASt)) => (match o with | some (.ret v, s) => some (.normal, { st with tm := put st.tm i.dst v, s }) | some (.pan v, s) => some (.pan v, { st with s }) | none => none : Option (fu × St))) (k' := λ (o : Option (ju × ASt)) => (match o with | some (.ret v, s) => some (.normal, { st with tm := put st.tm i.dst v, s }) | some (.pan v, s) => some (.pan v, { st with s }) | none => none : Option (fu × St))) (Me h pm st.s f args) (λ _ => rfl) rfl λ _ => .const _
    | _ => exact .const _
theorem yh (h : nz c c') : ∀ (l : List PI) (st : St), ja (λ F => jv (c F) md l st) (jv c' md l st)
 | [], st => .const _
 | i :: l, st => by
  refine ja.app (k := λ F (o : Option (fu × St)) => (match o with | some (.normal, st) => jv (c F) md l st | r => r : Option (fu × St))) (k' := λ (o : Option (fu × St)) => (match o with | some (.normal, st) => jv c' md l st | r => r : Option (fu × St))) (ll h false i st) (λ _ => rfl) rfl λ x => ?_
  obtain ⟨ex, st1⟩ := x
  cases ex with
  | normal => exact yh h l st1
  | _ => exact .const _
theorem u5 (h : nz c c') (hd : List PI) : ∀ (l : List PI) (st : St) (p : Option (Nat × AV × ASt)), ja (λ F => jk (c F) md hd l st p) (jk c' md hd l st p)
 | [], st, p => .const _
 | i :: l, st, none => by
  refine ja.app (k := λ F (o : Option (fu × St)) => (match o with | some (.normal, st) => jk (c F) md hd l st none | some (.pan v, _) => if Da hd i then jk (c F) md hd l st (some (i.ix, v, st.s)) else none | _ => none : Option (St × Option (AV × ASt)))) (k' := λ (o : Option (fu × St)) => (match o with | some (.normal, st) => jk c' md hd l st none | some (.pan v, _) => if Da hd i then jk c' md hd l st (some (i.ix, v, st.s)) else none | _ => none : Option (St × Option (AV × ASt)))) (ll h true i st) (λ _ => rfl) rfl λ x => ?_
  obtain ⟨ex, st1⟩ := x
  cases ex with
  | normal => exact u5 h hd l st1 none
  | pan v =>
   simp only
   split
   ·exact u5 h hd l st _
   ·exact .const _
  | _ => exact .const _
 | i :: l, st, some (k, v, s) => by
  unfold jk
  split
  ·exact u5 h hd l st _
  ·refine ja.app (k := λ F (o : Option (fu × St)) => (match o with | some (.normal, st) => jk (c F) md hd l st (some (k, v, s)) | _ => none : Option (St × Option (AV × ASt)))) (k' := λ (o : Option (fu × St)) => (match o with | some (.normal, st) => jk c' md hd l st (some (k, v, s)) | _ => none : Option (St × Option (AV × ASt)))) (ll h true i st) (λ _ => rfl) rfl λ x => ?_
   obtain ⟨ex, st1⟩ := x
   cases ex with
   | normal => exact u5 h hd l st1 _
   | _ => exact .const _
theorem Cf (h : nz c c') : ∀ (l : List PI) (st : St), ja (λ F => pg (c F) md l st) (pg c' md l st)
 | [], st => .const _
 | i :: l, st => by
  refine ja.app (k := λ F (o : Option (fu × St)) => (match o with | some (.normal, st) => pg (c F) md l st | _ => none : Option St)) (k' := λ (o : Option (fu × St)) => (match o with | some (.normal, st) => pg c' md l st | _ => none : Option St)) (ll h true i st) (λ _ => rfl) rfl λ x => ?_
  obtain ⟨ex, st1⟩ := x
  cases ex with
  | normal => exact Cf h l st1
  | _ => exact .const _
theorem Lj (h : nz c c') (n : Nat) (l : List PI) (st : St) : ja (λ F => Ag (c F) md n l st) (Ag c' md n l st) := by
 unfold Ag
 refine ja.app (k := λ F (o : Option St) => (match o with
  | some st1 => (match l.drop n with
   | i :: l' => (match ik (c F) md false i st1 with
    | some (.normal, st2) => if ((l.take n).all λ j => i.pre.contains j.ix || j.op.kd == .S || lz st1.tm st1.s st2.s j.op) = true then (pg (c F) md l' st2).map λ st3 => (st3, none) else none
    | some (.pan v, st2) => some (st2, some (v, st2.s))
    | _ => none)
   | [] => none)
  | none => none : Option (St × Option (AV × ASt)))) (k' := λ (o : Option St) => (match o with
  | some st1 => (match l.drop n with
   | i :: l' => (match ik c' md false i st1 with
    | some (.normal, st2) => if ((l.take n).all λ j => i.pre.contains j.ix || j.op.kd == .S || lz st1.tm st1.s st2.s j.op) = true then (pg c' md l' st2).map λ st3 => (st3, none) else none
    | some (.pan v, st2) => some (st2, some (v, st2.s))
    | _ => none)
   | [] => none)
  | none => none : Option (St × Option (AV × ASt)))) (Cf h (l.take n) st) (λ _ => rfl) rfl λ st1 => ?_
 simp only
 cases l.drop n with
 | nil => exact .const _
 | cons i l' =>
  refine ja.app (k := λ F (o : Option (fu × St)) => (match o with
    | some (.normal, st2) => if ((l.take n).all λ j => i.pre.contains j.ix || j.op.kd == .S || lz st1.tm st1.s st2.s j.op) = true then (pg (c F) md l' st2).map λ st3 => (st3, none) else none
    | some (.pan v, st2) => some (st2, some (v, st2.s))
    | _ => none : Option (St × Option (AV × ASt)))) (k' := λ (o : Option (fu × St)) => (match o with
    | some (.normal, st2) => if ((l.take n).all λ j => i.pre.contains j.ix || j.op.kd == .S || lz st1.tm st1.s st2.s j.op) = true then (pg c' md l' st2).map λ st3 => (st3, none) else none
    | some (.pan v, st2) => some (st2, some (v, st2.s))
    | _ => none : Option (St × Option (AV × ASt)))) (ll h false i st1) (λ _ => rfl) rfl λ x => ?_
  obtain ⟨ex, st2⟩ := x
  cases ex with
  | normal =>
   simp only
   split
   ·exact ja.app (k := λ _ (o : Option St) => o.map λ st3 => (st3, none)) (k' := λ (o : Option St) => o.map λ st3 => (st3, none)) (Cf h l' st2) (λ _ => rfl) rfl λ _ => .const _
   ·exact .const _
  | _ => exact .const _
theorem yu (h : nz c c') : ∀ (l : List PI) (tm : List AV) (s : ASt) (Z : List fp), ja (λ F => vz (c F) md l tm s Z) (vz c' md l tm s Z)
 | [], tm, s, Z => .const _
 | i :: l, tm, s, Z => by
  unfold vz
  split
  ·refine ja.app (k := λ F (o : Option (fu × St)) => (match o with | some (.normal, st) => vz (c F) md l st.tm st.s Z | _ => none : Option (List AV × ASt × List fp))) (k' := λ (o : Option (fu × St)) => (match o with | some (.normal, st) => vz c' md l st.tm st.s Z | _ => none : Option (List AV × ASt × List fp))) (ll h true i ⟨tm, [], s⟩) (λ _ => rfl) rfl λ x => ?_
   obtain ⟨ex, st1⟩ := x
   cases ex with
   | normal => exact yu h l _ _ _
   | _ => exact .const _
  ·cases og tm (s.H.length + Z.length) i.op with
   | none => exact .const _
   | some x => exact yu h l _ _ _
theorem Sa (h : nz c c') (l : List PI) (st : St) : ja (λ F => Gi (c F) md l st) (Gi c' md l st) := by
 unfold Gi
 cases l.getLast? with
 | none => exact .const _
 | some p =>
  simp only
  by_cases hk : (p.op.kd == .W) = true
  ·simp only [if_pos hk]
   refine ja.app (k := λ F (o : Option (List AV × ASt × List fp)) => (match o with
    | some (tm, s, Z) => (match ik (c F) md true p ⟨tm, st.df, { s with H := s.H ++ Z }⟩ with
     | some (.normal, st2) => if (l.dropLast.all λ j => p.pre.contains j.ix || j.op.kd == .S || lz tm { s with H := s.H ++ Z } st2.s j.op) = true then some st2 else none
     | _ => none)
    | none => none : Option St)) (k' := λ (o : Option (List AV × ASt × List fp)) => (match o with
    | some (tm, s, Z) => (match ik c' md true p ⟨tm, st.df, { s with H := s.H ++ Z }⟩ with
     | some (.normal, st2) => if (l.dropLast.all λ j => p.pre.contains j.ix || j.op.kd == .S || lz tm { s with H := s.H ++ Z } st2.s j.op) = true then some st2 else none
     | _ => none)
    | none => none : Option St)) (yu h l.dropLast st.tm st.s []) (λ _ => rfl) rfl λ x => ?_
   obtain ⟨tm, s, Z⟩ := x
   exact ja.app (k := λ _ (o : Option (fu × St)) => (match o with
     | some (.normal, st2) => if (l.dropLast.all λ j => p.pre.contains j.ix || j.op.kd == .S || lz tm { s with H := s.H ++ Z } st2.s j.op) = true then some st2 else none
     | _ => none : Option St)) (k' := λ (o : Option (fu × St)) => (match o with
     | some (.normal, st2) => if (l.dropLast.all λ j => p.pre.contains j.ix || j.op.kd == .S || lz tm { s with H := s.H ++ Z } st2.s j.op) = true then some st2 else none
     | _ => none : Option St)) (ll h true p ⟨tm, st.df, { s with H := s.H ++ Z }⟩) (λ _ => rfl) rfl λ x => .const _
  ·simp only [if_neg hk]
   exact ja.app (k := λ _ (o : Option (List AV × ASt × List fp)) => (match o with
    | some (tm, s, Z) => some ⟨tm, st.df, { s with H := s.H ++ Z }⟩
    | none => none : Option St)) (k' := λ (o : Option (List AV × ASt × List fp)) => (match o with
    | some (tm, s, Z) => some ⟨tm, st.df, { s with H := s.H ++ Z }⟩
    | none => none : Option St)) (yu h l st.tm st.s []) (λ _ => rfl) rfl λ x => .const _
theorem Nz (h : nz c c') (n : Nat) (l : List PI) (st : St) : ja (λ F => n6 (c F) md n l st) (n6 c' md n l st) := by
 by_cases h0 : n < 1000
 ·simp only [n6, if_pos h0]
  exact Lj h n l st
 ·simp only [n6, if_neg h0]
  exact ja.app (k := λ _ (o : Option St) => o.map λ st => (st, none)) (k' := λ (o : Option St) => o.map λ st => (st, none)) (Sa h l st) (λ _ => rfl) rfl λ _ => .const _
theorem Y3 {call : gr} {md : FuncId -> Md} {n : Nat} {ns : List Nat} {l : List PI} {st : St} (h : n ≠ 9000000) : m4 call md (n :: ns) l st =
  match (if n < 1000 then jk call md (l.take (n % 1000)) (l.take (n % 1000)) st none else n6 call md (n / 1000 - 1) (l.take (n % 1000)) st) with
  | some (st', none) =>
   match l.drop (n % 1000) with
   | [] => some (.normal, st')
   | b :: l' =>
    match ik call md false b st' with
    | some (.normal, st2) => m4 call md ns l' st2
    | r => r
  | some (_, some (v, s)) => some (.pan v, { st with tm := kp (l.take (n % 1000)) st.tm, s })
  | none => none := by
 rw [m4.eq_def]
 simp only [if_neg h]
 rfl
theorem Zv {call : gr} {md : FuncId -> Md} {ns : List Nat} {i : PI} {l : List PI} {st : St} : m4 call md (9000000 :: ns) (i :: l) st =
  match ik call md false i st with
  | some (.normal, st1) =>
   match m4 call md ns l st1 with
   | some (.normal, st2) => some (.normal, st2)
   | _ => none
  | _ => none := by
 rw [m4.eq_def]
 rfl
theorem Cr (h : nz c c') : ∀ (ns : List Nat) (l : List PI) (st : St), ja (λ F => m4 (c F) md ns l st) (m4 c' md ns l st)
 | [], l, st => yh h l st
 | n :: ns, l, st => by
  by_cases hf : n = 9000000
  ·subst hf
   cases l with
   | nil =>
    have e : ∀ c : gr, m4 c md (9000000 :: ns) [] st = none := λ c => by rw [m4.eq_def]; rfl
    simp only [e]
    exact .const _
   | cons i l' =>
    simp only [Zv]
    refine ja.app (k := λ F (o : Option (fu × St)) => (match o with | some (.normal, st1) => (match m4 (c F) md ns l' st1 with | some (.normal, st2) => some (.normal, st2) | _ => none) | _ => none : Option (fu × St))) (k' := λ (o : Option (fu × St)) => (match o with | some (.normal, st1) => (match m4 c' md ns l' st1 with | some (.normal, st2) => some (.normal, st2) | _ => none) | _ => none : Option (fu × St))) (ll h false i st) (λ _ => rfl) rfl λ x => ?_
    obtain ⟨ex, st1⟩ := x
    cases ex with
    | normal => exact ja.app (k := λ _ (o : Option (fu × St)) => (match o with | some (.normal, st2) => some (.normal, st2) | _ => none : Option (fu × St))) (k' := λ (o : Option (fu × St)) => (match o with | some (.normal, st2) => some (.normal, st2) | _ => none : Option (fu × St))) (Cr h ns l' st1) (λ _ => rfl) rfl λ _ => .const _
    | _ => exact .const _
  simp only [Y3 hf]
  refine ja.app (a := λ F => if n < 1000 then jk (c F) md (l.take (n % 1000)) (l.take (n % 1000)) st none else n6 (c F) md (n / 1000 - 1) (l.take (n % 1000)) st) (b := if n < 1000 then jk c' md (l.take (n % 1000)) (l.take (n % 1000)) st none else n6 c' md (n / 1000 - 1) (l.take (n % 1000)) st)
   (k := λ F (o : Option (St × Option (AV × ASt))) => (match o with | some (st', none) => (match l.drop (n % 1000) with | [] => some (.normal, st') | b :: l' => match ik (c F) md false b st' with | some (.normal, st2) => m4 (c F) md ns l' st2 | r => r) | some (_, some (v, s)) => some (.pan v, { st with tm := kp (l.take (n % 1000)) st.tm, s }) | none => none : Option (fu × St)))
   (k' := λ (o : Option (St × Option (AV × ASt))) => (match o with | some (st', none) => (match l.drop (n % 1000) with | [] => some (.normal, st') | b :: l' => match ik c' md false b st' with | some (.normal, st2) => m4 c' md ns l' st2 | r => r) | some (_, some (v, s)) => some (.pan v, { st with tm := kp (l.take (n % 1000)) st.tm, s }) | none => none : Option (fu × St))) ?_ (λ _ => rfl) rfl λ x => ?_
  ·by_cases hn : n < 1000
   ·simp only [if_pos hn]; exact u5 h _ _ st none
   ·simp only [if_neg hn]; exact Nz h _ _ st
  obtain ⟨st', p⟩ := x
  cases p with
  | some p => exact .const _
  | none =>
   simp only
   cases l.drop (n % 1000) with
   | nil => exact .const _
   | cons b l' =>
    refine ja.app (k := λ F (o : Option (fu × St)) => (match o with | some (.normal, st2) => m4 (c F) md ns l' st2 | r => r : Option (fu × St))) (k' := λ (o : Option (fu × St)) => (match o with | some (.normal, st2) => m4 c' md ns l' st2 | r => r : Option (fu × St))) (ll h false b st') (λ _ => rfl) rfl λ x => ?_
    obtain ⟨ex, st1⟩ := x
    cases ex with
    | normal => exact Cr h ns l' st1
    | _ => exact .const _
theorem Hl {it : ASt -> Nat -> Option (Option (List AV))} {rnd : Nat -> List AV -> ASt -> Option (fu × St)} {rnd' : List AV -> ASt -> Option (fu × St)} (h : ∀ xs s, ja (λ F => rnd F xs s) (rnd' xs s)) : ∀ (k i : Nat) (s : ASt), ja (λ F => Cj it (rnd F) k i s) (Cj it rnd' k i s)
 | 0, i, s => .const _
 | k + 1, i, s => by
  unfold Cj
  cases it s i with
  | none => exact .const _
  | some r =>
   cases r with
   | none => exact .const _
   | some xs =>
    refine ja.app (k := λ F (o : Option (fu × St)) => (match o with
     | some (.normal, st) => if st.df.isEmpty then Cj it (rnd F) k (i + 1) st.s else none
     | some (.exit id, st) => if st.df.isEmpty then some (.exit id, st.s) else none
     | some (.ret, st) => if st.df.isEmpty then some (.ret, st.s) else none
     | _ => none : Option (fu × ASt))) (k' := λ (o : Option (fu × St)) => (match o with
     | some (.normal, st) => if st.df.isEmpty then Cj it rnd' k (i + 1) st.s else none
     | some (.exit id, st) => if st.df.isEmpty then some (.exit id, st.s) else none
     | some (.ret, st) => if st.df.isEmpty then some (.ret, st.s) else none
     | _ => none : Option (fu × ASt))) (h xs s) (λ _ => rfl) rfl λ x => ?_
    obtain ⟨ex, st1⟩ := x
    cases ex with
    | normal =>
     simp only
     split
     ·exact Hl h k (i + 1) st1.s
     ·exact .const _
    | _ => exact .const _
theorem ko (h : nz c c') {lp : Nat -> PC -> St -> Option (fu × St)} {lp' : PC -> St -> Option (fu × St)} (hl : ∀ b st, ja (λ F => lp F b st) (lp' b st)) : ∀ (b : PC) (st : St), ja (λ F => ij (c F) md (lp F) b st) (ij c' md lp' b st)
 | .skip, st => .const _
 | .reg l, st => yh h l st
 | .jr ns l, st => Cr h ns l st
 | .seq a b, st => by
  refine ja.app (k := λ F (o : Option (fu × St)) => (match o with | some (.normal, st) => ij (c F) md (lp F) b st | r => r : Option (fu × St))) (k' := λ (o : Option (fu × St)) => (match o with | some (.normal, st) => ij c' md lp' b st | r => r : Option (fu × St))) (ko h hl a st) (λ _ => rfl) rfl λ x => ?_
  obtain ⟨ex, st1⟩ := x
  cases ex with
  | normal => exact ko h hl b st1
  | _ => exact .const _
 | .cond x a b, st => by
  unfold ij
  split
  ·exact ko h hl a st
  ·exact ko h hl b st
  ·exact .const _
 | .block id b, st => by
  refine ja.app (k := λ F (o : Option (fu × St)) => (match o with | some (.exit i, st) => if i = id then some (.normal, st) else some (.exit i, st) | r => r : Option (fu × St))) (k' := λ (o : Option (fu × St)) => (match o with | some (.exit i, st) => if i = id then some (.normal, st) else some (.exit i, st) | r => r : Option (fu × St))) (ko h hl b st) (λ _ => rfl) rfl λ x => .const _
 | .loop b, st => hl b st
 | .exit id, st => .const _
 | .ret, st => .const _
 | .ora _, st => .const _
 | .xg it x ps a b, st => by
  simp only [ij]
  split
  ·split
   ·refine ja.app (k := λ _ (o : Option (fu × ASt)) => o.map λ r => (r.1, { st with s := r.2 })) (k' := λ (o : Option (fu × ASt)) => o.map λ r => (r.1, { st with s := r.2 })) (Hl (rnd := λ F xs s => if xs.length = ps.length then (match ij (c F) md (lp F) a ⟨xo st.tm ps xs, [], s⟩ with | some (.normal, st1) => if st1.df.isEmpty then ij (c F) md (lp F) b st1 else none | _ => none) else none) (λ xs s => ?_) 1000000 0 st.s) (λ _ => rfl) rfl λ _ => .const _
    by_cases hl2 : xs.length = ps.length
    ·simp only [if_pos hl2]
     refine ja.app (k := λ F (o : Option (fu × St)) => (match o with | some (.normal, st1) => if st1.df.isEmpty then ij (c F) md (lp F) b st1 else none | _ => none : Option (fu × St))) (k' := λ (o : Option (fu × St)) => (match o with | some (.normal, st1) => if st1.df.isEmpty then ij c' md lp' b st1 else none | _ => none : Option (fu × St))) (ko h hl a _) (λ _ => rfl) rfl λ x => ?_
     obtain ⟨ex, st1⟩ := x
     cases ex with
     | normal =>
      simp only
      split
      ·exact ko h hl b st1
      ·exact .const _
     | _ => exact .const _
    ·simp only [if_neg hl2]; exact .const _
   ·exact .const _
  ·exact .const _
theorem na (h : nz c c') : ∀ (F F' : Nat) (G G' : Nat) (b : PC) (st : St) (r : fu × St), F <= F' -> G <= G' -> kj (c G) md F b st = some r -> kj (c G') md F' b st = some r
 | 0, F', G, G', b, st, r, _, _, e => by simp [kj] at e
 | F + 1, 0, G, G', b, st, r, hF, _, e => by omega
 | F + 1, F' + 1, G, G', b, st, r, hF, hG, e => by
  have hl : ∀ b st, ja (λ H => kj (c (if H = 0 then G else G')) md (if H = 0 then F else F') b st) (kj (c G') md F' b st) := by
   intro b st
   refine ⟨λ H H' r hH e => ?_, λ H r e => ?_, λ r e => ⟨1, by simpa using e⟩⟩
   ·by_cases h0 : H = 0
    ·subst h0
     simp only [if_true] at e
     by_cases h1 : H' = 0
     ·subst h1; simpa using e
     ·simp only [h1, if_false]; exact na h F F' G G' b st r (by omega) hG e
    ·simp only [h0, if_false] at e
     simp only [show H' ≠ 0 by omega, if_false]; exact e
   ·by_cases h0 : H = 0
    ·subst h0
     simp only [if_true] at e
     exact na h F F' G G' b st r (by omega) hG e
    ·simpa [h0] using e
  have ho : nz (λ H => c (if H = 0 then G else G')) (c G') := by
   intro f args s
   refine ⟨λ H H' r hH e => ?_, λ H r e => ?_, λ r e => ⟨1, by simpa using e⟩⟩
   ·by_cases h0 : H = 0
    ·subst h0
     simp only [if_true] at e
     by_cases h1 : H' = 0
     ·subst h1; simpa using e
     ·simp only [h1, if_false]; exact (h f args s).mono G G' r hG e
    ·simp only [h0, if_false] at e
     simp only [show H' ≠ 0 by omega, if_false]; exact e
   ·by_cases h0 : H = 0
    ·subst h0
     simp only [if_true] at e
     exact (h f args s).mono G G' r hG e
    ·simpa [h0] using e
  have hc := ko (md := md) ho hl b st
  simp only [kj] at e ⊢
  cases h1 : ij (c G) md (kj (c G) md F) b st with
  | none => rw [h1] at e; simp at e
  | some x =>
   rw [h1] at e
   have h2 := hc.mono 0 1 x (by omega) (by simpa using h1)
   simp only [show (1 : Nat) ≠ 0 by omega, if_false] at h2
   rw [h2]
   obtain ⟨ex, st1⟩ := x
   cases ex with
   | normal => exact na h F F' G G' b st1 r (by omega) hG e
   | _ => exact e
noncomputable def oh (c' : gr) (md : FuncId -> Md) (b : PC) (st : St) : Option (fu × St) := lim λ F => kj c' md F b st
theorem Dh (c' : gr) : nz (λ _ => c') c' := λ _ _ _ => .const _
theorem ri (c' : gr) (b : PC) (st : St) : ja (λ F => kj c' md F b st) (oh c' md b st) :=
 ja.lim λ F F' r hF e => na (c := λ _ => c') (Dh c') F F' 0 0 b st r hF (di _) e
theorem Na (h : nz c c') (b : PC) (st : St) : ja (λ F => kj (c F) md F b st) (oh c' md b st) := by
 have key : ∀ (F : Nat) (b : PC) (st : St), ja (λ G => kj (c G) md F b st) (kj c' md F b st) := by
  intro F
  induction F with
  | zero => intro b st; exact .const _
  | succ F ih =>
   intro b st
   refine ja.app (k := λ G (o : Option (fu × St)) => (match o with | some (.normal, st) => kj (c G) md F b st | r => r : Option (fu × St))) (k' := λ (o : Option (fu × St)) => (match o with | some (.normal, st) => kj c' md F b st | r => r : Option (fu × St))) (ko h (λ b st => ih b st) b st) (λ _ => rfl) rfl λ x => ?_
   obtain ⟨ex, st1⟩ := x
   cases ex with
   | normal => exact ih b st1
   | _ => exact .const _
 refine ⟨λ F F' r hF e => na h F F' F F' b st r hF hF e, λ F r e => (ri c' b st).up F r ((key F b st).up F r e), λ r e => ?_⟩
 obtain ⟨F, hF⟩ := (ri c' b st).fin r e
 obtain ⟨G, hG⟩ := (key F b st).fin r hF
 exact ⟨max F G, na h F (max F G) G (max F G) b st r (Nat.le_max_left _ _) (Nat.le_max_right _ _) hG⟩
end
end Go.Proofs.Eng
namespace Go.Proofs.Eng
section
variable {md : FuncId -> Md} {c : Nat -> gr} {c' : gr}
theorem ue (h : nz c c') : ∀ (l : List PI) (rc : Rc) (st : St), ja (λ F => nh (c F) md l rc st) (nh c' md l rc st)
 | [], rc, st => .const _
 | i :: l, rc, st => by
  have go : ja (λ F => match ik (c F) md false i st with
   | some (.normal, st) => nh (c F) md l rc st
   | some (r, st) => some (r, rc, st)
   | none => none) (match ik c' md false i st with
   | some (.normal, st) => nh c' md l rc st
   | some (r, st) => some (r, rc, st)
   | none => none) := by
   refine ja.app (k := λ F (o : Option (fu × St)) => (match o with | some (.normal, st) => nh (c F) md l rc st | some (r, st) => some (r, rc, st) | none => none : Option (fu × Rc × St))) (k' := λ (o : Option (fu × St)) => (match o with | some (.normal, st) => nh c' md l rc st | some (r, st) => some (r, rc, st) | none => none : Option (fu × Rc × St))) (ll h false i st) (λ _ => rfl) rfl λ x => ?_
   obtain ⟨ex, st1⟩ := x
   cases ex with
   | normal => exact ue h l rc st1
   | _ => exact .const _
  unfold nh
  cases hop : i.op with
  | ua =>
   cases hg : i.g with
   | none =>
    cases rc with
    | can v => exact ue h l _ _
    | _ => exact ue h l _ _
   | some g => exact go
  | _ => exact go
theorem tv (h : nz c c') : ∀ (b : PC) (rc : Rc) (st : St), ja (λ F => mh (c F) md b rc st) (mh c' md b rc st)
 | .skip, rc, st => .const _
 | .reg l, rc, st => ue h l rc st
 | .jr ns l, rc, st => .const _
 | .seq a b, rc, st => by
  refine ja.app (k := λ F (o : Option (fu × Rc × St)) => (match o with | some (.normal, rc, st) => mh (c F) md b rc st | r => r : Option (fu × Rc × St))) (k' := λ (o : Option (fu × Rc × St)) => (match o with | some (.normal, rc, st) => mh c' md b rc st | r => r : Option (fu × Rc × St))) (tv h a rc st) (λ _ => rfl) rfl λ x => ?_
  obtain ⟨ex, rc1, st1⟩ := x
  cases ex with
  | normal => exact tv h b rc1 st1
  | _ => exact .const _
 | .cond x a b, rc, st => by
  unfold mh
  split
  ·exact tv h a rc st
  ·exact tv h b rc st
  ·exact .const _
 | .block id b, rc, st => .const _
 | .loop b, rc, st => .const _
 | .exit id, rc, st => .const _
 | .ret, rc, st => .const _
 | .ora _, rc, st => .const _
 | .xg .., rc, st => .const _
theorem xk (h : nz c c') (pfs : FuncId -> Option PF) : ∀ (ds : List (FuncId × List AV)) (p : Option AV) (s : ASt), ja (λ F => jw (c F) md pfs ds p s) (jw c' md pfs ds p s)
 | [], p, s => .const _
 | (f, args) :: ds, p, s => by
  unfold jw
  cases pfs f with
  | none => exact .const _
  | some pf =>
   by_cases hq : pf.body.ou = true
   ·simp only [if_pos hq]; exact .const _
   simp only [if_neg hq]
   refine ja.app (k := λ F (o : Option (fu × Rc × St)) => (match o with | some (.ret, rc, st) => if st.df.isEmpty && (m5 st.tm st.s pf.res).isSome then jw (c F) md pfs ds (xz rc) st.s else none | some (.normal, rc, st) => if st.df.isEmpty && (m5 st.tm st.s pf.res).isSome then jw (c F) md pfs ds (xz rc) st.s else none | _ => none : Option (Option AV × ASt))) (k' := λ (o : Option (fu × Rc × St)) => (match o with | some (.ret, rc, st) => if st.df.isEmpty && (m5 st.tm st.s pf.res).isSome then jw c' md pfs ds (xz rc) st.s else none | some (.normal, rc, st) => if st.df.isEmpty && (m5 st.tm st.s pf.res).isSome then jw c' md pfs ds (xz rc) st.s else none | _ => none : Option (Option AV × ASt))) (tv h pf.body (Gd p) _) (λ _ => rfl) rfl λ x => ?_
   obtain ⟨ex, rc1, st1⟩ := x
   cases ex with
   | normal =>
    simp only
    split
    ·exact xk h pfs ds _ _
    ·exact .const _
   | ret =>
    simp only
    split
    ·exact xk h pfs ds _ _
    ·exact .const _
   | _ => exact .const _
theorem ur (h : nz c c') (pfs : FuncId -> Option PF) (res : List PR) (st : St) (p : Option AV) : ja (λ F => js (c F) md pfs res st p) (js c' md pfs res st p) := by
 have go : ja (λ F => match jw (c F) md pfs st.df p st.s with
  | some (none, s) => (m5 st.tm s res).map λ l => (ju.ret (qf l), s)
  | some (some v, s) => some (ju.pan v, s)
  | none => none) (match jw c' md pfs st.df p st.s with
  | some (none, s) => (m5 st.tm s res).map λ l => (ju.ret (qf l), s)
  | some (some v, s) => some (ju.pan v, s)
  | none => none) :=
  ja.app (k := λ F (o : Option (Option AV × ASt)) => (match o with | some (none, s) => (m5 st.tm s res).map λ l => (.ret (qf l), s) | some (some v, s) => some (.pan v, s) | none => none : Option (ju × ASt))) (k' := λ (o : Option (Option AV × ASt)) => (match o with | some (none, s) => (m5 st.tm s res).map λ l => (.ret (qf l), s) | some (some v, s) => some (.pan v, s) | none => none : Option (ju × ASt))) (xk h pfs st.df p st.s) (λ _ => rfl) rfl λ x => .const _
 unfold js
 cases hd : st.df with
 | nil => cases p <;> exact .const _
 | cons d ds => rw [hd] at go; exact go
noncomputable def Ft (call : gr) (md : FuncId -> Md) (pfs : FuncId -> Option PF) (pf : PF) (args : List AV) (s : ASt) : Option (ju × ASt) :=
 match ij call md (oh call md) pf.body { tm := args ++ List.replicate (pf.nt - args.length) .undef, df := [], s } with
 | some (.ret, st) => if (pf.body.ou && !st.df.isEmpty) = true then none else js call md pfs pf.res st none
 | some (.normal, st) => if (pf.body.ou && !st.df.isEmpty) = true then none else js call md pfs pf.res st none
 | some (.pan v, st) => if (pf.body.ou && !st.df.isEmpty) = true then none else js call md pfs pf.res st (some v)
 | _ => none
theorem Nl (h : nz c c') (pfs : FuncId -> Option PF) (pf : PF) (args : List AV) (s : ASt) : ja (λ F => A3 (c F) md pfs F pf args s) (Ft c' md pfs pf args s) := by
 unfold A3 Ft exec
 refine ja.app (k := λ F (o : Option (fu × St)) => (match o with | some (.ret, st) => if (pf.body.ou && !st.df.isEmpty) = true then none else js (c F) md pfs pf.res st none | some (.normal, st) => if (pf.body.ou && !st.df.isEmpty) = true then none else js (c F) md pfs pf.res st none | some (.pan v, st) => if (pf.body.ou && !st.df.isEmpty) = true then none else js (c F) md pfs pf.res st (some v) | _ => none : Option (ju × ASt))) (k' := λ (o : Option (fu × St)) => (match o with | some (.ret, st) => if (pf.body.ou && !st.df.isEmpty) = true then none else js c' md pfs pf.res st none | some (.normal, st) => if (pf.body.ou && !st.df.isEmpty) = true then none else js c' md pfs pf.res st none | some (.pan v, st) => if (pf.body.ou && !st.df.isEmpty) = true then none else js c' md pfs pf.res st (some v) | _ => none : Option (ju × ASt))) (ko h (λ b st => Na h b st) pf.body _) (λ _ => rfl) rfl λ x => ?_
 obtain ⟨ex, st1⟩ := x
 by_cases hg : (pf.body.ou && !st1.df.isEmpty) = true
 ·cases ex <;> simp only [if_pos hg] <;> exact .const _
 ·cases ex with
  | normal => simp only [if_neg hg]; exact ur h pfs _ _ _
  | ret => simp only [if_neg hg]; exact ur h pfs _ _ _
  | pan v => simp only [if_neg hg]; exact ur h pfs _ _ _
  | exit i => exact .const _
theorem zd {c1 c2 : gr} (h : ∀ f args s r, c1 f args s = some r -> c2 f args s = some r) : nz (λ H => if H = 0 then c1 else c2) c2 := by
 intro f args s
 refine ⟨λ H H' r hH e => ?_, λ H r e => ?_, λ r e => ⟨1, by simpa using e⟩⟩
 ·by_cases h0 : H = 0
  ·subst h0
   simp only [if_true] at e
   by_cases h1 : H' = 0
   ·subst h1; simpa using e
   ·simp only [h1, if_false]; exact h _ _ _ _ e
  ·simp only [h0, if_false] at e
   simp only [show H' ≠ 0 by omega, if_false]; exact e
 ·by_cases h0 : H = 0
  ·subst h0
   simp only [if_true] at e
   exact h _ _ _ _ e
  ·simpa [h0] using e
theorem Nv {c1 c2 : gr} (h : ∀ f args s r, c1 f args s = some r -> c2 f args s = some r) {pfs : FuncId -> Option PF} {F F' : Nat} (hF : F <= F') {pf : PF} {args : List AV} {s : ASt} {r : ju × ASt} (e : A3 c1 md pfs F pf args s = some r) : A3 c2 md pfs F' pf args s = some r := by
 have hl : ∀ b st, ja (λ H => kj (if H = 0 then c1 else c2) md (if H = 0 then F else F') b st) (kj c2 md F' b st) := by
  intro b st
  refine ⟨λ H H' r hH e => ?_, λ H r e => ?_, λ r e => ⟨1, by simpa using e⟩⟩
  ·by_cases h0 : H = 0
   ·subst h0
    simp only [if_true] at e
    by_cases h1 : H' = 0
    ·subst h1; simpa using e
    ·simp only [h1, if_false]
     have := na (md := md) (zd h) F F' 0 1 b st r hF (by omega) (by simpa using e)
     simpa using this
   ·simp only [h0, if_false] at e
    simp only [show H' ≠ 0 by omega, if_false]; exact e
  ·by_cases h0 : H = 0
   ·subst h0
    simp only [if_true] at e
    have := na (md := md) (zd h) F F' 0 1 b st r hF (by omega) (by simpa using e)
    simpa using this
   ·simpa [h0] using e
 have hc := ko (md := md) (zd h) hl pf.body { tm := args ++ List.replicate (pf.nt - args.length) .undef, df := [], s }
 unfold A3 exec at e ⊢
 cases h1 : ij c1 md (kj c1 md F) pf.body { tm := args ++ List.replicate (pf.nt - args.length) .undef, df := [], s } with
 | none => rw [h1] at e; simp at e
 | some x =>
  rw [h1] at e
  have h2 := hc.mono 0 1 x (by omega) (by simpa using h1)
  simp only [show (1 : Nat) ≠ 0 by omega, if_false] at h2
  rw [h2]
  obtain ⟨ex, st1⟩ := x
  have hv : ∀ p, js c1 md pfs pf.res st1 p = some r -> js c2 md pfs pf.res st1 p = some r := by
   intro p e
   have := (ur (md := md) (zd h) pfs pf.res st1 p).mono 0 1 r (by omega) (by simpa using e)
   simpa using this
  by_cases hg : (pf.body.ou && !st1.df.isEmpty) = true
  ·cases ex <;> simp only [if_pos hg] at e <;> simp at e
  ·cases ex with
   | normal => simp only [if_neg hg] at e ⊢; exact hv _ e
   | ret => simp only [if_neg hg] at e ⊢; exact hv _ e
   | pan v => simp only [if_neg hg] at e ⊢; exact hv _ e
   | exit i => simp at e
theorem Ec {pfs : FuncId -> Option PF} : ∀ (F F' : Nat), F <= F' -> ∀ f args s r, ql md pfs F f args s = some r -> ql md pfs F' f args s = some r
 | 0, F', _, f, args, s, r, e => by simp [ql] at e
 | F + 1, 0, h, f, args, s, r, e => by omega
 | F + 1, F' + 1, h, f, args, s, r, e => by
  simp only [ql] at e ⊢
  cases hp : pfs f with
  | none => rw [hp] at e; simp at e
  | some pf =>
   rw [hp] at e
   simp only at e ⊢
   cases ho : pf.body.M0 with
   | some o => rw [ho] at e; exact e
   | none =>
   rw [ho] at e
   exact Nv (λ f args s r e => Ec F F' (by omega) f args s r e) (by omega) e
noncomputable def run (md : FuncId -> Md) (pfs : FuncId -> Option PF) : gr := λ f args s => lim λ F => ql md pfs F f args s
theorem Av (pfs : FuncId -> Option PF) : nz (ql md pfs) (run md pfs) := λ f args s => ja.lim λ F F' r hF e => Ec F F' hF f args s r e
theorem X6 {pfs : FuncId -> Option PF} {F : Nat} {f : FuncId} {args : List AV} {s : ASt} {r : ju × ASt} (h : ql md pfs F f args s = some r) : run md pfs f args s = some r := (Av pfs f args s).up F r h
theorem run_eq {pfs : FuncId -> Option PF} {f : FuncId} {pf : PF} (hp : pfs f = some pf) (ho : pf.body.M0 = none) (args : List AV) (s : ASt) : run md pfs f args s = Ft (run md pfs) md pfs pf args s := by
 refine ja.uniq (Av pfs f args s) (ja.shift ?_ rfl)
 have := Nl (md := md) (Av (md := md) pfs) pfs pf args s
 refine ⟨λ F F' r hF e => ?_, λ F r e => ?_, λ r e => ?_⟩
 ·simp only [ql, hp, ho] at e ⊢; exact this.mono F F' r hF e
 ·simp only [ql, hp, ho] at e; exact this.up F r e
 ·obtain ⟨F, hF⟩ := this.fin r e; exact ⟨F, by simp only [ql, hp, ho]; exact hF⟩
theorem Dx {pfs : FuncId -> Option PF} {f : FuncId} {pf : PF} {o : List AV -> ASt -> Option (AV × ASt)} (hp : pfs f = some pf) (ho : pf.body.M0 = some o) {args : List AV} {v : AV} {s s' : ASt} (hv : o args s = some (v, s')) : run md pfs f args s = some (.ret v, s') :=
 X6 (F := 1) (by simp only [ql, hp, ho, hv]; rfl)
theorem Vq (call : gr) (b : PC) (st : St) : oh call md b st = match ij call md (oh call md) b st with
  | some (.normal, st) => oh call md b st
  | r => r := by
 refine ja.uniq (ri call b st) (ja.shift ?_ rfl)
 refine ja.app (k := λ F (o : Option (fu × St)) => (match o with | some (.normal, st) => kj call md F b st | r => r : Option (fu × St))) (k' := λ (o : Option (fu × St)) => (match o with | some (.normal, st) => oh call md b st | r => r : Option (fu × St))) (ko (c := λ _ => call) (md := md) (Dh call) (λ b st => ri call b st) b st) (λ _ => rfl) rfl λ x => ?_
 obtain ⟨ex, st1⟩ := x
 cases ex with
 | normal => exact ri call b st1
 | _ => exact .const _
end
end Go.Proofs.Eng
namespace Go.Proofs.Eng
open Go.ChangeShapes Go.WideShapes Go.ChangeAt Go.RowKit
variable [DrK]
section
variable {P : Program} {md : FuncId -> Md} {pfs : FuncId -> Option PF}
theorem Qa (hm : P.follows .mixedOrders = true) (hP : zu P pfs) : Sound P (run md pfs) := λ f args s out s' h => by
 obtain ⟨F, hF⟩ := (Av pfs f args s).fin _ h
 exact Ht hm hP F f args s out s' hF
theorem Sg (hm : P.follows .mixedOrders = true) (hP : zu P pfs) {f : FuncId} {l : List AV} {s' : ASt} {x : Value} (h : run md pfs f l ⟨[], []⟩ = some (.ret (.v x), s')) {w : World} (hk : Kn w) {vs : List Value} (hr : fw (Gh.empty λ _ _ => False) ⟨[], []⟩ w l vs) :
  Calls P f vs.toArray w λ e w' => e = .returned x /\ Below w.heap.size w w' := by
 obtain ⟨_, hc⟩ := Qa hm hP _ _ _ _ _ h
 refine (hc _ w vs (Inv.empty hk (λ _ _ h => h.elim)) hr).mono λ e w' ⟨g', hI, hE, hO⟩ => ?_
 cases e with
 | returned u =>
  have hO' : Rep g' s' w' (.v x) u := hO
  exact ⟨by rw [hO'.ke], hE.os, hE.tape, hE.output.1, hE.size, λ k hk => (hE.obj k hk (by simp [Gh.has, Gh.empty])).1⟩
 | _ => exact hO.elim
variable {H : Type} {enc : TypeId × Value -> H}
theorem zt (hl : laidOutB P = true) {W W' : World} (hb : Below W.heap.size W W') : ∀ {ts : List TypeId} {vs : List Value} {ds : List (DataW H)} {p : List MemPlace}, (∀ t ∈ ts, P.readableRec t = true /\ t < P.types.size) -> (∀ x ∈ p, x.block < W.heap.size) -> DataW.TrodAll enc P W 0 (λ _ => true) true ts vs ds p -> DataW.TrodAll enc P W' 0 (λ b => decide (b < W.heap.size)) true ts vs ds p
 | [], [], [], _, _, _, h => h
 | [], _ :: _, _, _, _, _, h => h.elim
 | [], [], _ :: _, _, _, _, h => h.elim
 | _ :: _, [], _, _, _, _, h => h.elim
 | _ :: _, _ :: _, [], _, _, _, h => h.elim
 | t :: ts, v :: vs, d :: ds, _, ht, hp, ⟨p, q, h1, h2, e⟩ => by
  subst e
  exact ⟨p, q, Below.trod hl (ht t (by simp)).1 (ht t (by simp)).2 h1 hb (λ x hx => hp x (by simp [hx])), zt hl hb (λ t h => ht t (by simp [h])) (λ x hx => hp x (by simp [hx])) h2, rfl⟩
theorem Qd {f : Func} {s : ChangeSpec} {W W' : World} {args : Array Value} {ds gs : List (DataW H)} {before : List MemPlace} {tb : TypeId}
  (hW : DataW.Whole enc P f.params.toList s.vars false W args.toList ds gs before) (hb : Below W.heap.size W W') (hl : laidOutB P = true)
  (hpar : (f.params.toList.all λ t => P.readableRec t && decide (t < P.types.size)) = true) (hvars : varsRowed P s.vars = true)
  (hres : f.resultTypes = #[tb]) (htb : P.underlying tb = some .bool)
  (hr : (s.fn H (ds ++ gs)).results = [.lit (.bool true)]) (ha : (s.fn H (ds ++ gs)).args = ds) (hv : (s.fn H (ds ++ gs)).vars = gs) :
  s.post enc P f false true false false W args (.bool true) W' := by
 have hlt := hW.lt
 obtain ⟨p, q, hA, hV, hpq, hfz, hnd⟩ := hW
 have hp : ∀ x ∈ p, x.block < W.heap.size := λ x hx => by simpa using hlt x (by rw [hpq]; simp [hx])
 refine ⟨ds, gs, before, [], p, q, ⟨p, q, hA, hV, hpq, hfz, hnd⟩, ?_, ?_, ?_, hb.frame _, λ h => by cases h⟩
 ·rw [hr, hres]
  refine ⟨[], [], ⟨1, ?_⟩, rfl, rfl⟩
  simp [Value.cells, DataW.trod, htb, Value.resultList]
 ·rw [ha]
  refine zt hl hb (λ t ht => ?_) hp hA
  have := (aw.1 hpar) t ht
  simpa using this
 ·rw [hv]
  exact Below.trodVars hl hb hvars hV
end
end Go.Proofs.Eng
namespace Go.Proofs.Eng
open Go.ChangeShapes Go.WideShapes Go.ChangeAt Go.RowKit
def mkE (ag : Bool) (x : List AV) : AV := if ag then .agg x else x.headD .unk
def isAgg (P : Program) (t : TypeId) : Bool := match P.underlying t with
 | some (.struct _) | some (.array _ _) => true
 | _ => false
def C9 (P : Program) : Nat -> List Field -> Nat -> Bool
 | off, [], total => off == total
 | off, f :: fs, total => f.offset == off && C9 P (off + P.cellsOf f.type) fs total
def AV.D8 : AV -> Bool
 | .agg _ => false
 | _ => true
def C6 (l : List AV) : Prop := ∀ a ∈ l, a = .unk
def OfT (P : Program) : Nat -> TypeId -> List AV -> Prop
 | 0, _, _ => False
 | n + 1, t, l =>
  match P.underlying t with
  | some .bool => ∃ b, l = [.bool b]
  | some (.int k) => ∃ i, l = [.v (.int k i)] /\ (Lit.int k i).wf = true
  | some .string => ∃ s : ByteArray, l = [.str s] /\ s.size <= maxLen
  | some (.slice e) => if 0 < P.cellsOf e then ∃ (xs : List (List AV)) (tl : Tl), l = [.sl (xs.map (mkE (isAgg P e))) tl] /\ (tl = .al \/ tl = .nil /\ xs = []) /\ xs.length <= maxLen /\ ∀ x ∈ xs, OfT P n e x else l = [.unk]
  | some (.struct fs) => if C9 P 0 fs.toList (P.cellsOf t) then ∃ xs : List (List AV), l = xs.flatten /\ xs.length = fs.toList.length /\ ∀ (i : Nat) (f : Field) (x : List AV), fs.toList[i]? = some f -> xs[i]? = some x -> OfT P n f.type x else C6 l
  | some (.array k e) => if P.cellsOf t = k * P.cellsOf e then ∃ xs : List (List AV), l = xs.flatten /\ xs.length = k /\ ∀ x ∈ xs, OfT P n e x else C6 l
  | _ => C6 l
section
variable {P : Program} {H : Type} {enc : TypeId × Value -> H} {w : World} {base : Nat} {spare : Nat -> Bool} {held : Bool}
abbrev G0 : Gh := Gh.empty λ _ _ => False
theorem a14 {b o : Nat} {c : Value} (h : w.cell? ⟨b, o, none⟩ = some c) : oc G0 ⟨[], []⟩ w b o c := ⟨h, by simp [Gh.wr, Gh.empty]⟩
theorem K9 (cs : List Value) : fw G0 ⟨[], []⟩ w (cs.map λ _ => .unk) cs := by
 refine ⟨by simp, λ k a c h1 h2 => ?_⟩
 rw [bh, h2] at h1
 cases h1
 exact .unk _
theorem Vj {l l' : List AV} {cs cs' : List Value} (h : fw G0 ⟨[], []⟩ w l cs) (h' : fw G0 ⟨[], []⟩ w l' cs') : fw G0 ⟨[], []⟩ w (l ++ l') (cs ++ cs') := by
 refine ⟨by simp [h.1, h'.1], λ k a c h1 h2 => ?_⟩
 rcases dj k l.length with hk | hk
 ·rw [ae hk] at h1
  rw [ae (by rw [<- h.1]; exact hk)] at h2
  exact h.2 k a c h1 h2
 ·rw [af hk] at h1
  rw [af (by rw [<- h.1]; exact hk), <- h.1] at h2
  exact h'.2 _ a c h1 h2
theorem sy : ∀ (xs : List (List AV)) (cs : List (List Value)), xs.length = cs.length -> (∀ (i : Nat) (x : List AV) (c : List Value), xs[i]? = some x -> cs[i]? = some c -> fw G0 ⟨[], []⟩ w x c) -> fw G0 ⟨[], []⟩ w xs.flatten cs.flatten
 | [], [], _, _ => ⟨rfl, λ k a c h => by simp at h⟩
 | [], _ :: _, h, _ => by simp at h
 | _ :: _, [], h, _ => by simp at h
 | x :: xs, c :: cs, h, hr => by
  rw [List.flatten_cons, List.flatten_cons]
  exact Vj (hr 0 x c rfl rfl) (sy xs cs (by simpa using h) λ i y d h1 h2 => hr (i + 1) y d (by simpa using h1) (by simpa using h2))
theorem A5 : ∀ (fs : List Field) (off : Nat) (cs : List Value), C9 P off fs cs.length = true -> (fs.map λ f => (cs.drop f.offset).take (P.cellsOf f.type)).flatten = cs.drop off
 | [], off, cs, h => by
  simp only [C9, beq_iff_eq] at h
  simp [h]
 | f :: fs, off, cs, h => by
  simp only [C9, dx, beq_iff_eq] at h
  rw [bq, List.flatten_cons, A5 fs _ cs h.2, h.1]
  have := cx (P.cellsOf f.type) (cs.drop off)
  rw [List.drop_drop] at this
  exact this
theorem A2 (c : Nat) : ∀ (n k : Nat) (cs : List Value), cs.length = (k + n) * c -> ((List.range' k n).map λ i => (cs.drop (i * c)).take c).flatten = cs.drop (k * c)
 | 0, k, cs, h => by simp [h]
 | n + 1, k, cs, h => by
  rw [List.range'_succ, bq, List.flatten_cons, A2 c n (k + 1) cs (by rw [h]; congr 1; omega)]
  have := cx c (cs.drop (k * c))
  rw [List.drop_drop, show k * c + c = (k + 1) * c by rw [Nat.add_mul]; simp] at this
  exact this
theorem Au {α β : Type} {f : α -> Option β} : ∀ {l : List α} {r : List β}, l.mapM f = some r -> r.length = l.length /\ ∀ (i : Nat) (x : α), l[i]? = some x -> f x = r[i]?
 | l, r, h => ⟨mapM_some_length h, λ i x hx => mapM_some_get h i x hx⟩
theorem uk {α β : Type} {R : Nat -> α -> β -> Prop} : ∀ (l : List α), (∀ (i : Nat) (x : α), l[i]? = some x -> ∃ y, R i x y) -> ∃ ys : List β, ys.length = l.length /\ ∀ (i : Nat) (x : α) (y : β), l[i]? = some x -> ys[i]? = some y -> R i x y
 | [], _ => ⟨[], rfl, λ i x y h => by simp at h⟩
 | a :: l, h => by
  obtain ⟨y, hy⟩ := h 0 a rfl
  obtain ⟨ys, h1, h2⟩ := uk (R := λ i => R (i + 1)) l λ i x hx => h (i + 1) x (by simpa using hx)
  refine ⟨y :: ys, by simp [h1], λ i x z hx hz => ?_⟩
  cases i with
  | zero => simp at hx hz; subst hx; subst hz; exact hy
  | succ i => exact h2 i x z (by simpa using hx) (by simpa using hz)
end
end Go.Proofs.Eng
namespace Go.Proofs.Eng
open Go.ChangeShapes Go.WideShapes Go.ChangeAt Go.RowKit
instance drF : DrK := ⟨False⟩
mutual
def AV.n : AV -> Nat
 | .agg l => AV.nL l + 1
 | .sl l _ => AV.nL l
 | _ => 0
def AV.nL : List AV -> Nat
 | [] => 0
 | a :: l => a.n + AV.nL l
end
mutual
def dn {H : Type} : DataW H -> Nat
 | .ptr d => dn d + 1
 | .slice elems spare => dnL elems + dnL spare + 1
 | .agg parts => dnL parts + 1
 | _ => 1
def dnL {H : Type} : List (DataW H) -> Nat
 | [] => 0
 | d :: r => dn d + dnL r
end
theorem Am {H : Type} (d : DataW H) : 1 <= dn d := by cases d <;> simp [dn]
theorem Ui : ∀ (a b : List AV), AV.nL (a ++ b) = AV.nL a + AV.nL b
 | [], b => by simp [AV.nL]
 | x :: a, b => by rw [bn, AV.nL, AV.nL, Ui a b]; omega
theorem Mp {α : Type} : ∀ l : List α, AV.nL (l.map λ _ => AV.unk) = 0
 | [] => by simp [AV.nL]
 | x :: l => by rw [bq, AV.nL, Mp l]; simp [AV.n]
theorem a30 (ag : Bool) (x : List AV) : (mkE ag x).n <= AV.nL x + 1 := by
 unfold mkE
 cases ag with
 | true => rw [if_pos rfl, AV.n]; exact di _
 | false =>
  rw [if_neg (by simp)]
  cases x with
  | nil => simp [AV.n]
  | cons a x => rw [List.headD_cons, AV.nL]; omega
theorem L7 {H : Type} (ag : Bool) : ∀ (xs : List (List AV)) (r : List (DataW H)), xs.length = r.length -> (∀ (i : Nat) (x : List AV) (d : DataW H), xs[i]? = some x -> r[i]? = some d -> AV.nL x + 1 <= dn d) -> AV.nL (xs.map (mkE ag)) <= dnL r
 | [], r, _, _ => by simp [AV.nL]
 | x :: xs, [], h, _ => by simp at h
 | x :: xs, d :: r, h, k => by
  have h1 := k 0 x d rfl rfl
  have h2 := L7 ag xs r (by simpa using h) λ i y e h1 h2 => k (i + 1) y e (by simpa using h1) (by simpa using h2)
  have h3 := a30 ag x
  rw [bq, AV.nL, dnL]; omega
theorem Il {H : Type} : ∀ (xs : List (List AV)) (r : List (DataW H)), xs.length = r.length -> (∀ (i : Nat) (x : List AV) (d : DataW H), xs[i]? = some x -> r[i]? = some d -> AV.nL x + 1 <= dn d) -> AV.nL xs.flatten <= dnL r
 | [], r, _, _ => by simp [AV.nL]
 | x :: xs, [], h, _ => by simp at h
 | x :: xs, d :: r, h, k => by
  have h1 := k 0 x d rfl rfl
  have h2 := Il xs r (by simpa using h) λ i y e h1 h2 => k (i + 1) y e (by simpa using h1) (by simpa using h2)
  rw [List.flatten_cons, Ui, dnL]; omega
section
variable {P : Program} {H : Type} {enc : TypeId × Value -> H} {w : World} {base : Nat} {spare : Nat -> Bool} {held : Bool}
def Arg (P : Program) (w : World) (n : Nat) (t : TypeId) (cs : List Value) (k : Nat) : Prop := ∃ l, fw G0 ⟨[], []⟩ w l cs /\ OfT P n t l /\ (isAgg P t = false -> ∃ a, l = [a] /\ a.D8 = true) /\ AV.nL l + 1 <= k
theorem uh {n : Nat} {t : TypeId} {c : Value} {d : DataW H} (h : OfT P (n + 1) t [.unk]) : Arg P w (n + 1) t [c] (dn d) :=
 ⟨[.unk], fw.one (.unk c), h, λ _ => ⟨.unk, rfl, rfl⟩, by simpa [AV.nL, AV.n] using Am d⟩
theorem Ck {a : Addr} {n : Nat} {cs : List Value} (h : w.cells? base a n = some cs) : cs.length = n /\ ∀ (i : Nat) (c : Value), cs[i]? = some c -> w.cell? (a.add i) = some c := by
 unfold World.cells? at h
 split at h
 ·obtain ⟨h1, h2⟩ := Au h
  rw [List.length_range] at h1
  refine ⟨h1, λ i c hc => ?_⟩
  have hlt : i < n := by rw [<- h1]; exact (List.getElem?_eq_some_iff.1 hc).1
  rw [h2 i i (de hlt)]
  exact hc
 ·cases h
theorem Q8 {a : Addr} {c : Value} (h : w.cell? a = some c) : a.spot = none := by
 unfold World.cell? at h
 split at h
 ·split at h
  ·cases h
  ·rename_i h1; simpa using h1
 ·cases h
theorem Rt {ag : Bool} {x : List AV} (h : ag = false -> ∃ a, x = [a] /\ a.D8 = true) : (mkE ag x).cells = x := by
 unfold mkE
 cases ag with
 | true => rfl
 | false =>
  obtain ⟨a, rfl, ha⟩ := h rfl
  cases a <;> first | rfl | (simp [AV.D8] at ha)
theorem Lf {ag : Bool} : ∀ {xs : List (List AV)}, (∀ x ∈ xs, ag = false -> ∃ a, x = [a] /\ a.D8 = true) -> flat (xs.map (mkE ag)) = xs.flatten
 | [], _ => rfl
 | x :: xs, h => by
  have := Lf (ag := ag) (xs := xs) λ y hy => h y (by simp [hy])
  unfold flat at this ⊢
  rw [bq, List.flatMap_cons, List.flatten_cons, this, Rt (h x (by simp))]
theorem Se {n : Nat} {e : TypeId} {a : Addr} {len cap : Nat} (hc : 0 < P.cellsOf e) (hl : len <= cap) (xs : List (List AV)) (cs : List (List Value)) (h1 : xs.length = len) (h2 : cs.length = len)
  (h : ∀ (i : Nat) (x : List AV) (c : List Value), xs[i]? = some x -> cs[i]? = some c -> w.cells? base (a.add (i * P.cellsOf e)) (P.cellsOf e) = some c /\ fw G0 ⟨[], []⟩ w x c /\ (isAgg P e = false -> ∃ a, x = [a] /\ a.D8 = true)) :
  Rep G0 ⟨[], []⟩ w (.sl (xs.map (mkE (isAgg P e))) .al) (.slice (some a) len cap) := by
 have hget : ∀ i, i < len -> ∃ x c, xs[i]? = some x /\ cs[i]? = some c := λ i hi => ⟨xs[i], cs[i], aa _, aa _⟩
 have hflat : flat (xs.map (mkE (isAgg P e))) = xs.flatten := Lf λ x hx => by
  obtain ⟨i, hi⟩ := c7 hx
  obtain ⟨_, c, _, hc'⟩ := hget i (by rw [<- h1]; exact (List.getElem?_eq_some_iff.1 hi).1)
  exact (h i x c hi hc').2.2
 have hrep := sy (w := w) xs cs (by rw [h1, h2]) λ i x c hx hc' => (h i x c hx hc').2.1
 have hlen : ∀ (i : Nat) (c : List Value), cs[i]? = some c -> c.length = P.cellsOf e := λ i c hc' => by
  obtain ⟨x, _, hx, _⟩ := hget i (by rw [<- h2]; exact (List.getElem?_eq_some_iff.1 hc').1)
  exact (Ck (h i x c hx hc').1).1
 have hspot : 0 < len -> a.spot = none := λ h0 => by
  obtain ⟨x, c, hx, hc'⟩ := hget 0 h0
  have hcl := Ck (h 0 x c hx hc').1
  have hlt : 0 < c.length := by rw [hcl.1]; exact hc
  have := hcl.2 0 c[0] (aa hlt)
  simpa [Addr.add] using Q8 this
 have hcell : ∀ (k : Nat) (c : Value), cs.flatten[k]? = some c -> w.cell? ⟨a.block, a.off + k, none⟩ = some c := by
  have key : ∀ (l : List (List Value)) (i0 : Nat), (∀ (i : Nat) (c : List Value), l[i]? = some c -> c.length = P.cellsOf e /\ ∀ (j : Nat) (y : Value), c[j]? = some y -> w.cell? ⟨a.block, a.off + ((i0 + i) * P.cellsOf e + j), none⟩ = some y) -> ∀ (k : Nat) (y : Value), l.flatten[k]? = some y -> w.cell? ⟨a.block, a.off + (i0 * P.cellsOf e + k), none⟩ = some y := by
   intro l
   induction l with
   | nil => intro i0 _ k y hk; simp at hk
   | cons c l ih =>
    intro i0 hl k y hk
    obtain ⟨h3, h4⟩ := hl 0 c rfl
    rw [List.flatten_cons] at hk
    rcases dj k c.length with hkl | hkl
    ·rw [ae hkl] at hk
     exact h4 k y hk
    ·rw [af hkl] at hk
     have := ih (i0 + 1) (λ i c' hc' => by
      have := hl (i + 1) c' (by simpa using hc')
      rw [show i0 + (i + 1) = i0 + 1 + i by omega] at this
      exact this) _ y hk
     rw [show i0 * P.cellsOf e + k = (i0 + 1) * P.cellsOf e + (k - c.length) by rw [Nat.add_mul, h3]; omega]
     exact this
  intro k c hk
  have := key cs 0 (λ i c' hc' => ⟨hlen i c' hc', λ j y hy => by
   have hi : i < len := by rw [<- h2]; exact (List.getElem?_eq_some_iff.1 hc').1
   obtain ⟨x, _, hx, _⟩ := hget i hi
   have hcl := (Ck (h i x c' hx hc').1).2 j y hy
   have hs := hspot (by omega)
   rw [dp]
   have : (a.add (i * P.cellsOf e)).add j = ⟨a.block, a.off + (i * P.cellsOf e + j), none⟩ := by
    unfold Addr.add
    obtain ⟨b, o, sp⟩ := a
    simp only at hs
    subst hs
    by_cases e1 : i * P.cellsOf e = 0 <;> by_cases e2 : j = 0 <;> simp [e1, e2, du]
   rw [this] at hcl
   exact hcl⟩) k c hk
  simpa using this
 refine .sl (b := a.block) (o := a.off) cs.flatten (by rw [hflat]; exact hrep.1) (λ k x c hx hc' => hrep.2 k x c (by rw [<- hflat]; exact hx) hc') (λ k c hc' => a14 (hcell k c hc')) (λ hne => ?_) (by simp [h1]) hl (λ _ ad _ o => by simp [Gh.wr, Gh.empty])
 have h0 : 0 < len := by
  rw [<- h1]
  cases xs with
  | nil => simp at hne
  | cons _ _ => simp
 have := hspot h0
 obtain ⟨b, o, sp⟩ := a
 simp only at this
 subst this
 rfl
set_option maxHeartbeats 1000000 in
theorem B9 : ∀ (fuel : Nat) (t : TypeId) (cs : List Value) (d : DataW H) (ps : List MemPlace), DataW.trod enc P w base spare held fuel t cs = some (d, ps) -> Arg P w fuel t cs (dn d)
 | 0, t, cs, d, ps, h => by simp [DataW.trod] at h
 | fuel + 1, t, cs, d, ps, h => by
  unfold DataW.trod at h
  split at h
  ·rename_i hT
   exact ⟨[_], fw.one (.v rfl), by simp [OfT, hT], λ _ => ⟨_, rfl, rfl⟩, by simpa [AV.nL, AV.n] using Am d⟩
  ·rename_i k k' n hT
   split at h
   ·rename_i hk
    obtain ⟨rfl, hwf⟩ := hk
    exact ⟨[.v (.int k' n)], fw.one (.v rfl), by simp [OfT, hT, hwf], λ _ => ⟨_, rfl, rfl⟩, by simpa [AV.nL, AV.n] using Am d⟩
   ·cases h
  ·rename_i hT; exact uh (by simp [OfT, hT, C6])
  ·rename_i s hT
   split at h
   ·rename_i hs
    exact ⟨[.v (.string s)], fw.one (.v rfl), by simp only [OfT, hT]; exact ⟨s, rfl, hs⟩, λ _ => ⟨_, rfl, rfl⟩, by simpa [AV.nL, AV.n] using Am d⟩
   ·cases h
  ·rename_i hT; exact uh (by simp [OfT, hT, C6])
  ·rename_i hT; exact uh (by simp [OfT, hT, C6])
  ·rename_i e hT
   by_cases hc : 0 < P.cellsOf e
   ·refine ⟨[.sl [] .nil], fw.one (.sl (b := 0) (o := 0) [] rfl (λ k a c h => by simp [flat] at h) (λ k c h => by simp at h) (λ h => absurd rfl h) rfl (di _) ⟨rfl, rfl, rfl⟩), ?_, λ _ => ⟨_, rfl, rfl⟩, by simpa [AV.nL, AV.n] using Am d⟩
    simp only [OfT, hT, if_pos hc]
    exact ⟨[], .nil, rfl, .inr ⟨rfl, rfl⟩, by simp, by simp⟩
   ·exact uh (by simp only [OfT, hT, if_neg hc])
  ·rename_i e a len cap hT
   by_cases hc : 0 < P.cellsOf e
   ·simp only at h
    split at h
    ·rename_i jy
     cases hm : (List.range len).mapM λ i => (w.cells? base (a.add (i * P.cellsOf e)) (P.cellsOf e)).bind (DataW.trod enc P w base spare held fuel e) with
     | none => rw [hm] at h; simp at h
     | some r =>
      obtain ⟨h1, h2⟩ := Au hm
      rw [List.length_range] at h1
      have hex : ∀ (i x : Nat), (List.range len)[i]? = some x -> ∃ y : List AV × List Value, w.cells? base (a.add (i * P.cellsOf e)) (P.cellsOf e) = some y.2 /\ fw G0 ⟨[], []⟩ w y.1 y.2 /\ OfT P fuel e y.1 /\ (isAgg P e = false -> ∃ a, y.1 = [a] /\ a.D8 = true) /\ ∀ z, r[i]? = some z -> AV.nL y.1 + 1 <= dn z.1 := by
       intro i x hx
       have hlt : i < len := by simpa using (List.getElem?_eq_some_iff.1 hx).1
       have hxi : x = i := by rw [de hlt] at hx; exact (Option.some.inj hx).symm
       subst hxi
       have h3 := h2 x x hx
       cases h4 : w.cells? base (a.add (x * P.cellsOf e)) (P.cellsOf e) with
       | none =>
        rw [h4] at h3
        have : x < r.length := by omega
        rw [aa this] at h3; cases h3
       | some c =>
        rw [h4] at h3
        have hlt' : x < r.length := by omega
        rw [aa hlt'] at h3
        obtain ⟨l, q1, q2, q3, q4⟩ := B9 fuel e c r[x].1 r[x].2 h3
        exact ⟨(l, c), rfl, q1, q2, q3, λ z hz => by rw [aa hlt'] at hz; cases hz; exact q4⟩
      obtain ⟨ys, y1, y2⟩ := uk (R := λ i _ (y : List AV × List Value) => w.cells? base (a.add (i * P.cellsOf e)) (P.cellsOf e) = some y.2 /\ fw G0 ⟨[], []⟩ w y.1 y.2 /\ OfT P fuel e y.1 /\ (isAgg P e = false -> ∃ a, y.1 = [a] /\ a.D8 = true) /\ ∀ z, r[i]? = some z -> AV.nL y.1 + 1 <= dn z.1) (List.range len) hex
      rw [List.length_range] at y1
      have hy : ∀ (i : Nat) (y : List AV × List Value), ys[i]? = some y -> w.cells? base (a.add (i * P.cellsOf e)) (P.cellsOf e) = some y.2 /\ fw G0 ⟨[], []⟩ w y.1 y.2 /\ OfT P fuel e y.1 /\ (isAgg P e = false -> ∃ a, y.1 = [a] /\ a.D8 = true) /\ ∀ z, r[i]? = some z -> AV.nL y.1 + 1 <= dn z.1 := λ i y hy => y2 i i y (de (by rw [<- y1]; exact (List.getElem?_eq_some_iff.1 hy).1)) hy
      refine ⟨[.sl ((ys.map (·.1)).map (mkE (isAgg P e))) .al], fw.one (Se (base := base) (n := fuel) hc jy.2.1 (ys.map (·.1)) (ys.map (·.2)) (by simp [y1]) (by simp [y1]) λ i x c hx hc' => ?_), ?_, λ _ => ⟨_, rfl, rfl⟩, ?_⟩
      ·rw [bh] at hx hc'
       cases hyi : ys[i]? with
       | none => rw [hyi] at hx; simp at hx
       | some y =>
        rw [hyi] at hx hc'
        simp only [fg, fe] at hx hc'
        subst hx; subst hc'
        obtain ⟨z1, z2, z3, z4, _⟩ := hy i y hyi
        exact ⟨z1, z2, z4⟩
      ·simp only [OfT, hT, if_pos hc]
       refine ⟨ys.map (·.1), .al, rfl, .inl rfl, by simp only [dg, y1]; omega, λ x hx => ?_⟩
       obtain ⟨y, hy1, rfl⟩ := List.mem_map.1 hx
       obtain ⟨i, hi⟩ := c7 hy1
       exact (hy i y hi).2.2.1
      ·rw [hm, Option.bind_some] at h
       obtain ⟨rest, _, h⟩ := fh.1 h
       cases h
       rw [AV.nL, AV.nL, AV.n, dn]
       have := L7 (H := H) (isAgg P e) (ys.map (·.1)) (r.map (·.1)) (by simp [y1, h1]) λ i x d hx hd => by
        rw [bh, fh] at hx hd
        obtain ⟨y, hyi, rfl⟩ := hx
        obtain ⟨z, hz, rfl⟩ := hd
        exact (hy i y hyi).2.2.2.2 z hz
       omega
    ·cases h
   ·exact uh (by simp only [OfT, hT, if_neg hc])
  ·rename_i cs _ _ fs hT
   split at h
   ·rename_i hlen
    by_cases hc : C9 P 0 fs.toList (P.cellsOf t) = true
    ·cases hm : fs.toList.mapM λ f => DataW.trod enc P w base spare held fuel f.type ((cs.drop f.offset).take (P.cellsOf f.type)) with
     | none => rw [hm] at h; simp at h
     | some r =>
      obtain ⟨h1, h2⟩ := Au hm
      obtain ⟨ys, y1, y2⟩ := uk (R := λ i (f : Field) (y : List AV) => fw G0 ⟨[], []⟩ w y ((cs.drop f.offset).take (P.cellsOf f.type)) /\ OfT P fuel f.type y /\ ∀ z, r[i]? = some z -> AV.nL y + 1 <= dn z.1) fs.toList (λ i f hf => by
       have h3 := h2 i f hf
       have hlt' : i < r.length := by rw [h1]; exact (List.getElem?_eq_some_iff.1 hf).1
       rw [aa hlt'] at h3
       obtain ⟨l, q1, q2, q3, q4⟩ := B9 fuel f.type _ r[i].1 r[i].2 h3
       exact ⟨l, q1, q2, λ z hz => by rw [aa hlt'] at hz; cases hz; exact q4⟩)
      have hrep := sy (w := w) ys (fs.toList.map λ f => (cs.drop f.offset).take (P.cellsOf f.type)) (by simp [y1]) λ i x c hx hc' => by
       rw [bh] at hc'
       cases hf : fs.toList[i]? with
       | none => rw [hf] at hc'; simp at hc'
       | some f =>
        rw [hf] at hc'
        simp only [fg, fe] at hc'
        subst hc'
        exact (y2 i f x hf hx).1
      rw [A5 fs.toList 0 cs (by rw [hlen]; exact hc), List.drop_zero] at hrep
      refine ⟨ys.flatten, hrep, ?_, λ hag => by simp [isAgg, hT] at hag, ?_⟩
      ·simp only [OfT, hT, if_pos hc]
       exact ⟨ys, rfl, y1, λ i f x hf hx => (y2 i f x hf hx).2.1⟩
      ·rw [hm] at h
       cases h
       rw [dn]
       have := Il (H := H) ys (r.map (·.1)) (by simp [y1, h1]) λ i x d hx hd => by
        rw [bh, fh] at hd
        obtain ⟨z, hz, rfl⟩ := hd
        have hlt : i < fs.toList.length := by rw [<- y1]; exact (List.getElem?_eq_some_iff.1 hx).1
        exact (y2 i _ x (aa hlt) hx).2.2 z hz
       omega
    ·refine ⟨cs.map λ _ => .unk, K9 cs, ?_, λ hag => by simp [isAgg, hT] at hag, by rw [Mp]; exact Am d⟩
     simp only [OfT, hT, if_neg hc]
     intro a ha
     obtain ⟨_, _, e⟩ := List.mem_map.1 ha
     exact e.symm
   ·cases h
  ·rename_i cs _ _ k e hT
   split at h
   ·rename_i hlen
    by_cases hc : P.cellsOf t = k * P.cellsOf e
    ·cases hm : (List.range k).mapM λ i => DataW.trod enc P w base spare held fuel e ((cs.drop (i * P.cellsOf e)).take (P.cellsOf e)) with
     | none => rw [hm] at h; simp at h
     | some r =>
      obtain ⟨h1, h2⟩ := Au hm
      obtain ⟨ys, y1, y2⟩ := uk (R := λ j (i : Nat) (y : List AV) => fw G0 ⟨[], []⟩ w y ((cs.drop (i * P.cellsOf e)).take (P.cellsOf e)) /\ OfT P fuel e y /\ ∀ z, r[j]? = some z -> AV.nL y + 1 <= dn z.1) (List.range k) (λ i f hf => by
       have h3 := h2 i f hf
       have hlt' : i < r.length := by rw [h1]; exact (List.getElem?_eq_some_iff.1 hf).1
       rw [aa hlt'] at h3
       obtain ⟨l, q1, q2, q3, q4⟩ := B9 fuel e _ r[i].1 r[i].2 h3
       exact ⟨l, q1, q2, λ z hz => by rw [aa hlt'] at hz; cases hz; exact q4⟩)
      have hrep := sy (w := w) ys ((List.range k).map λ i => (cs.drop (i * P.cellsOf e)).take (P.cellsOf e)) (by simpa using y1) λ i x c hx hc' => by
       rw [bh] at hc'
       cases hf : (List.range k)[i]? with
       | none => rw [hf] at hc'; simp at hc'
       | some f =>
        rw [hf] at hc'
        simp only [fg, fe] at hc'
        subst hc'
        exact (y2 i f x hf hx).1
      rw [List.range_eq_range', A2 (P.cellsOf e) k 0 cs (by rw [hlen, hc]; simp)] at hrep
      simp only [Nat.zero_mul, List.drop_zero] at hrep
      refine ⟨ys.flatten, hrep, ?_, λ hag => by simp [isAgg, hT] at hag, ?_⟩
      ·simp only [OfT, hT, if_pos hc]
       refine ⟨ys, rfl, by simpa using y1, λ x hx => ?_⟩
       obtain ⟨i, hi⟩ := c7 hx
       have hlt : i < k := by have := (List.getElem?_eq_some_iff.1 hi).1; rw [y1] at this; simpa using this
       exact (y2 i i x (de hlt) hi).2.1
      ·rw [hm] at h
       cases h
       rw [dn]
       have := Il (H := H) ys (r.map (·.1)) (by simp [y1, h1]) λ i x d hx hd => by
        rw [bh, fh] at hd
        obtain ⟨z, hz, rfl⟩ := hd
        have hlt : i < k := by have := (List.getElem?_eq_some_iff.1 hx).1; rw [y1] at this; simpa using this
        exact (y2 i i x (de hlt) hx).2.2 z hz
       omega
    ·refine ⟨cs.map λ _ => .unk, K9 cs, ?_, λ hag => by simp [isAgg, hT] at hag, by rw [Mp]; exact Am d⟩
     simp only [OfT, hT, if_neg hc]
     intro a ha
     obtain ⟨_, _, e⟩ := List.mem_map.1 ha
     exact e.symm
   ·cases h
  all_goals first
   | (cases h; done)
   | (rename_i hT; exact uh (by simp [OfT, hT, C6]))
   | (rename_i hT _; exact uh (by simp [OfT, hT, C6]))
   | (split at h <;> first | (cases h; done) | (rename_i hT _; exact uh (by simp [OfT, hT, C6])))
end
end Go.Proofs.Eng
namespace Go.Proofs.Eng
open Go.ChangeShapes Go.WideShapes Go.ChangeAt Go.RowKit
def Lb (P : Program) : List TypeId -> List AV -> Prop
 | [], [] => True
 | t :: ts, a :: ls => (∃ n l, a = mkE (isAgg P t) l /\ OfT P n t l) /\ Lb P ts ls
 | _, _ => False
section
variable {P : Program} {H : Type} {enc : TypeId × Value -> H} {md : FuncId -> Md} {pfs : FuncId -> Option PF}
theorem M7 {w : World} {base : Nat} {t : TypeId} {v : Value} (h : Value.okWide P w .any base t v) : if isAgg P t then ∃ cs, v = .agg cs else v.cells = #[v] := by
 unfold Value.okWide at h
 split at h
 ·rename_i hT; simp only [isAgg, hT, if_true]; obtain ⟨cs, h, _⟩ := h; exact ⟨cs, h⟩
 ·rename_i hT; simp only [isAgg, hT, if_true]; obtain ⟨cs, h, _⟩ := h; exact ⟨cs, h⟩
 ·rename_i h1 h2
  have hf : isAgg P t = false := by
   unfold isAgg
   split
   ·rename_i fs hT; exact absurd hT (h1 fs)
   ·rename_i n e hT; exact absurd hT (h2 n e)
   ·rfl
  rw [hf]
  simp only [dy, if_false]
  cases v with
  | agg cs =>
   exfalso
   unfold Cell.okWide at h
   split at h <;> first
    | (rename_i hT hv; cases hv; done)
    | (unfold Cell.ok at h; split at h <;> first | exact h | (rename_i hT hv; cases hv; done))
  | _ => rfl
theorem Zu {w w' : World} {base : Nat} {t : TypeId} {v : Value} {d : DataW H} {p : List MemPlace} (hv : Value.okWide P w' .any base t v) (h : DataW.Trod enc P w 0 (λ _ => true) true t v d p) : ∃ a, Rep G0 ⟨[], []⟩ w a v /\ (∃ n l, a = mkE (isAgg P t) l /\ OfT P n t l) /\ a.n <= dn d := by
 obtain ⟨fuel, h⟩ := h
 obtain ⟨l, h1, h2, h3, h4⟩ := B9 _ _ _ _ _ h
 have hag := M7 hv
 refine ⟨mkE (isAgg P t) l, ?_, ⟨fuel, l, rfl, h2⟩, dr (a30 _ _) h4⟩
 cases hx : isAgg P t with
 | true =>
  rw [hx] at hag
  simp only [if_true] at hag
  obtain ⟨cs, rfl⟩ := hag
  exact .agg cs.toList h1.1 h1.2
 | false =>
  rw [hx] at hag
  simp only [dy, if_false] at hag
  obtain ⟨a, rfl, _⟩ := h3 hx
  rw [hag] at h1
  exact h1.2 0 a v rfl rfl
theorem La {w w' : World} {base : Nat} : ∀ {ts : List TypeId} {vs : List Value} {ds : List (DataW H)} {p : List MemPlace}, (∀ (j : Nat) (t : TypeId) (v : Value), ts[j]? = some t -> vs[j]? = some v -> Value.okWide P w' .any base t v) -> DataW.TrodAll enc P w 0 (λ _ => true) true ts vs ds p -> ∃ ls, fw G0 ⟨[], []⟩ w ls vs /\ Lb P ts ls /\ ds.length = ts.length /\ AV.nL ls <= dnL ds
 | [], [], [], _, _, h => ⟨[], fw.nil _ _ _, trivial, rfl, di _⟩
 | [], _ :: _, _, _, _, h => h.elim
 | [], [], _ :: _, _, _, h => h.elim
 | _ :: _, [], _, _, _, h => h.elim
 | _ :: _, _ :: _, [], _, _, h => h.elim
 | t :: ts, v :: vs, d :: ds, _, hv, ⟨p, q, h1, h2, e⟩ => by
  obtain ⟨a, ha, hn, hz⟩ := Zu (hv 0 t v rfl rfl) h1
  obtain ⟨ls, hl, ht, hd, hy⟩ := La (λ j t v h h' => hv (j + 1) t v (by simpa using h) (by simpa using h')) h2
  exact ⟨a :: ls, fw.cons ha hl, ⟨hn, ht⟩, by simp [hd], by rw [AV.nL, dnL]; omega⟩
theorem Jz {w : World} : ∀ {ns : List String} {gs : List (DataW H)} {p : List MemPlace}, DataW.TrodVars enc P w (λ _ => true) ns gs p -> gs.length = ns.length
 | [], [], _, _ => rfl
 | [], _ :: _, _, h => h.elim
 | _ :: _, [], _, h => h.elim
 | _ :: ns, _ :: gs, _, h => by
  obtain ⟨_, _, _, _, _, _, _, _, _, _, h, _⟩ := h
  simp [Jz h]
theorem Dl (hm : P.follows .mixedOrders = true) (hP : zu P pfs) (hl : laidOutB P = true) {f : FuncId} {fn : Func} {s : ChangeSpec} {tb : TypeId}
  (hpar : (fn.params.toList.all λ t => P.readableRec t && decide (t < P.types.size)) = true) (hvars : varsRowed P s.vars = true) (hres : fn.resultTypes = #[tb]) (htb : P.underlying tb = some .bool)
  (hspec : ∀ ds gs : List (DataW H), ds.length = fn.params.toList.length -> gs.length = s.vars.length -> (s.fn H (ds ++ gs)).results = [.lit (.bool true)] /\ (s.fn H (ds ++ gs)).args = ds /\ (s.fn H (ds ++ gs)).vars = gs)
  {B : Nat} (Vi : ∀ ls : List AV, Lb P fn.params.toList ls -> AV.nL ls <= B -> ∃ s', run md pfs f ls ⟨[], []⟩ = some (.ret (.v (.bool true)), s'))
  {W : World} (hk : Kn W) {base : Nat} {args : Array Value} {ds gs : List (DataW H)} {before : List MemPlace}
  (hval : ∀ (j : Nat) t v, fn.params[j]? = some t -> args[j]? = some v -> Value.okWide P W .any base t v) (hW : DataW.Whole enc P fn.params.toList s.vars false W args.toList ds gs before) (hB : dnL ds <= B) :
  Calls P f args W λ e W' => ∃ v, e = .returned v /\ s.post enc P fn false true false false W args v W' := by
 obtain ⟨p, q, hA, hV, hrest⟩ := id hW
 obtain ⟨ls, h1, h2, h3, h4⟩ := La (w' := W) (base := base) (λ j t v ht hv => hval j t v (by simpa using ht) (by simpa using hv)) hA
 obtain ⟨s', hs⟩ := Vi ls h2 (dr h4 hB)
 obtain ⟨e1, e2, e3⟩ := hspec ds gs h3 (Jz hV)
 have := Sg hm hP hs hk h1
 rw [show args.toList.toArray = args from dw] at this
 refine this.mono λ e W' ⟨he, hb⟩ => ⟨_, he, ?_⟩
 exact Qd hW hb hl hpar hvars hres htb e1 e2 e3
theorem J7 (hm : P.follows .mixedOrders = true) (hP : zu P pfs) (hl : laidOutB P = true) {f : FuncId} {fn : Func} {s : ChangeSpec} {tb : TypeId}
  (hpar : (fn.params.toList.all λ t => P.readableRec t && decide (t < P.types.size)) = true) (hvars : varsRowed P s.vars = true) (hres : fn.resultTypes = #[tb]) (htb : P.underlying tb = some .bool)
  (hspec : ∀ ds gs : List (DataW H), ds.length = fn.params.toList.length -> gs.length = s.vars.length -> (s.fn H (ds ++ gs)).results = [.lit (.bool true)] /\ (s.fn H (ds ++ gs)).args = ds /\ (s.fn H (ds ++ gs)).vars = gs)
  (Vi : ∀ ls : List AV, Lb P fn.params.toList ls -> ∃ s', run md pfs f ls ⟨[], []⟩ = some (.ret (.v (.bool true)), s'))
  {W : World} (hk : Kn W) {base : Nat} {args : Array Value} {ds gs : List (DataW H)} {before : List MemPlace}
  (hval : ∀ (j : Nat) t v, fn.params[j]? = some t -> args[j]? = some v -> Value.okWide P W .any base t v) (hW : DataW.Whole enc P fn.params.toList s.vars false W args.toList ds gs before) :
  Calls P f args W λ e W' => ∃ v, e = .returned v /\ s.post enc P fn false true false false W args v W' :=
 Dl hm hP hl hpar hvars hres htb hspec (λ ls h _ => Vi ls h) hk hval hW (di _)
end
end Go.Proofs.Eng
namespace Go.Proofs.Eng
section
variable {md : FuncId -> Md} {pfs : FuncId -> Option PF} {f : FuncId} {args : List AV} {v : AV}
theorem w7 (s : ASt) : ∀ {l : List AV}, gg l = true -> iq (gh 20 s) l = some l
 | [], _ => rfl
 | x :: l, h => by
  simp only [gg, dx] at h
  simp only [iq, iu h.1, w7 s h.2]
theorem Dw (s : ASt) : ∀ {l : List AV}, gg l = true -> l.foldl (frz 20) s = s
 | [], _ => rfl
 | x :: l, h => by
  simp only [gg, dx] at h
  rw [dc, Bm h.1, Dw s h.2]
end
end Go.Proofs.Eng
namespace Go.Proofs.Eng
section
variable {c : gr} {md : FuncId -> Md} {i : PI} {l : List PI} {st : St} {v : AV} {s' : ASt} {f : FuncId} {args : List AV}
variable {hd : List PI}
variable {lp : PC -> St -> Option (fu × St)} {a b : PC} {x : X} {r : Option (fu × St)} {st' : St}
end
end Go.Proofs.Eng
