/- The engine's calculus, first part: the interpreter without its fuel. No conditions. -/
import Derived.Test.YtflfmkkcnphdcaaGreatG1
import Derived.Test.YtflfmkkcnphdcaaGreatG6
import Derived.ProofKit
import Derived.OpenVars
import Derived.DataReads
set_option linter.all false
set_option linter.deprecated false
set_option linter.unnecessarySimpa false
set_option linter.unusedVariables false
set_option linter.unusedSimpArgs false
set_option linter.defProp false
namespace Go.Proofs.Eng
structure Cont {α : Type} (a : Nat → Option α) (b : Option α) : Prop where
 mono : ∀ F F' r, F ≤ F' → a F = some r → a F' = some r
 up : ∀ F r, a F = some r → b = some r
 fin : ∀ r, b = some r → ∃ F, a F = some r
section
variable {α β : Type}
theorem Cont.const (x : Option α) : Cont (fun _ => x) x := ⟨fun _ _ _ _ h => h, fun _ _ h => h, fun _ h => ⟨0, h⟩⟩
theorem Cont.app {a : Nat → Option α} {b : Option α} {k : Nat → Option α → Option β} {k' : Option α → Option β} (h : Cont a b) (hn : ∀ F, k F none = none) (hn' : k' none = none) (hk : ∀ x, Cont (fun F => k F (some x)) (k' (some x))) : Cont (fun F => k F (a F)) (k' b) := by
 refine ⟨fun F F' r hF e => ?_, fun F r e => ?_, fun r e => ?_⟩
 ·cases ha : a F with
  | none => rw [ha, hn] at e; cases e
  | some x => rw [ha] at e; simp only [h.mono F F' x hF ha]; exact (hk x).mono F F' r hF e
 ·cases ha : a F with
  | none => rw [ha, hn] at e; cases e
  | some x => rw [ha] at e; rw [h.up F x ha]; exact (hk x).up F r e
 ·cases hb : b with
  | none => rw [hb, hn'] at e; cases e
  | some x =>
   rw [hb] at e
   obtain ⟨F1, h1⟩ := h.fin x hb
   obtain ⟨F2, h2⟩ := (hk x).fin r e
   refine ⟨max F1 F2, ?_⟩
   simp only [h.mono F1 (max F1 F2) x (Nat.le_max_left _ _) h1]
   exact (hk x).mono F2 (max F1 F2) r (Nat.le_max_right _ _) h2
open Classical in
noncomputable def lim (a : Nat → Option α) : Option α := if h : ∃ r F, a F = some r then some h.choose else none
theorem Cont.lim {a : Nat → Option α} (hm : ∀ F F' r, F ≤ F' → a F = some r → a F' = some r) : Cont a (lim a) := by
 have key : ∀ r F, a F = some r → Go.Proofs.Eng.lim a = some r := by
  intro r F h
  have hx : ∃ r F, a F = some r := ⟨r, F, h⟩
  unfold Go.Proofs.Eng.lim
  rw [dif_pos hx]
  obtain ⟨F2, h2⟩ := hx.choose_spec
  have h3 := hm F (max F F2) r (Nat.le_max_left _ _) h
  have h4 := hm F2 (max F F2) _ (Nat.le_max_right _ _) h2
  rw [h3] at h4
  exact h4.symm
 refine ⟨hm, fun F r h => key r F h, fun r h => ?_⟩
 unfold Go.Proofs.Eng.lim at h
 split at h
 ·rename_i hx
  obtain ⟨F, hF⟩ := hx.choose_spec
  exact ⟨F, by rw [hF]; exact h⟩
 ·cases h
theorem Cont.shift {a : Nat → Option α} {b : Option α} (h : Cont (fun F => a (F + 1)) b) (h0 : a 0 = none) : Cont a b := by
 refine ⟨fun F F' r hF e => ?_, fun F r e => ?_, fun r e => ?_⟩
 ·cases F with
  | zero => rw [h0] at e; cases e
  | succ F =>
   cases F' with
   | zero => omega
   | succ F' => exact h.mono F F' r (by omega) e
 ·cases F with
  | zero => rw [h0] at e; cases e
  | succ F => exact h.up F r e
 ·obtain ⟨F, hF⟩ := h.fin r e; exact ⟨F + 1, hF⟩
theorem Cont.uniq {a : Nat → Option α} {b c : Option α} (h : Cont a b) (k : Cont a c) : b = c := by
 cases hb : b with
 | none =>
  cases hc : c with
  | none => rfl
  | some x => obtain ⟨F, hF⟩ := k.fin x hc; rw [h.up F x hF] at hb; cases hb
 | some x => obtain ⟨F, hF⟩ := h.fin x hb; exact (k.up F x hF).symm
end
section
variable {md : FuncId → Md} {c : Nat → Oracle} {c' : Oracle}
def OCont (c : Nat → Oracle) (c' : Oracle) : Prop := ∀ f args s, Cont (fun F => c F f args s) (c' f args s)
theorem callA_cont (h : OCont c c') (pm : Bool) (s : ASt) (f : FuncId) (args : List AV) : Cont (fun F => callA (c F) md pm s f args) (callA c' md pm s f args) := by
 unfold callA
 cases md f with
 | pure =>
  simp only
  by_cases hp : (pm && !pureAVs args) = true
  ·simp only [hp, if_true]; exact .const _
  ·simp only [hp]
   cases mapO (purify 20 s) args with
   | none => exact .const _
   | some args' => exact Cont.app (k := fun _ (o : Option (Outc × ASt)) => (match o with | some (out, s') => (out.purify 1020 s').map fun o => (o, args.foldl (frz 20) s) | none => none : Option (Outc × ASt))) (k' := fun (o : Option (Outc × ASt)) => (match o with | some (out, s') => (out.purify 1020 s').map fun o => (o, args.foldl (frz 20) s) | none => none : Option (Outc × ASt))) (h f args' ⟨[], []⟩) (fun _ => rfl) rfl fun _ => .const _
 | shared =>
  simp only
  cases pm with
  | true => exact .const _
  | false => exact Cont.app (k := fun _ (o : Option (Outc × ASt)) => (match o with | some (out, s') => (out.purify 20 s').map fun o => (o, out.frz 20 s') | none => none : Option (Outc × ASt))) (k' := fun (o : Option (Outc × ASt)) => (match o with | some (out, s') => (out.purify 20 s').map fun o => (o, out.frz 20 s') | none => none : Option (Outc × ASt))) (h f args s) (fun _ => rfl) rfl fun _ => .const _
 | raw =>
  simp only
  cases pm with
  | true => exact .const _
  | false => exact h f args s
theorem stepA_cont (h : OCont c c') (pm : Bool) (i : PI) (st : St) : Cont (fun F => stepA (c F) md pm i st) (stepA c' md pm i st) := by
 unfold stepA
 cases wantedA st.tm i.g with
 | none => exact .const _
 | some b =>
  cases b with
  | false => exact .const _
  | true =>
   simp only
   cases opA st.tm st.s i.op with
   | none => exact .const _
   | some o =>
    cases o with
    | call f args => exact Cont.app (k := fun _ (o : Option (Outc × ASt)) => (match o with | some (.ret v, s) => some (.normal, { st with tm := put st.tm i.dst v, s }) | some (.pan v, s) => some (.pan v, { st with s }) | none => none : Option (AExit × St))) (k' := fun (o : Option (Outc × ASt)) => (match o with | some (.ret v, s) => some (.normal, { st with tm := put st.tm i.dst v, s }) | some (.pan v, s) => some (.pan v, { st with s }) | none => none : Option (AExit × St))) (callA_cont h pm st.s f args) (fun _ => rfl) rfl fun _ => .const _
    | _ => exact .const _
theorem stepsA_cont (h : OCont c c') : ∀ (l : List PI) (st : St), Cont (fun F => stepsA (c F) md l st) (stepsA c' md l st)
 | [], st => .const _
 | i :: l, st => by
  refine Cont.app (k := fun F (o : Option (AExit × St)) => (match o with | some (.normal, st) => stepsA (c F) md l st | r => r : Option (AExit × St))) (k' := fun (o : Option (AExit × St)) => (match o with | some (.normal, st) => stepsA c' md l st | r => r : Option (AExit × St))) (stepA_cont h false i st) (fun _ => rfl) rfl fun x => ?_
  obtain ⟨ex, st1⟩ := x
  cases ex with
  | normal => exact stepsA_cont h l st1
  | _ => exact .const _
theorem headA_cont (h : OCont c c') (hd : List PI) : ∀ (l : List PI) (st : St) (p : Option (Nat × AV × ASt)), Cont (fun F => headA (c F) md hd l st p) (headA c' md hd l st p)
 | [], st, p => .const _
 | i :: l, st, none => by
  refine Cont.app (k := fun F (o : Option (AExit × St)) => (match o with | some (.normal, st) => headA (c F) md hd l st none | some (.pan v, _) => if effOK hd i then headA (c F) md hd l st (some (i.ix, v, st.s)) else none | _ => none : Option (St × Option (AV × ASt)))) (k' := fun (o : Option (AExit × St)) => (match o with | some (.normal, st) => headA c' md hd l st none | some (.pan v, _) => if effOK hd i then headA c' md hd l st (some (i.ix, v, st.s)) else none | _ => none : Option (St × Option (AV × ASt)))) (stepA_cont h true i st) (fun _ => rfl) rfl fun x => ?_
  obtain ⟨ex, st1⟩ := x
  cases ex with
  | normal => exact headA_cont h hd l st1 none
  | pan v =>
   simp only
   split
   ·exact headA_cont h hd l st _
   ·exact .const _
  | _ => exact .const _
 | i :: l, st, some (k, v, s) => by
  unfold headA
  split
  ·exact headA_cont h hd l st _
  ·refine Cont.app (k := fun F (o : Option (AExit × St)) => (match o with | some (.normal, st) => headA (c F) md hd l st (some (k, v, s)) | _ => none : Option (St × Option (AV × ASt)))) (k' := fun (o : Option (AExit × St)) => (match o with | some (.normal, st) => headA c' md hd l st (some (k, v, s)) | _ => none : Option (St × Option (AV × ASt)))) (stepA_cont h true i st) (fun _ => rfl) rfl fun x => ?_
   obtain ⟨ex, st1⟩ := x
   cases ex with
   | normal => exact headA_cont h hd l st1 _
   | _ => exact .const _
theorem runP_cont (h : OCont c c') : ∀ (l : List PI) (st : St), Cont (fun F => runP (c F) md l st) (runP c' md l st)
 | [], st => .const _
 | i :: l, st => by
  refine Cont.app (k := fun F (o : Option (AExit × St)) => (match o with | some (.normal, st) => runP (c F) md l st | _ => none : Option St)) (k' := fun (o : Option (AExit × St)) => (match o with | some (.normal, st) => runP c' md l st | _ => none : Option St)) (stepA_cont h true i st) (fun _ => rfl) rfl fun x => ?_
  obtain ⟨ex, st1⟩ := x
  cases ex with
  | normal => exact runP_cont h l st1
  | _ => exact .const _
theorem callP0_cont (h : OCont c c') (n : Nat) (l : List PI) (st : St) : Cont (fun F => callP0 (c F) md n l st) (callP0 c' md n l st) := by
 unfold callP0
 refine Cont.app (k := fun F (o : Option St) => (match o with
  | some st1 => (match l.drop n with
   | i :: l' => (match stepA (c F) md false i st1 with
    | some (.normal, st2) => if ((l.take n).all fun j => i.pre.contains j.ix || j.op.kd == .S || stable st1.tm st1.s st2.s j.op) = true then (runP (c F) md l' st2).map fun st3 => (st3, none) else none
    | some (.pan v, st2) => some (st2, some (v, st2.s))
    | _ => none)
   | [] => none)
  | none => none : Option (St × Option (AV × ASt)))) (k' := fun (o : Option St) => (match o with
  | some st1 => (match l.drop n with
   | i :: l' => (match stepA c' md false i st1 with
    | some (.normal, st2) => if ((l.take n).all fun j => i.pre.contains j.ix || j.op.kd == .S || stable st1.tm st1.s st2.s j.op) = true then (runP c' md l' st2).map fun st3 => (st3, none) else none
    | some (.pan v, st2) => some (st2, some (v, st2.s))
    | _ => none)
   | [] => none)
  | none => none : Option (St × Option (AV × ASt)))) (runP_cont h (l.take n) st) (fun _ => rfl) rfl fun st1 => ?_
 simp only
 cases l.drop n with
 | nil => exact .const _
 | cons i l' =>
  refine Cont.app (k := fun F (o : Option (AExit × St)) => (match o with
    | some (.normal, st2) => if ((l.take n).all fun j => i.pre.contains j.ix || j.op.kd == .S || stable st1.tm st1.s st2.s j.op) = true then (runP (c F) md l' st2).map fun st3 => (st3, none) else none
    | some (.pan v, st2) => some (st2, some (v, st2.s))
    | _ => none : Option (St × Option (AV × ASt)))) (k' := fun (o : Option (AExit × St)) => (match o with
    | some (.normal, st2) => if ((l.take n).all fun j => i.pre.contains j.ix || j.op.kd == .S || stable st1.tm st1.s st2.s j.op) = true then (runP c' md l' st2).map fun st3 => (st3, none) else none
    | some (.pan v, st2) => some (st2, some (v, st2.s))
    | _ => none : Option (St × Option (AV × ASt)))) (stepA_cont h false i st1) (fun _ => rfl) rfl fun x => ?_
  obtain ⟨ex, st2⟩ := x
  cases ex with
  | normal =>
   simp only
   split
   ·exact Cont.app (k := fun _ (o : Option St) => o.map fun st3 => (st3, none)) (k' := fun (o : Option St) => o.map fun st3 => (st3, none)) (runP_cont h l' st2) (fun _ => rfl) rfl fun _ => .const _
   ·exact .const _
  | _ => exact .const _
theorem makeA_cont (h : OCont c c') (tm : List AV) (idx : Nat) (o : PO) : Cont (fun F => makeA (c F) md tm idx o) (makeA c' md tm idx o) := by
 cases o with
 | call x l =>
  simp only [makeA]
  cases hx : evX tm x with
  | none => exact .const _
  | some av =>
   cases av with
   | fn f caps =>
    cases caps with
    | nil =>
     cases hl : mapO (evX tm) l with
     | none => exact .const _
     | some args =>
      simp only
      cases hm : md f with
      | raw =>
       simp only
       by_cases hp : pureAVs args = true
       ·simp only [if_pos hp]
        refine Cont.app (k := fun _ (o : Option (Outc × ASt)) => (match o with
         | some (.ret (.bs j off len es ag), s1) => (match s1.H[j]? with
          | some (.cells false c) => if c.all isSc = true then some (.bs idx off len es ag, .cells false c) else none
          | _ => none)
         | _ => none : Option (AV × AObj))) (k' := fun (o : Option (Outc × ASt)) => (match o with
         | some (.ret (.bs j off len es ag), s1) => (match s1.H[j]? with
          | some (.cells false c) => if c.all isSc = true then some (.bs idx off len es ag, .cells false c) else none
          | _ => none)
         | _ => none : Option (AV × AObj))) (h f args ⟨[], []⟩) (fun _ => rfl) rfl fun _ => .const _
       ·simp only [if_neg hp]; exact .const _
      | _ => exact .const _
    | cons a b => exact .const _
   | _ => exact .const _
 | _ => exact .const _
theorem mkP_cont (h : OCont c c') : ∀ (l : List PI) (tm : List AV) (s : ASt) (Z : List AObj), Cont (fun F => mkP (c F) md l tm s Z) (mkP c' md l tm s Z)
 | [], tm, s, Z => .const _
 | i :: l, tm, s, Z => by
  unfold mkP
  split
  ·refine Cont.app (k := fun F (o : Option (AExit × St)) => (match o with | some (.normal, st) => mkP (c F) md l st.tm s Z | _ => none : Option (List AV × List AObj))) (k' := fun (o : Option (AExit × St)) => (match o with | some (.normal, st) => mkP c' md l st.tm s Z | _ => none : Option (List AV × List AObj))) (stepA_cont h true i ⟨tm, [], s⟩) (fun _ => rfl) rfl fun x => ?_
   obtain ⟨ex, st1⟩ := x
   cases ex with
   | normal => exact mkP_cont h l _ _ _
   | _ => exact .const _
  ·refine Cont.app (k := fun F (o : Option (AV × AObj)) => (match o with | some (v, ob) => mkP (c F) md l (put tm i.dst v) s (Z ++ [ob]) | none => none : Option (List AV × List AObj))) (k' := fun (o : Option (AV × AObj)) => (match o with | some (v, ob) => mkP c' md l (put tm i.dst v) s (Z ++ [ob]) | none => none : Option (List AV × List AObj))) (makeA_cont h tm _ i.op) (fun _ => rfl) rfl fun x => ?_
   exact mkP_cont h l _ _ _
theorem mixP_cont (h : OCont c c') : ∀ (l : List PI) (tm : List AV) (s : ASt) (Z : List AObj), Cont (fun F => mixP (c F) md l tm s Z) (mixP c' md l tm s Z)
 | [], tm, s, Z => .const _
 | i :: l, tm, s, Z => by
  unfold mixP
  split
  ·refine Cont.app (k := fun F (o : Option (AExit × St)) => (match o with | some (.normal, st) => mixP (c F) md l st.tm st.s Z | _ => none : Option (List AV × ASt × List AObj))) (k' := fun (o : Option (AExit × St)) => (match o with | some (.normal, st) => mixP c' md l st.tm st.s Z | _ => none : Option (List AV × ASt × List AObj))) (stepA_cont h true i ⟨tm, [], s⟩) (fun _ => rfl) rfl fun x => ?_
   obtain ⟨ex, st1⟩ := x
   cases ex with
   | normal => exact mixP_cont h l _ _ _
   | _ => exact .const _
  ·cases makeB tm (s.H.length + Z.length) i.op with
   | none => exact .const _
   | some x => exact mixP_cont h l _ _ _
theorem mixW_cont (h : OCont c c') (l : List PI) (st : St) : Cont (fun F => mixW (c F) md l st) (mixW c' md l st) := by
 unfold mixW
 cases l.getLast? with
 | none => exact .const _
 | some p =>
  simp only
  by_cases hk : (p.op.kd == .W) = true
  ·simp only [if_pos hk]
   refine Cont.app (k := fun F (o : Option (List AV × ASt × List AObj)) => (match o with
    | some (tm, s, Z) => (match stepA (c F) md true p ⟨tm, st.df, { s with H := s.H ++ Z }⟩ with
     | some (.normal, st2) => if (l.dropLast.all fun j => p.pre.contains j.ix || j.op.kd == .S || stable tm { s with H := s.H ++ Z } st2.s j.op) = true then some st2 else none
     | _ => none)
    | none => none : Option St)) (k' := fun (o : Option (List AV × ASt × List AObj)) => (match o with
    | some (tm, s, Z) => (match stepA c' md true p ⟨tm, st.df, { s with H := s.H ++ Z }⟩ with
     | some (.normal, st2) => if (l.dropLast.all fun j => p.pre.contains j.ix || j.op.kd == .S || stable tm { s with H := s.H ++ Z } st2.s j.op) = true then some st2 else none
     | _ => none)
    | none => none : Option St)) (mixP_cont h l.dropLast st.tm st.s []) (fun _ => rfl) rfl fun x => ?_
   obtain ⟨tm, s, Z⟩ := x
   exact Cont.app (k := fun _ (o : Option (AExit × St)) => (match o with
     | some (.normal, st2) => if (l.dropLast.all fun j => p.pre.contains j.ix || j.op.kd == .S || stable tm { s with H := s.H ++ Z } st2.s j.op) = true then some st2 else none
     | _ => none : Option St)) (k' := fun (o : Option (AExit × St)) => (match o with
     | some (.normal, st2) => if (l.dropLast.all fun j => p.pre.contains j.ix || j.op.kd == .S || stable tm { s with H := s.H ++ Z } st2.s j.op) = true then some st2 else none
     | _ => none : Option St)) (stepA_cont h true p ⟨tm, st.df, { s with H := s.H ++ Z }⟩) (fun _ => rfl) rfl fun x => .const _
  ·simp only [if_neg hk]
   exact Cont.app (k := fun _ (o : Option (List AV × ASt × List AObj)) => (match o with
    | some (tm, s, Z) => some ⟨tm, st.df, { s with H := s.H ++ Z }⟩
    | none => none : Option St)) (k' := fun (o : Option (List AV × ASt × List AObj)) => (match o with
    | some (tm, s, Z) => some ⟨tm, st.df, { s with H := s.H ++ Z }⟩
    | none => none : Option St)) (mixP_cont h l st.tm st.s []) (fun _ => rfl) rfl fun x => .const _
theorem callP_cont (h : OCont c c') (n : Nat) (l : List PI) (st : St) : Cont (fun F => callP (c F) md n l st) (callP c' md n l st) := by
 by_cases h0 : n < 1000
 ·simp only [callP, if_pos h0]
  exact callP0_cont h n l st
 ·by_cases h1 : n = 1001
  ·simp only [callP, if_neg h0, if_pos h1]
   exact Cont.app (k := fun _ (o : Option St) => o.map fun st => (st, none)) (k' := fun (o : Option St) => o.map fun st => (st, none)) (mixW_cont h l st) (fun _ => rfl) rfl fun _ => .const _
  ·simp only [callP, if_neg h0, if_neg h1]
   exact Cont.app (k := fun _ (o : Option (List AV × List AObj)) => (match o with | some (tm, Z) => some (⟨tm, st.df, { st.s with H := st.s.H ++ Z }⟩, none) | none => none : Option (St × Option (AV × ASt)))) (k' := fun (o : Option (List AV × List AObj)) => (match o with | some (tm, Z) => some (⟨tm, st.df, { st.s with H := st.s.H ++ Z }⟩, none) | none => none : Option (St × Option (AV × ASt)))) (mkP_cont h l st.tm st.s []) (fun _ => rfl) rfl fun _ => .const _
theorem regA_cont (h : OCont c c') : ∀ (ns : List Nat) (l : List PI) (st : St), Cont (fun F => regA (c F) md ns l st) (regA c' md ns l st)
 | [], l, st => stepsA_cont h l st
 | n :: ns, l, st => by
  refine Cont.app (a := fun F => if n < 1000 then headA (c F) md (l.take (n % 1000)) (l.take (n % 1000)) st none else callP (c F) md (n / 1000 - 1) (l.take (n % 1000)) st) (b := if n < 1000 then headA c' md (l.take (n % 1000)) (l.take (n % 1000)) st none else callP c' md (n / 1000 - 1) (l.take (n % 1000)) st)
   (k := fun F (o : Option (St × Option (AV × ASt))) => (match o with | some (st', none) => (match l.drop (n % 1000) with | [] => some (.normal, st') | b :: l' => match stepA (c F) md false b st' with | some (.normal, st2) => regA (c F) md ns l' st2 | r => r) | some (_, some (v, s)) => some (.pan v, { st with tm := unkAll (l.take (n % 1000)) st.tm, s }) | none => none : Option (AExit × St)))
   (k' := fun (o : Option (St × Option (AV × ASt))) => (match o with | some (st', none) => (match l.drop (n % 1000) with | [] => some (.normal, st') | b :: l' => match stepA c' md false b st' with | some (.normal, st2) => regA c' md ns l' st2 | r => r) | some (_, some (v, s)) => some (.pan v, { st with tm := unkAll (l.take (n % 1000)) st.tm, s }) | none => none : Option (AExit × St))) ?_ (fun _ => rfl) rfl fun x => ?_
  ·by_cases hn : n < 1000
   ·simp only [if_pos hn]; exact headA_cont h _ _ st none
   ·simp only [if_neg hn]; exact callP_cont h _ _ st
  obtain ⟨st', p⟩ := x
  cases p with
  | some p => exact .const _
  | none =>
   simp only
   cases l.drop (n % 1000) with
   | nil => exact .const _
   | cons b l' =>
    refine Cont.app (k := fun F (o : Option (AExit × St)) => (match o with | some (.normal, st2) => regA (c F) md ns l' st2 | r => r : Option (AExit × St))) (k' := fun (o : Option (AExit × St)) => (match o with | some (.normal, st2) => regA c' md ns l' st2 | r => r : Option (AExit × St))) (stepA_cont h false b st') (fun _ => rfl) rfl fun x => ?_
    obtain ⟨ex, st1⟩ := x
    cases ex with
    | normal => exact regA_cont h ns l' st1
    | _ => exact .const _
theorem rngA_cont {it : ASt → Nat → Option (Option (List AV))} {rnd : Nat → List AV → ASt → Option (AExit × St)} {rnd' : List AV → ASt → Option (AExit × St)} (h : ∀ xs s, Cont (fun F => rnd F xs s) (rnd' xs s)) : ∀ (k i : Nat) (s : ASt), Cont (fun F => rngA it (rnd F) k i s) (rngA it rnd' k i s)
 | 0, i, s => .const _
 | k + 1, i, s => by
  unfold rngA
  cases it s i with
  | none => exact .const _
  | some r =>
   cases r with
   | none => exact .const _
   | some xs =>
    refine Cont.app (k := fun F (o : Option (AExit × St)) => (match o with
     | some (.normal, st) => if st.df.isEmpty then rngA it (rnd F) k (i + 1) st.s else none
     | some (.exit id, st) => if st.df.isEmpty then some (.exit id, st.s) else none
     | some (.ret, st) => if st.df.isEmpty then some (.ret, st.s) else none
     | _ => none : Option (AExit × ASt))) (k' := fun (o : Option (AExit × St)) => (match o with
     | some (.normal, st) => if st.df.isEmpty then rngA it rnd' k (i + 1) st.s else none
     | some (.exit id, st) => if st.df.isEmpty then some (.exit id, st.s) else none
     | some (.ret, st) => if st.df.isEmpty then some (.ret, st.s) else none
     | _ => none : Option (AExit × ASt))) (h xs s) (fun _ => rfl) rfl fun x => ?_
    obtain ⟨ex, st1⟩ := x
    cases ex with
    | normal =>
     simp only
     split
     ·exact rngA_cont h k (i + 1) st1.s
     ·exact .const _
    | _ => exact .const _
theorem execL_cont (h : OCont c c') {lp : Nat → PC → St → Option (AExit × St)} {lp' : PC → St → Option (AExit × St)} (hl : ∀ b st, Cont (fun F => lp F b st) (lp' b st)) : ∀ (b : PC) (st : St), Cont (fun F => execL (c F) md (lp F) b st) (execL c' md lp' b st)
 | .skip, st => .const _
 | .reg l, st => stepsA_cont h l st
 | .dreg ns l, st => regA_cont h ns l st
 | .seq a b, st => by
  refine Cont.app (k := fun F (o : Option (AExit × St)) => (match o with | some (.normal, st) => execL (c F) md (lp F) b st | r => r : Option (AExit × St))) (k' := fun (o : Option (AExit × St)) => (match o with | some (.normal, st) => execL c' md lp' b st | r => r : Option (AExit × St))) (execL_cont h hl a st) (fun _ => rfl) rfl fun x => ?_
  obtain ⟨ex, st1⟩ := x
  cases ex with
  | normal => exact execL_cont h hl b st1
  | _ => exact .const _
 | .cond x a b, st => by
  unfold execL
  split
  ·exact execL_cont h hl a st
  ·exact execL_cont h hl b st
  ·exact .const _
 | .block id b, st => by
  refine Cont.app (k := fun F (o : Option (AExit × St)) => (match o with | some (.exit i, st) => if i = id then some (.normal, st) else some (.exit i, st) | r => r : Option (AExit × St))) (k' := fun (o : Option (AExit × St)) => (match o with | some (.exit i, st) => if i = id then some (.normal, st) else some (.exit i, st) | r => r : Option (AExit × St))) (execL_cont h hl b st) (fun _ => rfl) rfl fun x => .const _
 | .loop b, st => hl b st
 | .exit id, st => .const _
 | .ret, st => .const _
 | .ora _, st => .const _
 | .rangeq it x ps a b, st => by
  simp only [execL]
  split
  ·split
   ·refine Cont.app (k := fun _ (o : Option (AExit × ASt)) => o.map fun r => (r.1, { st with s := r.2 })) (k' := fun (o : Option (AExit × ASt)) => o.map fun r => (r.1, { st with s := r.2 })) (rngA_cont (rnd := fun F xs s => if xs.length = ps.length then (match execL (c F) md (lp F) a ⟨setPs st.tm ps xs, [], s⟩ with | some (.normal, st1) => if st1.df.isEmpty then execL (c F) md (lp F) b st1 else none | _ => none) else none) (fun xs s => ?_) 1000000 0 st.s) (fun _ => rfl) rfl fun _ => .const _
    by_cases hl2 : xs.length = ps.length
    ·simp only [if_pos hl2]
     refine Cont.app (k := fun F (o : Option (AExit × St)) => (match o with | some (.normal, st1) => if st1.df.isEmpty then execL (c F) md (lp F) b st1 else none | _ => none : Option (AExit × St))) (k' := fun (o : Option (AExit × St)) => (match o with | some (.normal, st1) => if st1.df.isEmpty then execL c' md lp' b st1 else none | _ => none : Option (AExit × St))) (execL_cont h hl a _) (fun _ => rfl) rfl fun x => ?_
     obtain ⟨ex, st1⟩ := x
     cases ex with
     | normal =>
      simp only
      split
      ·exact execL_cont h hl b st1
      ·exact .const _
     | _ => exact .const _
    ·simp only [if_neg hl2]; exact .const _
   ·exact .const _
  ·exact .const _
theorem loopN_mono (h : OCont c c') : ∀ (F F' : Nat) (G G' : Nat) (b : PC) (st : St) (r : AExit × St), F ≤ F' → G ≤ G' → loopN (c G) md F b st = some r → loopN (c G') md F' b st = some r
 | 0, F', G, G', b, st, r, _, _, e => by simp [loopN] at e
 | F + 1, 0, G, G', b, st, r, hF, _, e => by omega
 | F + 1, F' + 1, G, G', b, st, r, hF, hG, e => by
  have hl : ∀ b st, Cont (fun H => loopN (c (if H = 0 then G else G')) md (if H = 0 then F else F') b st) (loopN (c G') md F' b st) := by
   intro b st
   refine ⟨fun H H' r hH e => ?_, fun H r e => ?_, fun r e => ⟨1, by simpa using e⟩⟩
   ·by_cases h0 : H = 0
    ·subst h0
     simp only [if_true] at e
     by_cases h1 : H' = 0
     ·subst h1; simpa using e
     ·simp only [h1, if_false]; exact loopN_mono h F F' G G' b st r (by omega) hG e
    ·simp only [h0, if_false] at e
     simp only [show H' ≠ 0 by omega, if_false]; exact e
   ·by_cases h0 : H = 0
    ·subst h0
     simp only [if_true] at e
     exact loopN_mono h F F' G G' b st r (by omega) hG e
    ·simpa [h0] using e
  have ho : OCont (fun H => c (if H = 0 then G else G')) (c G') := by
   intro f args s
   refine ⟨fun H H' r hH e => ?_, fun H r e => ?_, fun r e => ⟨1, by simpa using e⟩⟩
   ·by_cases h0 : H = 0
    ·subst h0
     simp only [if_true] at e
     by_cases h1 : H' = 0
     ·subst h1; simpa using e
     ·simp only [h1, if_false]; exact (h f args s).mono G G' r hG e
    ·simp only [h0, if_false] at e
     simp only [show H' ≠ 0 by omega, if_false]; exact e
   ·by_cases h0 : H = 0
    ·subst h0
     simp only [if_true] at e
     exact (h f args s).mono G G' r hG e
    ·simpa [h0] using e
  have hc := execL_cont (md := md) ho hl b st
  simp only [loopN] at e ⊢
  cases h1 : execL (c G) md (loopN (c G) md F) b st with
  | none => rw [h1] at e; simp at e
  | some x =>
   rw [h1] at e
   have h2 := hc.mono 0 1 x (by omega) (by simpa using h1)
   simp only [show (1 : Nat) ≠ 0 by omega, if_false] at h2
   rw [h2]
   obtain ⟨ex, st1⟩ := x
   cases ex with
   | normal => exact loopN_mono h F F' G G' b st1 r (by omega) hG e
   | _ => exact e
noncomputable def loopI (c' : Oracle) (md : FuncId → Md) (b : PC) (st : St) : Option (AExit × St) := lim fun F => loopN c' md F b st
theorem ocont_const (c' : Oracle) : OCont (fun _ => c') c' := fun _ _ _ => .const _
theorem loopI_cont1 (c' : Oracle) (b : PC) (st : St) : Cont (fun F => loopN c' md F b st) (loopI c' md b st) :=
 Cont.lim fun F F' r hF e => loopN_mono (c := fun _ => c') (ocont_const c') F F' 0 0 b st r hF (Nat.le_refl _) e
theorem loopI_cont (h : OCont c c') (b : PC) (st : St) : Cont (fun F => loopN (c F) md F b st) (loopI c' md b st) := by
 have key : ∀ (F : Nat) (b : PC) (st : St), Cont (fun G => loopN (c G) md F b st) (loopN c' md F b st) := by
  intro F
  induction F with
  | zero => intro b st; exact .const _
  | succ F ih =>
   intro b st
   refine Cont.app (k := fun G (o : Option (AExit × St)) => (match o with | some (.normal, st) => loopN (c G) md F b st | r => r : Option (AExit × St))) (k' := fun (o : Option (AExit × St)) => (match o with | some (.normal, st) => loopN c' md F b st | r => r : Option (AExit × St))) (execL_cont h (fun b st => ih b st) b st) (fun _ => rfl) rfl fun x => ?_
   obtain ⟨ex, st1⟩ := x
   cases ex with
   | normal => exact ih b st1
   | _ => exact .const _
 refine ⟨fun F F' r hF e => loopN_mono h F F' F F' b st r hF hF e, fun F r e => (loopI_cont1 c' b st).up F r ((key F b st).up F r e), fun r e => ?_⟩
 obtain ⟨F, hF⟩ := (loopI_cont1 c' b st).fin r e
 obtain ⟨G, hG⟩ := (key F b st).fin r hF
 exact ⟨max F G, loopN_mono h F (max F G) G (max F G) b st r (Nat.le_max_left _ _) (Nat.le_max_right _ _) hG⟩
end
end Go.Proofs.Eng
namespace Go.Proofs.Eng
section
variable {md : FuncId → Md} {c : Nat → Oracle} {c' : Oracle}
theorem stepsR_cont (h : OCont c c') : ∀ (l : List PI) (rc : Rc) (st : St), Cont (fun F => stepsR (c F) md l rc st) (stepsR c' md l rc st)
 | [], rc, st => .const _
 | i :: l, rc, st => by
  have go : Cont (fun F => match stepA (c F) md false i st with
   | some (.normal, st) => stepsR (c F) md l rc st
   | some (r, st) => some (r, rc, st)
   | none => none) (match stepA c' md false i st with
   | some (.normal, st) => stepsR c' md l rc st
   | some (r, st) => some (r, rc, st)
   | none => none) := by
   refine Cont.app (k := fun F (o : Option (AExit × St)) => (match o with | some (.normal, st) => stepsR (c F) md l rc st | some (r, st) => some (r, rc, st) | none => none : Option (AExit × Rc × St))) (k' := fun (o : Option (AExit × St)) => (match o with | some (.normal, st) => stepsR c' md l rc st | some (r, st) => some (r, rc, st) | none => none : Option (AExit × Rc × St))) (stepA_cont h false i st) (fun _ => rfl) rfl fun x => ?_
   obtain ⟨ex, st1⟩ := x
   cases ex with
   | normal => exact stepsR_cont h l rc st1
   | _ => exact .const _
  unfold stepsR
  cases hop : i.op with
  | recov =>
   cases hg : i.g with
   | none =>
    cases rc with
    | can v => exact stepsR_cont h l _ _
    | _ => exact stepsR_cont h l _ _
   | some g => exact go
  | _ => exact go
theorem execR_cont (h : OCont c c') : ∀ (b : PC) (rc : Rc) (st : St), Cont (fun F => execR (c F) md b rc st) (execR c' md b rc st)
 | .skip, rc, st => .const _
 | .reg l, rc, st => stepsR_cont h l rc st
 | .dreg ns l, rc, st => .const _
 | .seq a b, rc, st => by
  refine Cont.app (k := fun F (o : Option (AExit × Rc × St)) => (match o with | some (.normal, rc, st) => execR (c F) md b rc st | r => r : Option (AExit × Rc × St))) (k' := fun (o : Option (AExit × Rc × St)) => (match o with | some (.normal, rc, st) => execR c' md b rc st | r => r : Option (AExit × Rc × St))) (execR_cont h a rc st) (fun _ => rfl) rfl fun x => ?_
  obtain ⟨ex, rc1, st1⟩ := x
  cases ex with
  | normal => exact execR_cont h b rc1 st1
  | _ => exact .const _
 | .cond x a b, rc, st => by
  unfold execR
  split
  ·exact execR_cont h a rc st
  ·exact execR_cont h b rc st
  ·exact .const _
 | .block id b, rc, st => .const _
 | .loop b, rc, st => .const _
 | .exit id, rc, st => .const _
 | .ret, rc, st => .const _
 | .ora _, rc, st => .const _
 | .rangeq .., rc, st => .const _
theorem unwindA_cont (h : OCont c c') (pfs : FuncId → Option PF) : ∀ (ds : List (FuncId × List AV)) (p : Option AV) (s : ASt), Cont (fun F => unwindA (c F) md pfs ds p s) (unwindA c' md pfs ds p s)
 | [], p, s => .const _
 | (f, args) :: ds, p, s => by
  unfold unwindA
  cases pfs f with
  | none => exact .const _
  | some pf =>
   by_cases hq : pf.body.hasQ = true
   ·simp only [if_pos hq]; exact .const _
   simp only [if_neg hq]
   refine Cont.app (k := fun F (o : Option (AExit × Rc × St)) => (match o with | some (.ret, rc, st) => if st.df.isEmpty && (resA st.tm st.s pf.res).isSome then unwindA (c F) md pfs ds (rcEnd rc) st.s else none | some (.normal, rc, st) => if st.df.isEmpty && (resA st.tm st.s pf.res).isSome then unwindA (c F) md pfs ds (rcEnd rc) st.s else none | _ => none : Option (Option AV × ASt))) (k' := fun (o : Option (AExit × Rc × St)) => (match o with | some (.ret, rc, st) => if st.df.isEmpty && (resA st.tm st.s pf.res).isSome then unwindA c' md pfs ds (rcEnd rc) st.s else none | some (.normal, rc, st) => if st.df.isEmpty && (resA st.tm st.s pf.res).isSome then unwindA c' md pfs ds (rcEnd rc) st.s else none | _ => none : Option (Option AV × ASt))) (execR_cont h pf.body (rcOf p) _) (fun _ => rfl) rfl fun x => ?_
   obtain ⟨ex, rc1, st1⟩ := x
   cases ex with
   | normal =>
    simp only
    split
    ·exact unwindA_cont h pfs ds _ _
    ·exact .const _
   | ret =>
    simp only
    split
    ·exact unwindA_cont h pfs ds _ _
    ·exact .const _
   | _ => exact .const _
theorem leaveA_cont (h : OCont c c') (pfs : FuncId → Option PF) (res : List PR) (st : St) (p : Option AV) : Cont (fun F => leaveA (c F) md pfs res st p) (leaveA c' md pfs res st p) := by
 have go : Cont (fun F => match unwindA (c F) md pfs st.df p st.s with
  | some (none, s) => (resA st.tm s res).map fun l => (Outc.ret (oneA l), s)
  | some (some v, s) => some (Outc.pan v, s)
  | none => none) (match unwindA c' md pfs st.df p st.s with
  | some (none, s) => (resA st.tm s res).map fun l => (Outc.ret (oneA l), s)
  | some (some v, s) => some (Outc.pan v, s)
  | none => none) :=
  Cont.app (k := fun F (o : Option (Option AV × ASt)) => (match o with | some (none, s) => (resA st.tm s res).map fun l => (.ret (oneA l), s) | some (some v, s) => some (.pan v, s) | none => none : Option (Outc × ASt))) (k' := fun (o : Option (Option AV × ASt)) => (match o with | some (none, s) => (resA st.tm s res).map fun l => (.ret (oneA l), s) | some (some v, s) => some (.pan v, s) | none => none : Option (Outc × ASt))) (unwindA_cont h pfs st.df p st.s) (fun _ => rfl) rfl fun x => .const _
 unfold leaveA
 cases hd : st.df with
 | nil => cases p <;> exact .const _
 | cons d ds => rw [hd] at go; exact go
noncomputable def bodyI (call : Oracle) (md : FuncId → Md) (pfs : FuncId → Option PF) (pf : PF) (args : List AV) (s : ASt) : Option (Outc × ASt) :=
 match execL call md (loopI call md) pf.body { tm := args ++ List.replicate (pf.nt - args.length) .undef, df := [], s } with
 | some (.ret, st) => if (pf.body.hasQ && !st.df.isEmpty) = true then none else leaveA call md pfs pf.res st none
 | some (.normal, st) => if (pf.body.hasQ && !st.df.isEmpty) = true then none else leaveA call md pfs pf.res st none
 | some (.pan v, st) => if (pf.body.hasQ && !st.df.isEmpty) = true then none else leaveA call md pfs pf.res st (some v)
 | _ => none
theorem bodyA_cont (h : OCont c c') (pfs : FuncId → Option PF) (pf : PF) (args : List AV) (s : ASt) : Cont (fun F => bodyA (c F) md pfs F pf args s) (bodyI c' md pfs pf args s) := by
 unfold bodyA bodyI exec
 refine Cont.app (k := fun F (o : Option (AExit × St)) => (match o with | some (.ret, st) => if (pf.body.hasQ && !st.df.isEmpty) = true then none else leaveA (c F) md pfs pf.res st none | some (.normal, st) => if (pf.body.hasQ && !st.df.isEmpty) = true then none else leaveA (c F) md pfs pf.res st none | some (.pan v, st) => if (pf.body.hasQ && !st.df.isEmpty) = true then none else leaveA (c F) md pfs pf.res st (some v) | _ => none : Option (Outc × ASt))) (k' := fun (o : Option (AExit × St)) => (match o with | some (.ret, st) => if (pf.body.hasQ && !st.df.isEmpty) = true then none else leaveA c' md pfs pf.res st none | some (.normal, st) => if (pf.body.hasQ && !st.df.isEmpty) = true then none else leaveA c' md pfs pf.res st none | some (.pan v, st) => if (pf.body.hasQ && !st.df.isEmpty) = true then none else leaveA c' md pfs pf.res st (some v) | _ => none : Option (Outc × ASt))) (execL_cont h (fun b st => loopI_cont h b st) pf.body _) (fun _ => rfl) rfl fun x => ?_
 obtain ⟨ex, st1⟩ := x
 by_cases hg : (pf.body.hasQ && !st1.df.isEmpty) = true
 ·cases ex <;> simp only [if_pos hg] <;> exact .const _
 ·cases ex with
  | normal => simp only [if_neg hg]; exact leaveA_cont h pfs _ _ _
  | ret => simp only [if_neg hg]; exact leaveA_cont h pfs _ _ _
  | pan v => simp only [if_neg hg]; exact leaveA_cont h pfs _ _ _
  | exit i => exact .const _
theorem two_chain {c1 c2 : Oracle} (h : ∀ f args s r, c1 f args s = some r → c2 f args s = some r) : OCont (fun H => if H = 0 then c1 else c2) c2 := by
 intro f args s
 refine ⟨fun H H' r hH e => ?_, fun H r e => ?_, fun r e => ⟨1, by simpa using e⟩⟩
 ·by_cases h0 : H = 0
  ·subst h0
   simp only [if_true] at e
   by_cases h1 : H' = 0
   ·subst h1; simpa using e
   ·simp only [h1, if_false]; exact h _ _ _ _ e
  ·simp only [h0, if_false] at e
   simp only [show H' ≠ 0 by omega, if_false]; exact e
 ·by_cases h0 : H = 0
  ·subst h0
   simp only [if_true] at e
   exact h _ _ _ _ e
  ·simpa [h0] using e
theorem bodyA_mono {c1 c2 : Oracle} (h : ∀ f args s r, c1 f args s = some r → c2 f args s = some r) {pfs : FuncId → Option PF} {F F' : Nat} (hF : F ≤ F') {pf : PF} {args : List AV} {s : ASt} {r : Outc × ASt} (e : bodyA c1 md pfs F pf args s = some r) : bodyA c2 md pfs F' pf args s = some r := by
 have hl : ∀ b st, Cont (fun H => loopN (if H = 0 then c1 else c2) md (if H = 0 then F else F') b st) (loopN c2 md F' b st) := by
  intro b st
  refine ⟨fun H H' r hH e => ?_, fun H r e => ?_, fun r e => ⟨1, by simpa using e⟩⟩
  ·by_cases h0 : H = 0
   ·subst h0
    simp only [if_true] at e
    by_cases h1 : H' = 0
    ·subst h1; simpa using e
    ·simp only [h1, if_false]
     have := loopN_mono (md := md) (two_chain h) F F' 0 1 b st r hF (by omega) (by simpa using e)
     simpa using this
   ·simp only [h0, if_false] at e
    simp only [show H' ≠ 0 by omega, if_false]; exact e
  ·by_cases h0 : H = 0
   ·subst h0
    simp only [if_true] at e
    have := loopN_mono (md := md) (two_chain h) F F' 0 1 b st r hF (by omega) (by simpa using e)
    simpa using this
   ·simpa [h0] using e
 have hc := execL_cont (md := md) (two_chain h) hl pf.body { tm := args ++ List.replicate (pf.nt - args.length) .undef, df := [], s }
 unfold bodyA exec at e ⊢
 cases h1 : execL c1 md (loopN c1 md F) pf.body { tm := args ++ List.replicate (pf.nt - args.length) .undef, df := [], s } with
 | none => rw [h1] at e; simp at e
 | some x =>
  rw [h1] at e
  have h2 := hc.mono 0 1 x (by omega) (by simpa using h1)
  simp only [show (1 : Nat) ≠ 0 by omega, if_false] at h2
  rw [h2]
  obtain ⟨ex, st1⟩ := x
  have hv : ∀ p, leaveA c1 md pfs pf.res st1 p = some r → leaveA c2 md pfs pf.res st1 p = some r := by
   intro p e
   have := (leaveA_cont (md := md) (two_chain h) pfs pf.res st1 p).mono 0 1 r (by omega) (by simpa using e)
   simpa using this
  by_cases hg : (pf.body.hasQ && !st1.df.isEmpty) = true
  ·cases ex <;> simp only [if_pos hg] at e <;> simp at e
  ·cases ex with
   | normal => simp only [if_neg hg] at e ⊢; exact hv _ e
   | ret => simp only [if_neg hg] at e ⊢; exact hv _ e
   | pan v => simp only [if_neg hg] at e ⊢; exact hv _ e
   | exit i => simp at e
theorem callN_mono {pfs : FuncId → Option PF} : ∀ (F F' : Nat), F ≤ F' → ∀ f args s r, callN md pfs F f args s = some r → callN md pfs F' f args s = some r
 | 0, F', _, f, args, s, r, e => by simp [callN] at e
 | F + 1, 0, h, f, args, s, r, e => by omega
 | F + 1, F' + 1, h, f, args, s, r, e => by
  simp only [callN] at e ⊢
  cases hp : pfs f with
  | none => rw [hp] at e; simp at e
  | some pf =>
   rw [hp] at e
   simp only at e ⊢
   cases ho : pf.body.ora? with
   | some o => rw [ho] at e; exact e
   | none =>
   rw [ho] at e
   exact bodyA_mono (fun f args s r e => callN_mono F F' (by omega) f args s r e) (by omega) e
noncomputable def run (md : FuncId → Md) (pfs : FuncId → Option PF) : Oracle := fun f args s => lim fun F => callN md pfs F f args s
theorem run_cont (pfs : FuncId → Option PF) : OCont (callN md pfs) (run md pfs) := fun f args s => Cont.lim fun F F' r hF e => callN_mono F F' hF f args s r e
theorem run_of {pfs : FuncId → Option PF} {F : Nat} {f : FuncId} {args : List AV} {s : ASt} {r : Outc × ASt} (h : callN md pfs F f args s = some r) : run md pfs f args s = some r := (run_cont pfs f args s).up F r h
theorem run_eq {pfs : FuncId → Option PF} {f : FuncId} {pf : PF} (hp : pfs f = some pf) (ho : pf.body.ora? = none) (args : List AV) (s : ASt) : run md pfs f args s = bodyI (run md pfs) md pfs pf args s := by
 refine Cont.uniq (run_cont pfs f args s) (Cont.shift ?_ rfl)
 have := bodyA_cont (md := md) (run_cont (md := md) pfs) pfs pf args s
 refine ⟨fun F F' r hF e => ?_, fun F r e => ?_, fun r e => ?_⟩
 ·simp only [callN, hp, ho] at e ⊢; exact this.mono F F' r hF e
 ·simp only [callN, hp, ho] at e; exact this.up F r e
 ·obtain ⟨F, hF⟩ := this.fin r e; exact ⟨F, by simp only [callN, hp, ho]; exact hF⟩
theorem run_ora {pfs : FuncId → Option PF} {f : FuncId} {pf : PF} {o : List AV → ASt → Option (AV × ASt)} (hp : pfs f = some pf) (ho : pf.body.ora? = some o) {args : List AV} {v : AV} {s s' : ASt} (hv : o args s = some (v, s')) : run md pfs f args s = some (.ret v, s') :=
 run_of (F := 1) (by simp only [callN, hp, ho, hv]; rfl)
theorem loopI_eq (call : Oracle) (b : PC) (st : St) : loopI call md b st = match execL call md (loopI call md) b st with
  | some (.normal, st) => loopI call md b st
  | r => r := by
 refine Cont.uniq (loopI_cont1 call b st) (Cont.shift ?_ rfl)
 refine Cont.app (k := fun F (o : Option (AExit × St)) => (match o with | some (.normal, st) => loopN call md F b st | r => r : Option (AExit × St))) (k' := fun (o : Option (AExit × St)) => (match o with | some (.normal, st) => loopI call md b st | r => r : Option (AExit × St))) (execL_cont (c := fun _ => call) (md := md) (ocont_const call) (fun b st => loopI_cont1 call b st) b st) (fun _ => rfl) rfl fun x => ?_
 obtain ⟨ex, st1⟩ := x
 cases ex with
 | normal => exact loopI_cont1 call b st1
 | _ => exact .const _
end
end Go.Proofs.Eng
namespace Go.Proofs.Eng
open Go.ChangeShapes Go.WideShapes Go.ChangeAt Go.RowKit
variable [DrK]
section
variable {P : Program} {md : FuncId → Md} {pfs : FuncId → Option PF}
theorem run_sound (hm : P.follows .mixedOrders = true) (hP : PfsOK P pfs) : Sound P (run md pfs) := fun f args s out s' h => by
 obtain ⟨F, hF⟩ := (run_cont pfs f args s).fin _ h
 exact engine_sound hm hP F f args s out s' hF
theorem law_calls (hm : P.follows .mixedOrders = true) (hP : PfsOK P pfs) {f : FuncId} {l : List AV} {s' : ASt} {x : Value} (h : run md pfs f l ⟨[], []⟩ = some (.ret (.v x), s')) {w : World} (hk : Kn w) {vs : List Value} (hr : RepL (Gh.empty fun _ _ => False) ⟨[], []⟩ w l vs) :
  Calls P f vs.toArray w fun e w' => e = .returned x ∧ Below w.heap.size w w' := by
 obtain ⟨_, hc⟩ := run_sound hm hP _ _ _ _ _ h
 refine (hc _ w vs (Inv.empty hk (fun _ _ h => h.elim)) hr).mono fun e w' ⟨g', hI, hE, hO⟩ => ?_
 cases e with
 | returned u =>
  have hO' : Rep g' s' w' (.v x) u := hO
  exact ⟨by rw [hO'.v_inv], hE.os, hE.tape, hE.output.1, hE.size, fun k hk => (hE.obj k hk (by simp [Gh.has, Gh.empty])).1⟩
 | _ => exact hO.elim
variable {H : Type} {enc : TypeId × Value → H}
theorem below_trodAll (hl : laidOutB P = true) {W W' : World} (hb : Below W.heap.size W W') : ∀ {ts : List TypeId} {vs : List Value} {ds : List (DataW H)} {p : List MemPlace}, (∀ t ∈ ts, P.readableRec t = true ∧ t < P.types.size) → (∀ x ∈ p, x.block < W.heap.size) → DataW.TrodAll enc P W 0 (fun _ => true) true ts vs ds p → DataW.TrodAll enc P W' 0 (fun b => decide (b < W.heap.size)) true ts vs ds p
 | [], [], [], _, _, _, h => h
 | [], _ :: _, _, _, _, _, h => h.elim
 | [], [], _ :: _, _, _, _, h => h.elim
 | _ :: _, [], _, _, _, _, h => h.elim
 | _ :: _, _ :: _, [], _, _, _, h => h.elim
 | t :: ts, v :: vs, d :: ds, _, ht, hp, ⟨p, q, h1, h2, e⟩ => by
  subst e
  exact ⟨p, q, Below.trod hl (ht t (by simp)).1 (ht t (by simp)).2 h1 hb (fun x hx => hp x (by simp [hx])), below_trodAll hl hb (fun t h => ht t (by simp [h])) (fun x hx => hp x (by simp [hx])) h2, rfl⟩
theorem post_true {f : Func} {s : ChangeSpec} {W W' : World} {args : Array Value} {ds gs : List (DataW H)} {before : List MemPlace} {tb : TypeId}
  (hW : DataW.Whole enc P f.params.toList s.vars false W args.toList ds gs before) (hb : Below W.heap.size W W') (hl : laidOutB P = true)
  (hpar : (f.params.toList.all fun t => P.readableRec t && decide (t < P.types.size)) = true) (hvars : varsRowed P s.vars = true)
  (hres : f.resultTypes = #[tb]) (htb : P.underlying tb = some .bool)
  (hr : (s.fn H (ds ++ gs)).results = [.lit (.bool true)]) (ha : (s.fn H (ds ++ gs)).args = ds) (hv : (s.fn H (ds ++ gs)).vars = gs) :
  s.post enc P f false true false false W args (.bool true) W' := by
 have hlt := hW.lt
 obtain ⟨p, q, hA, hV, hpq, hfz, hnd⟩ := hW
 have hp : ∀ x ∈ p, x.block < W.heap.size := fun x hx => by simpa using hlt x (by rw [hpq]; simp [hx])
 refine ⟨ds, gs, before, [], p, q, ⟨p, q, hA, hV, hpq, hfz, hnd⟩, ?_, ?_, ?_, hb.frame _, fun h => by cases h⟩
 ·rw [hr, hres]
  refine ⟨[], [], ⟨1, ?_⟩, rfl, rfl⟩
  simp [Value.cells, DataW.trod, htb, Value.resultList]
 ·rw [ha]
  refine below_trodAll hl hb (fun t ht => ?_) hp hA
  have := (List.all_eq_true.1 hpar) t ht
  simpa using this
 ·rw [hv]
  exact Below.trodVars hl hb hvars hV
end
end Go.Proofs.Eng
namespace Go.Proofs.Eng
open Go.ChangeShapes Go.WideShapes Go.ChangeAt Go.RowKit
def mkE (ag : Bool) (x : List AV) : AV := if ag then .agg x else x.headD .unk
def isAgg (P : Program) (t : TypeId) : Bool := match P.underlying t with
 | some (.struct _) | some (.array _ _) => true
 | _ => false
def tilesB (P : Program) : Nat → List Field → Nat → Bool
 | off, [], total => off == total
 | off, f :: fs, total => f.offset == off && tilesB P (off + P.cellsOf f.type) fs total
def AV.noAgg : AV → Bool
 | .agg _ => false
 | _ => true
def OfLen (l : List AV) : Prop := ∀ a ∈ l, a = .unk
def OfT (P : Program) : Nat → TypeId → List AV → Prop
 | 0, _, _ => False
 | n + 1, t, l =>
  match P.underlying t with
  | some .bool => ∃ b, l = [.bool b]
  | some (.int k) => ∃ i, l = [.v (.int k i)] ∧ (Lit.int k i).wf = true
  | some .string => ∃ s : ByteArray, l = [.str s] ∧ s.size ≤ maxLen
  | some (.slice e) => if 0 < P.cellsOf e then ∃ (xs : List (List AV)) (tl : Tl), l = [.sl (xs.map (mkE (isAgg P e))) tl] ∧ (tl = .al ∨ tl = .nil ∧ xs = []) ∧ xs.length ≤ maxLen ∧ ∀ x ∈ xs, OfT P n e x else l = [.unk]
  | some (.struct fs) => if tilesB P 0 fs.toList (P.cellsOf t) then ∃ xs : List (List AV), l = xs.flatten ∧ xs.length = fs.toList.length ∧ ∀ (i : Nat) (f : Field) (x : List AV), fs.toList[i]? = some f → xs[i]? = some x → OfT P n f.type x else OfLen l
  | some (.array k e) => if P.cellsOf t = k * P.cellsOf e then ∃ xs : List (List AV), l = xs.flatten ∧ xs.length = k ∧ ∀ x ∈ xs, OfT P n e x else OfLen l
  | _ => OfLen l
section
variable {P : Program} {H : Type} {enc : TypeId × Value → H} {w : World} {base : Nat} {spare : Nat → Bool} {held : Bool}
abbrev G0 : Gh := Gh.empty fun _ _ => False
theorem sealed0 {b o : Nat} {c : Value} (h : w.cell? ⟨b, o, none⟩ = some c) : Sealed G0 ⟨[], []⟩ w b o c := ⟨h, by simp [Gh.wr, Gh.empty]⟩
theorem repL_unk (cs : List Value) : RepL G0 ⟨[], []⟩ w (cs.map fun _ => .unk) cs := by
 refine ⟨by simp, fun k a c h1 h2 => ?_⟩
 rw [List.getElem?_map, h2] at h1
 cases h1
 exact .unk _
theorem repL_app {l l' : List AV} {cs cs' : List Value} (h : RepL G0 ⟨[], []⟩ w l cs) (h' : RepL G0 ⟨[], []⟩ w l' cs') : RepL G0 ⟨[], []⟩ w (l ++ l') (cs ++ cs') := by
 refine ⟨by simp [h.1, h'.1], fun k a c h1 h2 => ?_⟩
 rcases Nat.lt_or_ge k l.length with hk | hk
 ·rw [List.getElem?_append_left hk] at h1
  rw [List.getElem?_append_left (by rw [← h.1]; exact hk)] at h2
  exact h.2 k a c h1 h2
 ·rw [List.getElem?_append_right hk] at h1
  rw [List.getElem?_append_right (by rw [← h.1]; exact hk), ← h.1] at h2
  exact h'.2 _ a c h1 h2
theorem repL_flatten : ∀ (xs : List (List AV)) (cs : List (List Value)), xs.length = cs.length → (∀ (i : Nat) (x : List AV) (c : List Value), xs[i]? = some x → cs[i]? = some c → RepL G0 ⟨[], []⟩ w x c) → RepL G0 ⟨[], []⟩ w xs.flatten cs.flatten
 | [], [], _, _ => ⟨rfl, fun k a c h => by simp at h⟩
 | [], _ :: _, h, _ => by simp at h
 | _ :: _, [], h, _ => by simp at h
 | x :: xs, c :: cs, h, hr => by
  rw [List.flatten_cons, List.flatten_cons]
  exact repL_app (hr 0 x c rfl rfl) (repL_flatten xs cs (by simpa using h) fun i y d h1 h2 => hr (i + 1) y d (by simpa using h1) (by simpa using h2))
theorem tiles_flatten : ∀ (fs : List Field) (off : Nat) (cs : List Value), tilesB P off fs cs.length = true → (fs.map fun f => (cs.drop f.offset).take (P.cellsOf f.type)).flatten = cs.drop off
 | [], off, cs, h => by
  simp only [tilesB, beq_iff_eq] at h
  simp [h]
 | f :: fs, off, cs, h => by
  simp only [tilesB, Bool.and_eq_true, beq_iff_eq] at h
  rw [List.map_cons, List.flatten_cons, tiles_flatten fs _ cs h.2, h.1]
  have := List.take_append_drop (P.cellsOf f.type) (cs.drop off)
  rw [List.drop_drop] at this
  exact this
theorem array_flatten (c : Nat) : ∀ (n k : Nat) (cs : List Value), cs.length = (k + n) * c → ((List.range' k n).map fun i => (cs.drop (i * c)).take c).flatten = cs.drop (k * c)
 | 0, k, cs, h => by simp [h]
 | n + 1, k, cs, h => by
  rw [List.range'_succ, List.map_cons, List.flatten_cons, array_flatten c n (k + 1) cs (by rw [h]; congr 1; omega)]
  have := List.take_append_drop c (cs.drop (k * c))
  rw [List.drop_drop, show k * c + c = (k + 1) * c by rw [Nat.add_mul]; simp] at this
  exact this
theorem mapM_get {α β : Type} {f : α → Option β} : ∀ {l : List α} {r : List β}, l.mapM f = some r → r.length = l.length ∧ ∀ (i : Nat) (x : α), l[i]? = some x → f x = r[i]?
 | l, r, h => ⟨mapM_some_length h, fun i x hx => mapM_some_get h i x hx⟩
theorem choose_list {α β : Type} {R : Nat → α → β → Prop} : ∀ (l : List α), (∀ (i : Nat) (x : α), l[i]? = some x → ∃ y, R i x y) → ∃ ys : List β, ys.length = l.length ∧ ∀ (i : Nat) (x : α) (y : β), l[i]? = some x → ys[i]? = some y → R i x y
 | [], _ => ⟨[], rfl, fun i x y h => by simp at h⟩
 | a :: l, h => by
  obtain ⟨y, hy⟩ := h 0 a rfl
  obtain ⟨ys, h1, h2⟩ := choose_list (R := fun i => R (i + 1)) l fun i x hx => h (i + 1) x (by simpa using hx)
  refine ⟨y :: ys, by simp [h1], fun i x z hx hz => ?_⟩
  cases i with
  | zero => simp at hx hz; subst hx; subst hz; exact hy
  | succ i => exact h2 i x z (by simpa using hx) (by simpa using hz)
end
end Go.Proofs.Eng
namespace Go.Proofs.Eng
open Go.ChangeShapes Go.WideShapes Go.ChangeAt Go.RowKit
instance drF : DrK := ⟨False⟩
section
variable {P : Program} {H : Type} {enc : TypeId × Value → H} {w : World} {base : Nat} {spare : Nat → Bool} {held : Bool}
def Arg (P : Program) (w : World) (n : Nat) (t : TypeId) (cs : List Value) : Prop := ∃ l, RepL G0 ⟨[], []⟩ w l cs ∧ OfT P n t l ∧ (isAgg P t = false → ∃ a, l = [a] ∧ a.noAgg = true)
theorem arg_unk {n : Nat} {t : TypeId} {c : Value} (h : OfT P (n + 1) t [.unk]) : Arg P w (n + 1) t [c] :=
 ⟨[.unk], RepL.one (.unk c), h, fun _ => ⟨.unk, rfl, rfl⟩⟩
theorem cells_get {a : Addr} {n : Nat} {cs : List Value} (h : w.cells? base a n = some cs) : cs.length = n ∧ ∀ (i : Nat) (c : Value), cs[i]? = some c → w.cell? (a.add i) = some c := by
 unfold World.cells? at h
 split at h
 ·obtain ⟨h1, h2⟩ := mapM_get h
  rw [List.length_range] at h1
  refine ⟨h1, fun i c hc => ?_⟩
  have hlt : i < n := by rw [← h1]; exact (List.getElem?_eq_some_iff.1 hc).1
  rw [h2 i i (List.getElem?_range hlt)]
  exact hc
 ·cases h
theorem cell_spot {a : Addr} {c : Value} (h : w.cell? a = some c) : a.spot = none := by
 unfold World.cell? at h
 split at h
 ·split at h
  ·cases h
  ·rename_i h1; simpa using h1
 ·cases h
theorem mkE_cells {ag : Bool} {x : List AV} (h : ag = false → ∃ a, x = [a] ∧ a.noAgg = true) : (mkE ag x).cells = x := by
 unfold mkE
 cases ag with
 | true => rfl
 | false =>
  obtain ⟨a, rfl, ha⟩ := h rfl
  cases a <;> first | rfl | (simp [AV.noAgg] at ha)
theorem flat_mkE {ag : Bool} : ∀ {xs : List (List AV)}, (∀ x ∈ xs, ag = false → ∃ a, x = [a] ∧ a.noAgg = true) → flat (xs.map (mkE ag)) = xs.flatten
 | [], _ => rfl
 | x :: xs, h => by
  have := flat_mkE (ag := ag) (xs := xs) fun y hy => h y (by simp [hy])
  unfold flat at this ⊢
  rw [List.map_cons, List.flatMap_cons, List.flatten_cons, this, mkE_cells (h x (by simp))]
theorem slice_rep {n : Nat} {e : TypeId} {a : Addr} {len cap : Nat} (hc : 0 < P.cellsOf e) (hl : len ≤ cap) (xs : List (List AV)) (cs : List (List Value)) (h1 : xs.length = len) (h2 : cs.length = len)
  (h : ∀ (i : Nat) (x : List AV) (c : List Value), xs[i]? = some x → cs[i]? = some c → w.cells? base (a.add (i * P.cellsOf e)) (P.cellsOf e) = some c ∧ RepL G0 ⟨[], []⟩ w x c ∧ (isAgg P e = false → ∃ a, x = [a] ∧ a.noAgg = true)) :
  Rep G0 ⟨[], []⟩ w (.sl (xs.map (mkE (isAgg P e))) .al) (.slice (some a) len cap) := by
 have hget : ∀ i, i < len → ∃ x c, xs[i]? = some x ∧ cs[i]? = some c := fun i hi => ⟨xs[i], cs[i], List.getElem?_eq_getElem _, List.getElem?_eq_getElem _⟩
 have hflat : flat (xs.map (mkE (isAgg P e))) = xs.flatten := flat_mkE fun x hx => by
  obtain ⟨i, hi⟩ := List.getElem?_of_mem hx
  obtain ⟨_, c, _, hc'⟩ := hget i (by rw [← h1]; exact (List.getElem?_eq_some_iff.1 hi).1)
  exact (h i x c hi hc').2.2
 have hrep := repL_flatten (w := w) xs cs (by rw [h1, h2]) fun i x c hx hc' => (h i x c hx hc').2.1
 have hlen : ∀ (i : Nat) (c : List Value), cs[i]? = some c → c.length = P.cellsOf e := fun i c hc' => by
  obtain ⟨x, _, hx, _⟩ := hget i (by rw [← h2]; exact (List.getElem?_eq_some_iff.1 hc').1)
  exact (cells_get (h i x c hx hc').1).1
 have hspot : 0 < len → a.spot = none := fun h0 => by
  obtain ⟨x, c, hx, hc'⟩ := hget 0 h0
  have hcl := cells_get (h 0 x c hx hc').1
  have hlt : 0 < c.length := by rw [hcl.1]; exact hc
  have := hcl.2 0 c[0] (List.getElem?_eq_getElem hlt)
  simpa [Addr.add] using cell_spot this
 have hcell : ∀ (k : Nat) (c : Value), cs.flatten[k]? = some c → w.cell? ⟨a.block, a.off + k, none⟩ = some c := by
  have key : ∀ (l : List (List Value)) (i0 : Nat), (∀ (i : Nat) (c : List Value), l[i]? = some c → c.length = P.cellsOf e ∧ ∀ (j : Nat) (y : Value), c[j]? = some y → w.cell? ⟨a.block, a.off + ((i0 + i) * P.cellsOf e + j), none⟩ = some y) → ∀ (k : Nat) (y : Value), l.flatten[k]? = some y → w.cell? ⟨a.block, a.off + (i0 * P.cellsOf e + k), none⟩ = some y := by
   intro l
   induction l with
   | nil => intro i0 _ k y hk; simp at hk
   | cons c l ih =>
    intro i0 hl k y hk
    obtain ⟨h3, h4⟩ := hl 0 c rfl
    rw [List.flatten_cons] at hk
    rcases Nat.lt_or_ge k c.length with hkl | hkl
    ·rw [List.getElem?_append_left hkl] at hk
     exact h4 k y hk
    ·rw [List.getElem?_append_right hkl] at hk
     have := ih (i0 + 1) (fun i c' hc' => by
      have := hl (i + 1) c' (by simpa using hc')
      rw [show i0 + (i + 1) = i0 + 1 + i by omega] at this
      exact this) _ y hk
     rw [show i0 * P.cellsOf e + k = (i0 + 1) * P.cellsOf e + (k - c.length) by rw [Nat.add_mul, h3]; omega]
     exact this
  intro k c hk
  have := key cs 0 (fun i c' hc' => ⟨hlen i c' hc', fun j y hy => by
   have hi : i < len := by rw [← h2]; exact (List.getElem?_eq_some_iff.1 hc').1
   obtain ⟨x, _, hx, _⟩ := hget i hi
   have hcl := (cells_get (h i x c' hx hc').1).2 j y hy
   have hs := hspot (by omega)
   rw [Nat.zero_add]
   have : (a.add (i * P.cellsOf e)).add j = ⟨a.block, a.off + (i * P.cellsOf e + j), none⟩ := by
    unfold Addr.add
    obtain ⟨b, o, sp⟩ := a
    simp only at hs
    subst hs
    by_cases e1 : i * P.cellsOf e = 0 <;> by_cases e2 : j = 0 <;> simp [e1, e2, Nat.add_assoc]
   rw [this] at hcl
   exact hcl⟩) k c hk
  simpa using this
 refine .sl (b := a.block) (o := a.off) cs.flatten (by rw [hflat]; exact hrep.1) (fun k x c hx hc' => hrep.2 k x c (by rw [← hflat]; exact hx) hc') (fun k c hc' => sealed0 (hcell k c hc')) (fun hne => ?_) (by simp [h1]) hl (fun _ ad _ o => by simp [Gh.wr, Gh.empty])
 have h0 : 0 < len := by
  rw [← h1]
  cases xs with
  | nil => simp at hne
  | cons _ _ => simp
 have := hspot h0
 obtain ⟨b, o, sp⟩ := a
 simp only at this
 subst this
 rfl
set_option maxHeartbeats 1000000 in
theorem trod_rep : ∀ (fuel : Nat) (t : TypeId) (cs : List Value) (d : DataW H) (ps : List MemPlace), DataW.trod enc P w base spare held fuel t cs = some (d, ps) → Arg P w fuel t cs
 | 0, t, cs, d, ps, h => by simp [DataW.trod] at h
 | fuel + 1, t, cs, d, ps, h => by
  unfold DataW.trod at h
  split at h
  ·rename_i hT
   exact ⟨[_], RepL.one (.v rfl), by simp [OfT, hT], fun _ => ⟨_, rfl, rfl⟩⟩
  ·rename_i k k' n hT
   split at h
   ·rename_i hk
    obtain ⟨rfl, hwf⟩ := hk
    exact ⟨[.v (.int k' n)], RepL.one (.v rfl), by simp [OfT, hT, hwf], fun _ => ⟨_, rfl, rfl⟩⟩
   ·cases h
  ·rename_i hT; exact arg_unk (by simp [OfT, hT, OfLen])
  ·rename_i s hT
   split at h
   ·rename_i hs
    exact ⟨[.v (.string s)], RepL.one (.v rfl), by simp only [OfT, hT]; exact ⟨s, rfl, hs⟩, fun _ => ⟨_, rfl, rfl⟩⟩
   ·cases h
  ·rename_i hT; exact arg_unk (by simp [OfT, hT, OfLen])
  ·rename_i hT; exact arg_unk (by simp [OfT, hT, OfLen])
  ·rename_i e hT
   by_cases hc : 0 < P.cellsOf e
   ·refine ⟨[.sl [] .nil], RepL.one (.sl (b := 0) (o := 0) [] rfl (fun k a c h => by simp [flat] at h) (fun k c h => by simp at h) (fun h => absurd rfl h) rfl (Nat.le_refl _) ⟨rfl, rfl, rfl⟩), ?_, fun _ => ⟨_, rfl, rfl⟩⟩
    simp only [OfT, hT, if_pos hc]
    exact ⟨[], .nil, rfl, .inr ⟨rfl, rfl⟩, by simp, by simp⟩
   ·exact arg_unk (by simp only [OfT, hT, if_neg hc])
  ·rename_i e a len cap hT
   by_cases hc : 0 < P.cellsOf e
   ·simp only at h
    split at h
    ·rename_i hcap
     cases hm : (List.range len).mapM fun i => (w.cells? base (a.add (i * P.cellsOf e)) (P.cellsOf e)).bind (DataW.trod enc P w base spare held fuel e) with
     | none => rw [hm] at h; simp at h
     | some r =>
      obtain ⟨h1, h2⟩ := mapM_get hm
      rw [List.length_range] at h1
      have hex : ∀ (i x : Nat), (List.range len)[i]? = some x → ∃ y : List AV × List Value, w.cells? base (a.add (i * P.cellsOf e)) (P.cellsOf e) = some y.2 ∧ RepL G0 ⟨[], []⟩ w y.1 y.2 ∧ OfT P fuel e y.1 ∧ (isAgg P e = false → ∃ a, y.1 = [a] ∧ a.noAgg = true) := by
       intro i x hx
       have hlt : i < len := by simpa using (List.getElem?_eq_some_iff.1 hx).1
       have hxi : x = i := by rw [List.getElem?_range hlt] at hx; exact (Option.some.inj hx).symm
       subst hxi
       have h3 := h2 x x hx
       cases h4 : w.cells? base (a.add (x * P.cellsOf e)) (P.cellsOf e) with
       | none =>
        rw [h4] at h3
        have : x < r.length := by omega
        rw [List.getElem?_eq_getElem this] at h3; cases h3
       | some c =>
        rw [h4] at h3
        have hlt' : x < r.length := by omega
        rw [List.getElem?_eq_getElem hlt'] at h3
        obtain ⟨l, q1, q2, q3⟩ := trod_rep fuel e c r[x].1 r[x].2 h3
        exact ⟨(l, c), rfl, q1, q2, q3⟩
      obtain ⟨ys, y1, y2⟩ := choose_list (R := fun i _ (y : List AV × List Value) => w.cells? base (a.add (i * P.cellsOf e)) (P.cellsOf e) = some y.2 ∧ RepL G0 ⟨[], []⟩ w y.1 y.2 ∧ OfT P fuel e y.1 ∧ (isAgg P e = false → ∃ a, y.1 = [a] ∧ a.noAgg = true)) (List.range len) hex
      rw [List.length_range] at y1
      have hy : ∀ (i : Nat) (y : List AV × List Value), ys[i]? = some y → w.cells? base (a.add (i * P.cellsOf e)) (P.cellsOf e) = some y.2 ∧ RepL G0 ⟨[], []⟩ w y.1 y.2 ∧ OfT P fuel e y.1 ∧ (isAgg P e = false → ∃ a, y.1 = [a] ∧ a.noAgg = true) := fun i y hy => y2 i i y (List.getElem?_range (by rw [← y1]; exact (List.getElem?_eq_some_iff.1 hy).1)) hy
      refine ⟨[.sl ((ys.map (·.1)).map (mkE (isAgg P e))) .al], RepL.one (slice_rep (base := base) (n := fuel) hc hcap.2.1 (ys.map (·.1)) (ys.map (·.2)) (by simp [y1]) (by simp [y1]) fun i x c hx hc' => ?_), ?_, fun _ => ⟨_, rfl, rfl⟩⟩
      ·rw [List.getElem?_map] at hx hc'
       cases hyi : ys[i]? with
       | none => rw [hyi] at hx; simp at hx
       | some y =>
        rw [hyi] at hx hc'
        simp only [Option.map_some, Option.some.injEq] at hx hc'
        subst hx; subst hc'
        obtain ⟨z1, z2, z3, z4⟩ := hy i y hyi
        exact ⟨z1, z2, z4⟩
      ·simp only [OfT, hT, if_pos hc]
       refine ⟨ys.map (·.1), .al, rfl, .inl rfl, by simp only [List.length_map, y1]; omega, fun x hx => ?_⟩
       obtain ⟨y, hy1, rfl⟩ := List.mem_map.1 hx
       obtain ⟨i, hi⟩ := List.getElem?_of_mem hy1
       exact (hy i y hi).2.2.1
    ·cases h
   ·exact arg_unk (by simp only [OfT, hT, if_neg hc])
  ·rename_i cs _ _ fs hT
   split at h
   ·rename_i hlen
    by_cases hc : tilesB P 0 fs.toList (P.cellsOf t) = true
    ·cases hm : fs.toList.mapM fun f => DataW.trod enc P w base spare held fuel f.type ((cs.drop f.offset).take (P.cellsOf f.type)) with
     | none => rw [hm] at h; simp at h
     | some r =>
      obtain ⟨h1, h2⟩ := mapM_get hm
      obtain ⟨ys, y1, y2⟩ := choose_list (R := fun _ (f : Field) (y : List AV) => RepL G0 ⟨[], []⟩ w y ((cs.drop f.offset).take (P.cellsOf f.type)) ∧ OfT P fuel f.type y) fs.toList (fun i f hf => by
       have h3 := h2 i f hf
       have hlt' : i < r.length := by rw [h1]; exact (List.getElem?_eq_some_iff.1 hf).1
       rw [List.getElem?_eq_getElem hlt'] at h3
       obtain ⟨l, q1, q2, q3⟩ := trod_rep fuel f.type _ r[i].1 r[i].2 h3
       exact ⟨l, q1, q2⟩)
      have hrep := repL_flatten (w := w) ys (fs.toList.map fun f => (cs.drop f.offset).take (P.cellsOf f.type)) (by simp [y1]) fun i x c hx hc' => by
       rw [List.getElem?_map] at hc'
       cases hf : fs.toList[i]? with
       | none => rw [hf] at hc'; simp at hc'
       | some f =>
        rw [hf] at hc'
        simp only [Option.map_some, Option.some.injEq] at hc'
        subst hc'
        exact (y2 i f x hf hx).1
      rw [tiles_flatten fs.toList 0 cs (by rw [hlen]; exact hc), List.drop_zero] at hrep
      refine ⟨ys.flatten, hrep, ?_, fun hag => by simp [isAgg, hT] at hag⟩
      simp only [OfT, hT, if_pos hc]
      exact ⟨ys, rfl, y1, fun i f x hf hx => (y2 i f x hf hx).2⟩
    ·refine ⟨cs.map fun _ => .unk, repL_unk cs, ?_, fun hag => by simp [isAgg, hT] at hag⟩
     simp only [OfT, hT, if_neg hc]
     intro a ha
     obtain ⟨_, _, e⟩ := List.mem_map.1 ha
     exact e.symm
   ·cases h
  ·rename_i cs _ _ k e hT
   split at h
   ·rename_i hlen
    by_cases hc : P.cellsOf t = k * P.cellsOf e
    ·cases hm : (List.range k).mapM fun i => DataW.trod enc P w base spare held fuel e ((cs.drop (i * P.cellsOf e)).take (P.cellsOf e)) with
     | none => rw [hm] at h; simp at h
     | some r =>
      obtain ⟨h1, h2⟩ := mapM_get hm
      obtain ⟨ys, y1, y2⟩ := choose_list (R := fun _ (i : Nat) (y : List AV) => RepL G0 ⟨[], []⟩ w y ((cs.drop (i * P.cellsOf e)).take (P.cellsOf e)) ∧ OfT P fuel e y) (List.range k) (fun i f hf => by
       have h3 := h2 i f hf
       have hlt' : i < r.length := by rw [h1]; exact (List.getElem?_eq_some_iff.1 hf).1
       rw [List.getElem?_eq_getElem hlt'] at h3
       obtain ⟨l, q1, q2, q3⟩ := trod_rep fuel e _ r[i].1 r[i].2 h3
       exact ⟨l, q1, q2⟩)
      have hrep := repL_flatten (w := w) ys ((List.range k).map fun i => (cs.drop (i * P.cellsOf e)).take (P.cellsOf e)) (by simpa using y1) fun i x c hx hc' => by
       rw [List.getElem?_map] at hc'
       cases hf : (List.range k)[i]? with
       | none => rw [hf] at hc'; simp at hc'
       | some f =>
        rw [hf] at hc'
        simp only [Option.map_some, Option.some.injEq] at hc'
        subst hc'
        exact (y2 i f x hf hx).1
      rw [List.range_eq_range', array_flatten (P.cellsOf e) k 0 cs (by rw [hlen, hc]; simp)] at hrep
      simp only [Nat.zero_mul, List.drop_zero] at hrep
      refine ⟨ys.flatten, hrep, ?_, fun hag => by simp [isAgg, hT] at hag⟩
      simp only [OfT, hT, if_pos hc]
      refine ⟨ys, rfl, by simpa using y1, fun x hx => ?_⟩
      obtain ⟨i, hi⟩ := List.getElem?_of_mem hx
      have hlt : i < k := by have := (List.getElem?_eq_some_iff.1 hi).1; rw [y1] at this; simpa using this
      exact (y2 i i x (List.getElem?_range hlt) hi).2
    ·refine ⟨cs.map fun _ => .unk, repL_unk cs, ?_, fun hag => by simp [isAgg, hT] at hag⟩
     simp only [OfT, hT, if_neg hc]
     intro a ha
     obtain ⟨_, _, e⟩ := List.mem_map.1 ha
     exact e.symm
   ·cases h
  all_goals first
   | (cases h; done)
   | (rename_i hT; exact arg_unk (by simp [OfT, hT, OfLen]))
   | (rename_i hT _; exact arg_unk (by simp [OfT, hT, OfLen]))
   | (split at h <;> first | (cases h; done) | (rename_i hT _; exact arg_unk (by simp [OfT, hT, OfLen])))
end
end Go.Proofs.Eng
namespace Go.Proofs.Eng
open Go.ChangeShapes Go.WideShapes Go.ChangeAt Go.RowKit
def ArgsT (P : Program) : List TypeId → List AV → Prop
 | [], [] => True
 | t :: ts, a :: ls => (∃ n l, a = mkE (isAgg P t) l ∧ OfT P n t l) ∧ ArgsT P ts ls
 | _, _ => False
section
variable {P : Program} {H : Type} {enc : TypeId × Value → H} {md : FuncId → Md} {pfs : FuncId → Option PF}
theorem okWide_agg {w : World} {base : Nat} {t : TypeId} {v : Value} (h : Value.okWide P w .any base t v) : if isAgg P t then ∃ cs, v = .agg cs else v.cells = #[v] := by
 unfold Value.okWide at h
 split at h
 ·rename_i hT; simp only [isAgg, hT, if_true]; obtain ⟨cs, h, _⟩ := h; exact ⟨cs, h⟩
 ·rename_i hT; simp only [isAgg, hT, if_true]; obtain ⟨cs, h, _⟩ := h; exact ⟨cs, h⟩
 ·rename_i h1 h2
  have hf : isAgg P t = false := by
   unfold isAgg
   split
   ·rename_i fs hT; exact absurd hT (h1 fs)
   ·rename_i n e hT; exact absurd hT (h2 n e)
   ·rfl
  rw [hf]
  simp only [Bool.false_eq_true, if_false]
  cases v with
  | agg cs =>
   exfalso
   unfold Cell.okWide at h
   split at h <;> first
    | (rename_i hT hv; cases hv; done)
    | (unfold Cell.ok at h; split at h <;> first | exact h | (rename_i hT hv; cases hv; done))
  | _ => rfl
theorem arg_rep {w w' : World} {base : Nat} {t : TypeId} {v : Value} {d : DataW H} {p : List MemPlace} (hv : Value.okWide P w' .any base t v) (h : DataW.Trod enc P w 0 (fun _ => true) true t v d p) : ∃ a, Rep G0 ⟨[], []⟩ w a v ∧ ∃ n l, a = mkE (isAgg P t) l ∧ OfT P n t l := by
 obtain ⟨fuel, h⟩ := h
 obtain ⟨l, h1, h2, h3⟩ := trod_rep _ _ _ _ _ h
 have hag := okWide_agg hv
 refine ⟨mkE (isAgg P t) l, ?_, fuel, l, rfl, h2⟩
 cases hx : isAgg P t with
 | true =>
  rw [hx] at hag
  simp only [if_true] at hag
  obtain ⟨cs, rfl⟩ := hag
  exact .agg cs.toList h1.1 h1.2
 | false =>
  rw [hx] at hag
  simp only [Bool.false_eq_true, if_false] at hag
  obtain ⟨a, rfl, _⟩ := h3 hx
  rw [hag] at h1
  exact h1.2 0 a v rfl rfl
theorem args_rep {w w' : World} {base : Nat} : ∀ {ts : List TypeId} {vs : List Value} {ds : List (DataW H)} {p : List MemPlace}, (∀ (j : Nat) (t : TypeId) (v : Value), ts[j]? = some t → vs[j]? = some v → Value.okWide P w' .any base t v) → DataW.TrodAll enc P w 0 (fun _ => true) true ts vs ds p → ∃ ls, RepL G0 ⟨[], []⟩ w ls vs ∧ ArgsT P ts ls ∧ ds.length = ts.length
 | [], [], [], _, _, h => ⟨[], RepL.nil _ _ _, trivial, rfl⟩
 | [], _ :: _, _, _, _, h => h.elim
 | [], [], _ :: _, _, _, h => h.elim
 | _ :: _, [], _, _, _, h => h.elim
 | _ :: _, _ :: _, [], _, _, h => h.elim
 | t :: ts, v :: vs, d :: ds, _, hv, ⟨p, q, h1, h2, e⟩ => by
  obtain ⟨a, ha, hn⟩ := arg_rep (hv 0 t v rfl rfl) h1
  obtain ⟨ls, hl, ht, hd⟩ := args_rep (fun j t v h h' => hv (j + 1) t v (by simpa using h) (by simpa using h')) h2
  exact ⟨a :: ls, RepL.cons ha hl, ⟨hn, ht⟩, by simp [hd]⟩
theorem vars_len {w : World} : ∀ {ns : List String} {gs : List (DataW H)} {p : List MemPlace}, DataW.TrodVars enc P w (fun _ => true) ns gs p → gs.length = ns.length
 | [], [], _, _ => rfl
 | [], _ :: _, _, h => h.elim
 | _ :: _, [], _, h => h.elim
 | _ :: ns, _ :: gs, _, h => by
  obtain ⟨_, _, _, _, _, _, _, _, _, _, h, _⟩ := h
  simp [vars_len h]
theorem law_contract (hm : P.follows .mixedOrders = true) (hP : PfsOK P pfs) (hl : laidOutB P = true) {f : FuncId} {fn : Func} {s : ChangeSpec} {tb : TypeId}
  (hpar : (fn.params.toList.all fun t => P.readableRec t && decide (t < P.types.size)) = true) (hvars : varsRowed P s.vars = true) (hres : fn.resultTypes = #[tb]) (htb : P.underlying tb = some .bool)
  (hspec : ∀ ds gs : List (DataW H), ds.length = fn.params.toList.length → gs.length = s.vars.length → (s.fn H (ds ++ gs)).results = [.lit (.bool true)] ∧ (s.fn H (ds ++ gs)).args = ds ∧ (s.fn H (ds ++ gs)).vars = gs)
  (hlaw : ∀ ls : List AV, ArgsT P fn.params.toList ls → ∃ s', run md pfs f ls ⟨[], []⟩ = some (.ret (.v (.bool true)), s'))
  {W : World} (hk : Kn W) {base : Nat} {args : Array Value} {ds gs : List (DataW H)} {before : List MemPlace}
  (hval : ∀ (j : Nat) t v, fn.params[j]? = some t → args[j]? = some v → Value.okWide P W .any base t v) (hW : DataW.Whole enc P fn.params.toList s.vars false W args.toList ds gs before) :
  Calls P f args W fun e W' => ∃ v, e = .returned v ∧ s.post enc P fn false true false false W args v W' := by
 obtain ⟨p, q, hA, hV, hrest⟩ := id hW
 obtain ⟨ls, h1, h2, h3⟩ := args_rep (w' := W) (base := base) (fun j t v ht hv => hval j t v (by simpa using ht) (by simpa using hv)) hA
 obtain ⟨s', hs⟩ := hlaw ls h2
 obtain ⟨e1, e2, e3⟩ := hspec ds gs h3 (vars_len hV)
 have := law_calls hm hP hs hk h1
 rw [show args.toList.toArray = args from Array.toArray_toList] at this
 refine this.mono fun e W' ⟨he, hb⟩ => ⟨_, he, ?_⟩
 exact post_true hW hb hl hpar hvars hres htb e1 e2 e3
end
end Go.Proofs.Eng
namespace Go.Proofs.Eng
section
variable {md : FuncId → Md} {pfs : FuncId → Option PF} {f : FuncId} {args : List AV} {v : AV}
theorem purify_all (s : ASt) : ∀ {l : List AV}, pureAVs l = true → mapO (purify 20 s) l = some l
 | [], _ => rfl
 | x :: l, h => by
  simp only [pureAVs, Bool.and_eq_true] at h
  simp only [mapO, purify_pure h.1, purify_all s h.2]
theorem frz_all (s : ASt) : ∀ {l : List AV}, pureAVs l = true → l.foldl (frz 20) s = s
 | [], _ => rfl
 | x :: l, h => by
  simp only [pureAVs, Bool.and_eq_true] at h
  rw [List.foldl_cons, frz_pure h.1, frz_all s h.2]
end
end Go.Proofs.Eng
namespace Go.Proofs.Eng
section
variable {c : Oracle} {md : FuncId → Md} {i : PI} {l : List PI} {st : St} {v : AV} {s' : ASt} {f : FuncId} {args : List AV}
variable {hd : List PI}
variable {lp : PC → St → Option (AExit × St)} {a b : PC} {x : X} {r : Option (AExit × St)} {st' : St}
end
end Go.Proofs.Eng
