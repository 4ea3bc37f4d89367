/- Compiled programs pass the check; a changed operand is refused: plain law. No conditions beyond those in the theorems. -/
import Derived.Test.YtflfmkkcnphdcaaGreatC1
set_option linter.all false
set_option linter.deprecated false
set_option linter.unnecessarySimpa false
set_option linter.unusedVariables false
set_option linter.unusedSimpArgs false
set_option linter.defProp false
namespace Go.Proofs.Eng
open Go Go.Proofs
theorem fm_facts {k i : Int} {n : ByteArray} {s : List Int} {l : Nat} (h : fmB k i n s l = true) :
  0 ≤ k ∧ k < 12 ∧ 0 ≤ i ∧ s.length ≤ 32 ∧ l ≤ 4096 ∧ (∀ x ∈ s, 0 ≤ x ∧ x ≤ 64) ∧
  (k = 0 → l = 0 ∧ s = [] ∧ n.size = 0) ∧ (k = 4 → l = s.length + 1) ∧ ((k = 2 ∨ k = 7 ∨ k = 8) → l = 2) ∧ ((k = 1 ∨ k = 9 ∨ k = 10) → l = 1) ∧ (k = 3 → i < 32) := by
 simp only [fmB, Bool.and_eq_true, decide_eq_true_eq] at h
 obtain ⟨⟨⟨⟨⟨h0, h1⟩, h2⟩, h3⟩, h4⟩, h5⟩ := h
 unfold tabB at h5
 by_cases k3 : k = 3
 ·rw [if_pos k3] at h5
  simp [ctorB] at h5
  obtain ⟨⟨rfl, h6⟩, h7⟩ := h5
  refine ⟨h0, h1, h2, by simp, by omega, by simp, ?_, ?_, ?_, ?_, ?_⟩ <;> (intro; omega)
 ·rw [if_neg k3] at h5
  by_cases k4 : k = 4
  ·rw [if_pos k4] at h5
   simp only [caseB, Bool.and_eq_true, decide_eq_true_eq, beq_iff_eq, Bool.not_eq_true', List.any_eq_false] at h5
   obtain ⟨⟨h6, h7⟩, h8⟩ := h5
   refine ⟨h0, h1, h2, h6, by omega, ?_, ?_, ?_, ?_, ?_, ?_⟩
   ·intro x hx
    have := h8 x hx
    simp [badSize] at this
    omega
   all_goals (intro; omega)
  ·rw [if_neg k4] at h5
   simp [kidsB] at h5
   obtain ⟨h6, rfl⟩ := h5
   have hk : kn k = (if k = 1 ∨ k = 9 ∨ k = 10 then 1 else if k = 2 ∨ k = 7 ∨ k = 8 then 2 else 0) := rfl
   have hl : l ≤ 4096 := by
    split at hk
    ·omega
    ·split at hk <;> omega
   refine ⟨h0, h1, h2, by simp, hl, by simp, ?_, ?_, ?_, ?_, ?_⟩
   ·intro h
    refine ⟨?_, rfl, ?_⟩
    ·rw [hk, if_neg (by omega), if_neg (by omega)] at h6; omega
    ·subst h; simpa [namedB] using h3
   ·intro; omega
   ·intro h; rw [hk, if_neg (by omega), if_pos h] at h6; omega
   ·intro h; rw [hk, if_pos h] at h6; omega
   ·intro; omega
mutual
def Ex.wf : Ex → Prop
 | .mk k i n s kids => fmB k i n s kids.length = true ∧ wfL kids
def wfL : List Ex → Prop
 | [] => True
 | e :: es => e.wf ∧ wfL es
end
mutual
def Ex.dep : Ex → Nat
 | .mk _ _ _ _ kids => depL kids + 1
def depL : List Ex → Nat
 | [] => 0
 | e :: es => max e.dep (depL es)
end
end Go.Proofs.Eng
namespace Go.Proofs.Eng
end Go.Proofs.Eng
namespace Go.Proofs.Eng
structure Ins where
 op : Int
 a : Int
 b : Int
 n : ByteArray
 deriving DecidableEq
def Ins.o (op : Int) : Ins := ⟨op, 0, 0, ⟨#[]⟩⟩
def gidx : List Gl → ByteArray → Nat
 | [], _ => 0
 | g :: gs, n => if g.1 = n then 0 else gidx gs n + 1
def opK (k : Int) : Int := if k = 2 then 2 else if k = 6 then 8 else if k = 8 then 11 else if k = 9 then 12 else if k = 10 then 13 else 14
def brs : Nat → List Int → List Ins
 | _, [] => []
 | c, x :: l => ⟨6, (c : Int), x, ⟨#[]⟩⟩ :: brs (c + 1) l
section
variable (gs : List Gl)
mutual
def Ex.emit (c : Nat) : Ex → List Ins × List Ex
 | .mk k i n s kids =>
  if k = 0 then ([⟨0, i, 0, ⟨#[]⟩⟩], [])
  else if k = 1 then ([⟨1, (c : Int), 0, ⟨#[]⟩⟩], kids.take 1)
  else if k = 3 then ((emitL c kids).1 ++ [⟨4, i, (kids.length : Nat), n⟩], (emitL c kids).2)
  else if k = 4 then ((emitH c kids).1 ++ ⟨5, (s.length : Nat), 0, ⟨#[]⟩⟩ :: brs (c + (emitH c kids).2.length) s, (emitH c kids).2 ++ kids.drop 1)
  else if k = 5 then ([⟨7, (gidx gs n : Nat), 0, ⟨#[]⟩⟩], [])
  else if k = 7 then ((emitH c kids).1 ++ .o 9 :: (emitT c kids).1 ++ [.o 10], (emitH c kids).2 ++ (emitT c kids).2)
  else ((emitL c kids).1 ++ [.o (opK k)], (emitL c kids).2)
def emitL (c : Nat) : List Ex → List Ins × List Ex
 | [] => ([], [])
 | x :: l => ((x.emit c).1 ++ (emitL (c + (x.emit c).2.length) l).1, (x.emit c).2 ++ (emitL (c + (x.emit c).2.length) l).2)
def emitH (c : Nat) : List Ex → List Ins × List Ex
 | [] => ([], [])
 | x :: _ => x.emit c
def emitT (c : Nat) : List Ex → List Ins × List Ex
 | [] => ([], [])
 | x :: l => emitH (c + (x.emit c).2.length) l
end
end
mutual
def Ex.sz : Ex → Nat
 | .mk _ _ _ _ kids => szL kids + 1
def szL : List Ex → Nat
 | [] => 0
 | e :: es => e.sz + szL es
end
def blocks (gs : List Gl) : Nat → Nat → List Ex → List (List Ins)
 | 0, _, _ => []
 | _, _, [] => []
 | f + 1, c, e :: l => ((e.emit gs c).1 ++ [.o 3]) :: blocks gs f (c + (e.emit gs c).2.length) (l ++ (e.emit gs c).2)
mutual
def Ex.nb : Ex → Nat
 | .mk k _ _ s kids => (if k = 1 then 1 else if k = 4 then s.length else 0) + nbL kids
def nbL : List Ex → Nat
 | [] => 0
 | x :: l => x.nb + nbL l
end
mutual
def Ex.ni : Ex → Nat
 | .mk k _ _ s kids => (if k = 1 then 2 else if k = 4 then 1 + 2 * s.length else if k = 7 then 2 else 1) + niL kids
def niL : List Ex → Nat
 | [] => 0
 | x :: l => x.ni + niL l
end
mutual
def Ex.ar : Ex → Prop
 | .mk k _ _ s kids => (k = 0 → kids = []) ∧ (k = 1 → kids.length = 1) ∧ (k = 4 → kids.length = s.length + 1) ∧ (k = 5 → kids = []) ∧ (k = 7 → kids.length = 2) ∧ arL kids
def arL : List Ex → Prop
 | [] => True
 | x :: l => x.ar ∧ arL l
end
theorem arL_iff : ∀ l : List Ex, arL l ↔ ∀ x ∈ l, x.ar
 | [] => by simp [arL]
 | x :: l => by simp [arL, arL_iff l]
end Go.Proofs.Eng
namespace Go.Proofs.Eng
structure Cd where
 bl : List (List Ins)
 gl : List ByteArray
 st : List Int
def usesA (op : Int) : Bool := op == 0 || op == 1 || op == 5 || op == 7 || op == 6 || op == 4
def usesB (op : Int) : Bool := op == 6 || op == 4
def usesN (op : Int) : Bool := op == 4
def caseOK (x : Ins) (rest : List Ins) : Bool := decide (x.a ≤ 32) && decide (x.a ≤ (rest.length : Nat)) && (rest.take x.a.toNat).all fun y => y.op == 6
def iplB (x : Ins) (rest : List Ins) (br : Int) : Bool :=
 decide (0 ≤ x.op) && decide (x.op ≤ 14) && decide (0 ≤ x.a) && decide (0 ≤ x.b) && (usesA x.op || x.a == 0) && (usesB x.op || x.b == 0) && (usesN x.op || x.n.size == 0) && ((x.op == 6) == decide (0 < br)) && (x.op != 5 || caseOK x rest)
def missB (nb ng : Nat) (x : Ins) : Bool := x.op == 4 && decide (32 ≤ x.a) || x.op == 6 && decide (64 < x.b) || (x.op == 1 || x.op == 6) && decide ((nb : Int) ≤ x.a) || x.op == 7 && decide ((ng : Int) ≤ x.a)
def formE (nb ng : Nat) (x : Ins) (rest : List Ins) (br : Int) : Int := if iplB x rest br = false then 3 else if x.op = 4 ∧ isName x.n = false then 29 else if missB nb ng x = true then 2 else 0
structure Sk where
 S : List Int
 env : Int
 stack : Int
 binds : Int
 br : Int
def entE (n : Nat) (S : List Int) (b size : Int) : Except Int (List Int) := if 0 ≤ S.getD b.toNat 0 then .error 8 else if b ≤ n then .error 1 else .ok (S.set b.toNat size)
def refE (n : Nat) (x : Ins) (t : Sk) : Except Int (List Int) := if x.op = 1 then entE n t.S x.a (t.env + 1) else if x.op = 6 then entE n t.S x.a (t.env + x.b) else if x.op = 0 ∧ t.env ≤ x.a then .error 24 else .ok t.S
def popI (x : Ins) : Int := if x.op = 2 ∨ x.op = 11 then 2 else if x.op = 4 then x.b else if x.op = 5 ∨ x.op = 12 ∨ x.op = 13 ∨ x.op = 9 then 1 else 0
def pushI (x : Ins) : Int := if x.op = 3 ∨ x.op = 6 ∨ x.op = 9 ∨ x.op = 10 then 0 else 1
def envI (x : Ins) (v : Int) : Int := if x.op = 9 then v + 1 else if x.op = 10 then v - 1 else v
def brI (x : Ins) (b : Int) : Int := if x.op = 5 then x.a else max 0 (b - 1)
def exeE (x : Ins) (rest : List Ins) (S : List Int) (t : Sk) : Except Int Sk :=
 if t.stack < popI x ∨ x.op = 10 ∧ t.binds = 0 then .error 27
 else if (x.op == 3) != rest.isEmpty then .error 3
 else if x.op = 3 ∧ (t.stack - popI x + pushI x ≠ 1 ∨ envI x t.binds ≠ 0) then .error 27
 else .ok ⟨S, envI x t.env, t.stack - popI x + pushI x, envI x t.binds, brI x t.br⟩
def stp (nb ng n : Nat) (x : Ins) (rest : List Ins) (t : Sk) : Except Int Sk :=
 if formE nb ng x rest t.br ≠ 0 then .error (formE nb ng x rest t.br) else match refE n x t with
  | .error e => .error e
  | .ok S => exeE x rest S t
def irun (nb ng n : Nat) (suf : List Ins) : List Ins → Sk → Except Int Sk
 | [], t => .ok t
 | x :: l, t => match stp nb ng n x (l ++ suf) t with
  | .error e => .error e
  | .ok t' => irun nb ng n suf l t'
def goB (nb ng : Nat) : Nat → List (List Ins) → List Int → Int
 | _, [], _ => 0
 | n, l :: r, S => if S.getD n 0 < 0 then 9 else if l = [] then 3 else match irun nb ng n [] l ⟨S, S.getD n 0, 0, 0, 0⟩ with
  | .error e => e
  | .ok t => goB nb ng (n + 1) r t.S
def twice {α : Type} [DecidableEq α] : List α → List α → Bool
 | _, [] => false
 | p, x :: l => decide (x ∈ p) || twice (p ++ [x]) l
def Cd.outE (c : Cd) : Int :=
 if c.bl = [] ∨ c.st.length ≠ c.gl.length ∨ (c.st.any fun s => decide (s < 1) || decide ((c.bl.length : Int) ≤ s)) = true ∨ twice [] c.st = true then 3
 else if (c.gl.any fun g => !isName g) = true then 29
 else if twice [] c.gl = true then 8 else 0
def Cd.S0 (c : Cd) : List Int := c.st.foldl (fun S s => S.set s.toNat 0) ((List.replicate c.bl.length (-1)).set 0 0)
def Cd.check (c : Cd) : Int := if c.outE ≠ 0 then c.outE else goB c.bl.length c.gl.length 0 c.bl c.S0
mutual
def Ex.envs (v : Int) : Ex → List Int
 | .mk k _ _ s kids =>
  if k = 0 then [] else if k = 1 then [v + 1] else if k = 3 then envsL v kids else if k = 4 then envsH v kids ++ s.map (v + ·) else if k = 5 then [] else if k = 7 then envsH v kids ++ envsT v kids else envsL v kids
def envsL (v : Int) : List Ex → List Int
 | [] => []
 | x :: l => x.envs v ++ envsL v l
def envsH (v : Int) : List Ex → List Int
 | [] => []
 | x :: _ => x.envs v
def envsT (v : Int) : List Ex → List Int
 | [] => []
 | _ :: l => envsH (v + 1) l
end
end Go.Proofs.Eng
namespace Go.Proofs.Eng
set_option maxRecDepth 100000
theorem fm_none {k i : Int} {n : ByteArray} {s : List Int} {l : Nat} (h : fmB k i n s l = true) (hk : k = 5 ∨ k = 6 ∨ k = 11) : l = 0 := by
 rcases hk with rfl | rfl | rfl <;>
 ·simp only [fmB, Bool.and_eq_true] at h
  have h := h.2
  simp [tabB, kidsB, kn] at h
  omega
theorem err_facts {gl : ByteArray → Bool} {v k i : Int} {n : ByteArray} {s : List Int} {kids : List Ex} (h : (Ex.mk k i n s kids).err gl v = 0) :
  fmB k i n s kids.length = true ∧ (k = 3 → isName n = true) ∧ (k = 0 → i < v) ∧ (k = 5 → gl n = true) ∧ errL gl k s v 0 kids = 0 := by
 rw [Ex.err] at h
 split at h
 ·omega
 rename_i h1
 split at h
 ·omega
 rename_i h2
 split at h
 ·omega
 rename_i h3
 split at h
 ·omega
 rename_i h4
 refine ⟨by simpa using h1, fun hk => ?_, fun hk => ?_, fun hk => ?_, h⟩
 ·cases hn : isName n
  ·exact absurd ⟨by simp [namedB, hk], hn⟩ h2
  ·rfl
 ·rcases Int.lt_or_le i v with h5 | h5
  ·exact h5
  ·exact absurd ⟨hk, by simpa using h5⟩ h3
 ·cases hn : gl n
  ·exact absurd ⟨hk, hn⟩ h4
  ·rfl
theorem errL_at {gl : ByteArray → Bool} {k v : Int} {s : List Int} : ∀ {l : List Ex} {j i : Nat} {x : Ex}, errL gl k s v j l = 0 → l[i]? = some x → x.err gl (w64 (v + under k s (j + i))) = 0
 | [], _, _, _, _, h => by simp at h
 | y :: l, j, 0, x, h, hx => by
  simp at hx; subst hx
  rw [errL] at h
  split at h
  ·assumption
  ·rename_i h1; exact absurd h h1
 | y :: l, j, i + 1, x, h, hx => by
  rw [errL] at h
  split at h
  ·have := errL_at (j := j + 1) (i := i) h (by simpa using hx)
   rwa [show j + 1 + i = j + (i + 1) from by omega] at this
  ·rename_i h1; exact absurd h h1
theorem err_ar {gl : ByteArray → Bool} (e : Ex) : ∀ {v}, e.err gl v = 0 → e.ar := by
 induction e using Ex.ind with
 | h k i n s kids ih =>
  intro v h
  obtain ⟨h1, _, _, _, h5⟩ := err_facts h
  obtain ⟨_, _, _, _, _, _, f0, f4, f2, f1, _⟩ := fm_facts h1
  rw [Ex.ar]
  refine ⟨fun hk => List.length_eq_zero_iff.1 (f0 hk).1, fun hk => f1 (.inl hk), f4, fun hk => List.length_eq_zero_iff.1 (fm_none h1 (.inl hk)), fun hk => f2 (.inr (.inl hk)), (arL_iff _).2 fun x hx => ?_⟩
  obtain ⟨j, hj⟩ := List.getElem?_of_mem hx
  exact ih x hx (errL_at h5 hj)
section
variable {gs : List Gl} {gl : ByteArray → Bool} {nb ng n : Nat}
end
end Go.Proofs.Eng
namespace Go.Proofs.Eng
set_option maxRecDepth 100000
def AllZ (P : Ex → Int → Prop) : List Ex → List Int → Prop
 | [], [] => True
 | x :: l, z :: zs => P x z ∧ AllZ P l zs
 | _, _ => False
theorem AllZ.app {P : Ex → Int → Prop} : ∀ {l m : List Ex} {zs ws : List Int}, AllZ P l zs → AllZ P m ws → AllZ P (l ++ m) (zs ++ ws)
 | [], _, [], _, _, h => h
 | _ :: _, _, _ :: _, _, h, k => ⟨h.1, AllZ.app h.2 k⟩
 | [], _, _ :: _, _, h, _ => h.elim
 | _ :: _, _, [], _, h, _ => h.elim
theorem AllZ.len {P : Ex → Int → Prop} : ∀ {l : List Ex} {zs : List Int}, AllZ P l zs → l.length = zs.length
 | [], [], _ => rfl
 | _ :: _, _ :: _, h => by simp [AllZ.len h.2]
 | [], _ :: _, h => h.elim
 | _ :: _, [], h => h.elim
def ErrZ (gl : ByteArray → Bool) (B : Int) (x : Ex) (z : Int) : Prop := x.err gl z = 0 ∧ 0 ≤ z ∧ z + 64 * x.dep ≤ B
section
variable {gs : List Gl} {gl : ByteArray → Bool} {nb ng : Nat} {B : Int}
end
end Go.Proofs.Eng
