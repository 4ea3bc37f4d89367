/- The code of a program: plain law. No conditions beyond those in the theorems. -/
import Derived.Test.YtflfmkkcnphdcaaGreatP1
set_option linter.all false
set_option linter.deprecated false
set_option linter.unnecessarySimpa false
set_option linter.unusedVariables false
set_option linter.unusedSimpArgs false
set_option linter.defProp false
namespace Go.Proofs.Eng
theorem a3o {n : Int} (h0 : -B62 <= n) (h1 : n <= B62) : w64 n = n := jf (by unfold mh; unfold B62 at *; omega)
end Go.Proofs.Eng
namespace Go.Proofs.Eng
structure Ins where
 op : Int
 a : Int
 b : Int
 n : ByteArray
 deriving DecidableEq
def Ins.o (op : Int) : Ins := ⟨op, 0, 0, ⟨#[]⟩⟩
def A4 : List Gl -> ByteArray -> Nat
 | [], _ => 0
 | g :: gs, n => if g.1 = n then 0 else A4 gs n + 1
def opK (k : Int) : Int := if k = 2 then 2 else if k = 6 then 8 else if k = 8 then 11 else if k = 9 then 12 else if k = 10 then 13 else 14
def brs : Nat -> List Int -> List Ins
 | _, [] => []
 | c, x :: l => ⟨6, (c : Int), x, ⟨#[]⟩⟩ :: brs (c + 1) l
section
variable (gs : List Gl)
mutual
def Ex.emit (c : Nat) : Ex -> List Ins × List Ex
 | .mk k i n s kids =>
  if k = 0 then ([⟨0, i, 0, ⟨#[]⟩⟩], [])
  else if k = 1 then ([⟨1, (c : Int), 0, ⟨#[]⟩⟩], kids.take 1)
  else if k = 3 then ((iq c kids).1 ++ [⟨4, i, (kids.length : Nat), n⟩], (iq c kids).2)
  else if k = 4 then ((ke c kids).1 ++ ⟨5, (s.length : Nat), 0, ⟨#[]⟩⟩ :: brs (c + (ke c kids).2.length) s, (ke c kids).2 ++ kids.drop 1)
  else if k = 5 then ([⟨7, (A4 gs n : Nat), 0, ⟨#[]⟩⟩], [])
  else if k = 7 then ((ke c kids).1 ++ .o 9 :: (yd c kids).1 ++ [.o 10], (ke c kids).2 ++ (yd c kids).2)
  else ((iq c kids).1 ++ [.o (opK k)], (iq c kids).2)
def iq (c : Nat) : List Ex -> List Ins × List Ex
 | [] => ([], [])
 | x :: l => ((x.emit c).1 ++ (iq (c + (x.emit c).2.length) l).1, (x.emit c).2 ++ (iq (c + (x.emit c).2.length) l).2)
def ke (c : Nat) : List Ex -> List Ins × List Ex
 | [] => ([], [])
 | x :: _ => x.emit c
def yd (c : Nat) : List Ex -> List Ins × List Ex
 | [] => ([], [])
 | x :: l => ke (c + (x.emit c).2.length) l
end
theorem Ew : ∀ (l : List Ex) (c : Nat) (x : Ex), iq gs c (l ++ [x]) = ((iq gs c l).1 ++ (x.emit gs (c + (iq gs c l).2.length)).1, (iq gs c l).2 ++ (x.emit gs (c + (iq gs c l).2.length)).2)
 | [], c, x => by simp [iq]
 | y :: l, c, x => by
  simp only [bn, iq, Ew l, aj, ah, dt]
theorem Ak : ∀ (s : List Int) (c : Nat), (brs c s).length = s.length
 | [], _ => rfl
 | x :: l, c => by simp [brs, Ak l]
theorem J5 : ∀ (s : List Int) (c : Nat) (x : Int), brs c (s ++ [x]) = brs c s ++ [⟨6, ((c + s.length : Nat) : Int), x, ⟨#[]⟩⟩]
 | [], c, x => by simp [brs]
 | y :: l, c, x => by
  rw [bn, brs, J5 l, brs, ak, bn, show c + 1 + l.length = c + (l.length + 1) from by omega]
end
mutual
def Ex.sz : Ex -> Nat
 | .mk _ _ _ _ kids => szL kids + 1
def szL : List Ex -> Nat
 | [] => 0
 | e :: es => e.sz + szL es
end
theorem mv : ∀ (l m : List Ex), szL (l ++ m) = szL l + szL m
 | [], m => by simp [szL]
 | x :: l, m => by rw [bn, szL, mv l, szL]; omega
theorem a0n (l : List Ex) (n : Nat) : szL (l.take n) <= szL l := by
 have := mv (l.take n) (l.drop n)
 rw [cx] at this; omega
theorem a0q (l : List Ex) (n : Nat) : szL (l.drop n) + szL (l.take n) = szL l := by
 have := mv (l.take n) (l.drop n)
 rw [cx] at this; omega
theorem Ae (gs : List Gl) (e : Ex) : ∀ c, szL (e.emit gs c).2 < e.sz := by
 induction e using Ex.ind with
 | h k i n s kids ih =>
  intro c
  have hL : ∀ (l : List Ex), (∀ x ∈ l, x ∈ kids) -> ∀ c, szL (iq gs c l).2 <= szL l := by
   intro l
   induction l with
   | nil => intro _ c; simp [iq]
   | cons x l ihl =>
    intro h c
    rw [iq, mv, szL]
    have h1 := ih x (h x (by simp)) c
    have h2 := ihl (fun y hy => h y (by simp [hy])) (c + (x.emit gs c).2.length)
    omega
  have hH : ∀ c, szL (ke gs c kids).2 <= szL (kids.take 1) := by
   intro c
   cases kids with
   | nil => simp [ke]
   | cons x l =>
    have := ih x (by simp) c
    simp only [ke, List.take_succ_cons, List.take_zero, szL]; omega
  have hT : ∀ c, szL (yd gs c kids).2 <= szL (kids.drop 1) := by
   intro c
   cases kids with
   | nil => simp [yd]
   | cons x l =>
    cases l with
    | nil => simp [yd, ke, szL]
    | cons y l =>
     have := ih y (by simp) (c + (x.emit gs c).2.length)
     simp only [yd, ke, List.drop_succ_cons, List.drop_zero, szL]; omega
  rw [Ex.emit, Ex.sz]
  have a1 := a0n kids 1
  have a2 := a0q kids 1
  have a3 := hH c
  have a4 := hT c
  have a5 := hL kids (fun _ h => h) c
  repeat' split
  all_goals simp only [mv, szL] <;> omega
def blocks (gs : List Gl) : Nat -> Nat -> List Ex -> List (List Ins)
 | 0, _, _ => []
 | _, _, [] => []
 | f + 1, c, e :: l => ((e.emit gs c).1 ++ [.o 3]) :: blocks gs f (c + (e.emit gs c).2.length) (l ++ (e.emit gs c).2)
theorem D0 (gs : List Gl) : ∀ (f g c : Nat) (l : List Ex), szL l <= f -> szL l <= g -> blocks gs f c l = blocks gs g c l
 | 0, g, c, l, h1, h2 => by
  cases l with
  | nil => cases g <;> rfl
  | cons x l => cases x; simp [szL, Ex.sz] at h1
 | f + 1, g, c, [], _, _ => by cases g <;> rfl
 | f + 1, 0, c, x :: l, h1, h2 => by cases x; simp [szL, Ex.sz] at h2
 | f + 1, g + 1, c, x :: l, h1, h2 => by
  have := Ae gs x c
  rw [szL] at h1 h2
  rw [blocks, blocks, D0 gs f g _ _ (by rw [mv]; omega) (by rw [mv]; omega)]
def F8 (gs : List Gl) (l : List Ex) : List (List Ins) := blocks gs (szL l) l.length l
theorem D2 {gs : List Gl} {f c : Nat} {x : Ex} {l : List Ex} (h : szL (x :: l) <= f) : blocks gs f c (x :: l) = ((x.emit gs c).1 ++ [.o 3]) :: blocks gs f (c + (x.emit gs c).2.length) (l ++ (x.emit gs c).2) := by
 have h1 := Ae gs x c
 rw [szL] at h
 cases f with
 | zero => omega
 | succ f =>
  rw [blocks, D0 gs f (f + 1) _ _ (by rw [mv]; omega) (by rw [mv]; omega)]
mutual
def Ex.nb : Ex -> Nat
 | .mk k _ _ s kids => (if k = 1 then 1 else if k = 4 then s.length else 0) + nbL kids
def nbL : List Ex -> Nat
 | [] => 0
 | x :: l => x.nb + nbL l
end
mutual
def Ex.ni : Ex -> Nat
 | .mk k _ _ s kids => (if k = 1 then 2 else if k = 4 then 1 + 2 * s.length else if k = 7 then 2 else 1) + niL kids
def niL : List Ex -> Nat
 | [] => 0
 | x :: l => x.ni + niL l
end
mutual
def Ex.ar : Ex -> Prop
 | .mk k _ _ s kids => (k = 0 -> kids = []) ∧ (k = 1 -> kids.length = 1) ∧ (k = 4 -> kids.length = s.length + 1) ∧ (k = 5 -> kids = []) ∧ (k = 7 -> kids.length = 2) ∧ arL kids
def arL : List Ex -> Prop
 | [] => True
 | x :: l => x.ar ∧ arL l
end
theorem qx : ∀ l : List Ex, arL l ↔ ∀ x ∈ l, x.ar
 | [] => by simp [arL]
 | x :: l => by simp [arL, qx l]
theorem yj : ∀ (l m : List Ex), nbL (l ++ m) = nbL l + nbL m
 | [], m => by simp [nbL]
 | x :: l, m => by rw [bn, nbL, yj l, nbL]; omega
theorem At : ∀ (l m : List Ex), niL (l ++ m) = niL l + niL m
 | [], m => by simp [niL]
 | x :: l, m => by rw [bn, niL, At l, niL]; omega
def Cnt (gs : List Gl) (c : Nat) (r : List Ins × List Ex) (n m : Nat) : Prop := r.2.length + nbL r.2 = n ∧ r.1.length + niL r.2 + r.2.length = m ∧ arL r.2
theorem Di (l m : List Ex) : arL (l ++ m) ↔ arL l ∧ arL m := by
 simp only [qx, List.mem_append]
 exact ⟨fun h => ⟨fun x hx => h x (.inl hx), fun x hx => h x (.inr hx)⟩, fun h x hx => hx.elim (h.1 x) (h.2 x)⟩
theorem Ey (gs : List Gl) (e : Ex) : e.ar -> ∀ c, Cnt gs c (e.emit gs c) e.nb e.ni := by
 induction e using Ex.ind with
 | h k i n s kids ih =>
  intro ha c
  rw [Ex.ar] at ha
  obtain ⟨h0, h1, h4, h5, h7, hk⟩ := ha
  rw [qx] at hk
  have hL : ∀ (l : List Ex), (∀ x ∈ l, x ∈ kids) -> ∀ c, Cnt gs c (iq gs c l) (nbL l) (niL l) := by
   intro l
   induction l with
   | nil => intro _ c; exact ⟨by simp [iq, nbL], by simp [iq, niL], by simp [iq, arL]⟩
   | cons x l ihl =>
    intro h c
    obtain ⟨a1, a2, a3⟩ := ih x (h x (by simp)) (hk x (h x (by simp))) c
    obtain ⟨b1, b2, b3⟩ := ihl (fun y hy => h y (by simp [hy])) (c + (x.emit gs c).2.length)
    refine ⟨?_, ?_, ?_⟩
    ·simp only [iq, ah, yj, nbL]; omega
    ·simp only [iq, ah, At, niL]; omega
    ·simp only [iq, Di]; exact ⟨a3, b3⟩
  rw [Ex.emit, Ex.nb, Ex.ni]
  by_cases k0 : k = 0
  ·have := h0 k0; subst this
   rw [if_pos k0, if_neg (by omega), if_neg (by omega), if_neg (by omega), if_neg (by omega), if_neg (by omega)]
   exact ⟨by simp [nbL], by simp [niL], by simp [arL]⟩
  rw [if_neg k0]
  by_cases k1 : k = 1
  ·match kids, h1 k1 with
   | [x], _ =>
    rw [if_pos k1, if_pos k1, if_pos k1]
    exact ⟨by simp [nbL], by simp [niL]; omega, by simp [arL, hk x (by simp)]⟩
  rw [if_neg k1, if_neg k1, if_neg k1]
  obtain ⟨a1, a2, a3⟩ := hL kids (fun _ h => h) c
  by_cases k3 : k = 3
  ·rw [if_pos k3, if_neg (by omega), if_neg (by omega), if_neg (by omega)]
   exact ⟨by simp only []; omega, by simp only [ah, ak, ao]; omega, a3⟩
  rw [if_neg k3]
  by_cases k4 : k = 4
  ·rw [if_pos k4, if_pos k4, if_pos k4]
   have hl := h4 k4
   cases kids with
   | nil => simp at hl
   | cons x l =>
    obtain ⟨b1, b2, b3⟩ := ih x (by simp) (hk x (by simp)) c
    simp only [ke, List.drop_succ_cons, List.drop_zero]
    simp only [ak] at hl
    refine ⟨by simp only [ah, yj, nbL]; omega, by simp only [ah, ak, At, niL, Ak]; omega, ?_⟩
    simp only [Di]
    exact ⟨b3, (qx l).2 fun y hy => hk y (by simp [hy])⟩
  rw [if_neg k4, if_neg k4, if_neg k4]
  by_cases k5 : k = 5
  ·have := h5 k5; subst this
   rw [if_pos k5, if_neg (by omega)]
   exact ⟨by simp [nbL], by simp [niL], by simp [arL]⟩
  rw [if_neg k5]
  by_cases k7 : k = 7
  ·rw [if_pos k7, if_pos k7]
   match kids, h7 k7 with
   | [x, y], _ =>
    obtain ⟨b1, b2, b3⟩ := ih x (by simp) (hk x (by simp)) c
    obtain ⟨d1, d2, d3⟩ := ih y (by simp) (hk y (by simp)) (c + (x.emit gs c).2.length)
    simp only [ke, yd]
    refine ⟨by simp only [ah, yj, nbL]; omega, by simp only [ah, ak, ao, At, niL]; omega, ?_⟩
    simp only [Di]
    exact ⟨b3, d3⟩
  rw [if_neg k7, if_neg k7]
  exact ⟨by simp only []; omega, by simp only [ah, ak, ao]; omega, a3⟩
theorem zw (gs : List Gl) : ∀ (f c : Nat) (l : List Ex), szL l <= f -> arL l -> (blocks gs f c l).length = l.length + nbL l ∧ ((blocks gs f c l).map List.length).sum = l.length + niL l
 | f, c, [], _, _ => by cases f <;> simp [blocks, nbL, niL]
 | 0, c, x :: l, h, _ => by cases x; simp [szL, Ex.sz] at h
 | f + 1, c, x :: l, h, ha => by
  have h1 := Ae gs x c
  rw [szL] at h
  rw [arL] at ha
  obtain ⟨a1, a2, a3⟩ := Ey gs x ha.1 c
  obtain ⟨b1, b2⟩ := zw gs f (c + (x.emit gs c).2.length) (l ++ (x.emit gs c).2) (by rw [mv]; omega) ((Di _ _).2 ⟨ha.2, a3⟩)
  rw [yj, ah] at b1
  rw [At, ah] at b2
  rw [blocks, ak, b1, bq, List.sum_cons, b2, ak, nbL, niL, ah, ak, ao]
  omega
end Go.Proofs.Eng
namespace Go.Proofs.Eng
structure Cd where
 bl : List (List Ins)
 gl : List ByteArray
 st : List Int
def xe (op : Int) : Bool := op == 0 || op == 1 || op == 5 || op == 7 || op == 6 || op == 4
def xf (op : Int) : Bool := op == 6 || op == 4
def vn (op : Int) : Bool := op == 4
def zz (x : Ins) (rest : List Ins) : Bool := decide (x.a <= 32) && decide (x.a <= (rest.length : Nat)) && (rest.take x.a.toNat).all fun y => y.op == 6
def s9 (x : Ins) (rest : List Ins) (br : Int) : Bool :=
 decide (0 <= x.op) && decide (x.op <= 14) && decide (0 <= x.a) && decide (0 <= x.b) && (xe x.op || x.a == 0) && (xf x.op || x.b == 0) && (vn x.op || x.n.size == 0) && ((x.op == 6) == decide (0 < br)) && (x.op != 5 || zz x rest)
def m9 (nb ng : Nat) (x : Ins) : Bool := x.op == 4 && decide (32 <= x.a) || x.op == 6 && decide (64 < x.b) || (x.op == 1 || x.op == 6) && decide ((nb : Int) <= x.a) || x.op == 7 && decide ((ng : Int) <= x.a)
def mr (nb ng : Nat) (x : Ins) (rest : List Ins) (br : Int) : Int := if s9 x rest br = false then 3 else if x.op = 4 ∧ isName x.n = false then 29 else if m9 nb ng x = true then 2 else 0
structure Sk where
 S : List Int
 env : Int
 stack : Int
 binds : Int
 br : Int
def xw (n : Nat) (S : List Int) (b size : Int) : Except Int (List Int) := if 0 <= S.getD b.toNat 0 then .error 8 else if b <= n then .error 1 else .ok (S.set b.toNat size)
def so (n : Nat) (x : Ins) (t : Sk) : Except Int (List Int) := if x.op = 1 then xw n t.S x.a (t.env + 1) else if x.op = 6 then xw n t.S x.a (t.env + x.b) else if x.op = 0 ∧ t.env <= x.a then .error 24 else .ok t.S
def jm (x : Ins) : Int := if x.op = 2 ∨ x.op = 11 then 2 else if x.op = 4 then x.b else if x.op = 5 ∨ x.op = 12 ∨ x.op = 13 ∨ x.op = 9 then 1 else 0
def j7 (x : Ins) : Int := if x.op = 3 ∨ x.op = 6 ∨ x.op = 9 ∨ x.op = 10 then 0 else 1
def jx (x : Ins) (v : Int) : Int := if x.op = 9 then v + 1 else if x.op = 10 then v - 1 else v
def brI (x : Ins) (b : Int) : Int := if x.op = 5 then x.a else max 0 (b - 1)
def B5 (x : Ins) (rest : List Ins) (S : List Int) (t : Sk) : Except Int Sk :=
 if t.stack < jm x ∨ x.op = 10 ∧ t.binds = 0 then .error 27
 else if (x.op == 3) != rest.isEmpty then .error 3
 else if x.op = 3 ∧ (t.stack - jm x + j7 x ≠ 1 ∨ jx x t.binds ≠ 0) then .error 27
 else .ok ⟨S, jx x t.env, t.stack - jm x + j7 x, jx x t.binds, brI x t.br⟩
def stp (nb ng n : Nat) (x : Ins) (rest : List Ins) (t : Sk) : Except Int Sk :=
 if mr nb ng x rest t.br ≠ 0 then .error (mr nb ng x rest t.br) else match so n x t with
  | .error e => .error e
  | .ok S => B5 x rest S t
def l6 (nb ng n : Nat) (suf : List Ins) : List Ins -> Sk -> Except Int Sk
 | [], t => .ok t
 | x :: l, t => match stp nb ng n x (l ++ suf) t with
  | .error e => .error e
  | .ok t' => l6 nb ng n suf l t'
def goB (nb ng : Nat) : Nat -> List (List Ins) -> List Int -> Int
 | _, [], _ => 0
 | n, l :: r, S => if S.getD n 0 < 0 then 9 else if l = [] then 3 else match l6 nb ng n [] l ⟨S, S.getD n 0, 0, 0, 0⟩ with
  | .error e => e
  | .ok t => goB nb ng (n + 1) r t.S
def oy {α : Type} [DecidableEq α] : List α -> List α -> Bool
 | _, [] => false
 | p, x :: l => decide (x ∈ p) || oy (p ++ [x]) l
def Cd.D3 (c : Cd) : Int :=
 if c.bl = [] ∨ c.st.length ≠ c.gl.length ∨ (c.st.any fun s => decide (s < 1) || decide ((c.bl.length : Int) <= s)) = true ∨ oy [] c.st = true then 3
 else if (c.gl.any fun g => !isName g) = true then 29
 else if oy [] c.gl = true then 8 else 0
def Cd.S0 (c : Cd) : List Int := c.st.foldl (fun S s => S.set s.toNat 0) ((List.replicate c.bl.length (-1)).set 0 0)
def Cd.check (c : Cd) : Int := if c.D3 ≠ 0 then c.D3 else goB c.bl.length c.gl.length 0 c.bl c.S0
theorem K2 (nb ng n : Nat) (suf : List Ins) : ∀ (a b : List Ins) (t : Sk), l6 nb ng n suf (a ++ b) t = match l6 nb ng n (b ++ suf) a t with
  | .error e => .error e
  | .ok t' => l6 nb ng n suf b t'
 | [], b, t => rfl
 | x :: a, b, t => by
  rw [bn, l6, l6, aj]
  cases stp nb ng n x (a ++ (b ++ suf)) t with
  | error e => rfl
  | ok t' => exact K2 nb ng n suf a b t'
theorem vo {nb ng n : Nat} {suf a b : List Ins} {t t' : Sk} (h : l6 nb ng n (b ++ suf) a t = .ok t') : l6 nb ng n suf (a ++ b) t = l6 nb ng n suf b t' := by rw [K2, h]
theorem oh {nb ng n : Nat} {suf l : List Ins} {x : Ins} {t t' : Sk} (h : stp nb ng n x (l ++ suf) t = .ok t') : l6 nb ng n suf (x :: l) t = l6 nb ng n suf l t' := by rw [l6, h]
theorem wk {nb ng n : Nat} {x : Ins} {rest : List Ins} {t : Sk} {S : List Int} (hf : mr nb ng x rest t.br = 0) (hr : so n x t = .ok S) (hp : jm x <= t.stack) (hb : x.op = 10 -> t.binds ≠ 0) (h3 : x.op ≠ 3) (hs : rest ≠ []) :
  stp nb ng n x rest t = .ok ⟨S, jx x t.env, t.stack - jm x + j7 x, jx x t.binds, brI x t.br⟩ := by
 have h1 : ¬ (t.stack < jm x ∨ x.op = 10 ∧ t.binds = 0) := by
  rintro (h | ⟨h, h'⟩)
  ·omega
  ·exact hb h h'
 have h2 : ¬ (((x.op == 3) != rest.isEmpty) = true) := by
  cases rest with
  | nil => exact absurd rfl hs
  | cons y l => simp [h3]
 have h4 : ¬ (x.op = 3 ∧ (t.stack - jm x + j7 x ≠ 1 ∨ jx x t.binds ≠ 0)) := fun h => h3 h.1
 rw [stp, if_neg (by simp [hf]), hr]
 show B5 x rest S t = _
 rw [B5, if_neg h1, if_neg h2, if_neg h4]
theorem Il (nb ng : Nat) {op : Int} (h : op = 2 ∨ op = 3 ∨ op = 8 ∨ op = 9 ∨ op = 10 ∨ op = 11 ∨ op = 12 ∨ op = 13 ∨ op = 14) (rest : List Ins) : mr nb ng (.o op) rest 0 = 0 := by
 rcases h with rfl | rfl | rfl | rfl | rfl | rfl | rfl | rfl | rfl <;> rfl
theorem P2 (n : Nat) {op : Int} (h1 : op ≠ 1) (h2 : op ≠ 6) (h3 : op ≠ 0) (t : Sk) : so n (.o op) t = .ok t.S := by
 rw [so, if_neg (by exact h1), if_neg (by exact h2), if_neg (by rintro ⟨h, _⟩; exact h3 h)]
mutual
def Ex.ug (v : Int) : Ex -> List Int
 | .mk k _ _ s kids =>
  if k = 0 then [] else if k = 1 then [v + 1] else if k = 3 then tv v kids else if k = 4 then ti v kids ++ s.map (v + ·) else if k = 5 then [] else if k = 7 then ti v kids ++ O4 v kids else tv v kids
def tv (v : Int) : List Ex -> List Int
 | [] => []
 | x :: l => x.ug v ++ tv v l
def ti (v : Int) : List Ex -> List Int
 | [] => []
 | x :: _ => x.ug v
def O4 (v : Int) : List Ex -> List Int
 | [] => []
 | _ :: l => ti (v + 1) l
end
theorem xr (gs : List Gl) (e : Ex) : e.ar -> ∀ c v, (e.ug v).length = (e.emit gs c).2.length := by
 induction e using Ex.ind with
 | h k i n s kids ih =>
  intro ha c v
  rw [Ex.ar] at ha
  obtain ⟨h0, h1, h4, h5, h7, hk⟩ := ha
  rw [qx] at hk
  have hL : ∀ (l : List Ex), (∀ x ∈ l, x ∈ kids) -> ∀ c, (tv v l).length = (iq gs c l).2.length := by
   intro l
   induction l with
   | nil => intro _ c; rfl
   | cons x l ihl =>
    intro h c
    rw [tv, iq, ah, ah, ih x (h x (by simp)) (hk x (h x (by simp))) c v, ihl (fun y hy => h y (by simp [hy])) (c + (x.emit gs c).2.length)]
  rw [Ex.ug, Ex.emit]
  by_cases k0 : k = 0
  ·rw [if_pos k0, if_pos k0]; rfl
  rw [if_neg k0, if_neg k0]
  by_cases k1 : k = 1
  ·rw [if_pos k1, if_pos k1]
   match kids, h1 k1 with
   | [x], _ => rfl
  rw [if_neg k1, if_neg k1]
  by_cases k3 : k = 3
  ·rw [if_pos k3, if_pos k3]; exact hL kids (fun _ h => h) c
  rw [if_neg k3, if_neg k3]
  by_cases k4 : k = 4
  ·rw [if_pos k4, if_pos k4]
   have hl := h4 k4
   cases kids with
   | nil => simp at hl
   | cons x l =>
    have := ih x (by simp) (hk x (by simp)) c v
    simp only [ak] at hl
    simp only [ti, ke, ah, de, List.drop_succ_cons, List.drop_zero]; omega
  rw [if_neg k4, if_neg k4]
  by_cases k5 : k = 5
  ·rw [if_pos k5, if_pos k5]; rfl
  rw [if_neg k5, if_neg k5]
  by_cases k7 : k = 7
  ·rw [if_pos k7, if_pos k7]
   match kids, h7 k7 with
   | [x, y], _ =>
    have a := ih x (by simp) (hk x (by simp)) c v
    have b := ih y (by simp) (hk y (by simp)) (c + (x.emit gs c).2.length) (v + 1)
    simp only [ti, O4, ke, yd, ah, a, b]
  rw [if_neg k7, if_neg k7]
  exact hL kids (fun _ h => h) c
theorem Rm {n c m : Nat} {K : List Int} {z : Int} (hK : K.length = c) (hn : n < c) : xw n (K ++ List.replicate (m + 1) (-1)) (c : Nat) z = .ok (K ++ [z] ++ List.replicate m (-1)) := by
 have h1 : (K ++ List.replicate (m + 1) (-1 : Int)).getD c 0 = -1 := by
  rw [List.getD, af (by omega), hK, Nat.sub_self, List.getElem?_replicate, if_pos (by omega)]; rfl
 rw [xw, eu, h1, if_neg (by omega), if_neg (by omega), List.set_append_right _ _ (by omega), hK, Nat.sub_self, List.replicate_succ, bz, aj]; rfl
def kzs (K : List Int) (m : Nat) : List Int := K ++ List.replicate m (-1)
theorem Nn {nb ng n : Nat} {suf : List Ins} (hs : suf ≠ []) : ∀ (s : List Int) (c m : Nat) (K : List Int) (v st bi : Int), K.length = c -> n < c -> s.length <= m -> c + m = nb -> (∀ x ∈ s, 0 <= x ∧ x <= 64) -> 0 <= st ->
  l6 nb ng n suf (brs c s) ⟨kzs K m, v, st, bi, (s.length : Nat)⟩ = .ok ⟨kzs (K ++ s.map (v + ·)) (m - s.length), v, st, bi, 0⟩
 | [], c, m, K, v, st, bi, _, _, _, _, _, _ => by simp [brs, l6, kzs]
 | x :: s, c, m, K, v, st, bi, hK, hn, hm, hnb, hx, h0 => by
  obtain ⟨x0, x1⟩ := hx x (by simp)
  obtain ⟨m, rfl⟩ : ∃ m', m = m' + 1 := ⟨m - 1, by simp only [ak] at hm; omega⟩
  have hne : brs (c + 1) s ++ suf ≠ [] := by
   cases suf with
   | nil => exact absurd rfl hs
   | cons y l => simp
  have hf : mr nb ng ⟨6, (c : Int), x, ⟨#[]⟩⟩ (brs (c + 1) s ++ suf) ((x :: s).length : Nat) = 0 := by
   have p : s9 ⟨6, (c : Int), x, ⟨#[]⟩⟩ (brs (c + 1) s ++ suf) ((x :: s).length : Nat) = true := by
    simp [s9, xe, xf, vn, x0]; rfl
   have q : m9 nb ng ⟨6, (c : Int), x, ⟨#[]⟩⟩ = false := by
    simp [m9]; omega
   rw [mr, if_neg (by rw [p]; simp), if_neg (by simp), if_neg (by rw [q]; simp)]
  have hr : so n ⟨6, (c : Int), x, ⟨#[]⟩⟩ ⟨kzs K (m + 1), v, st, bi, ((x :: s).length : Nat)⟩ = .ok (kzs (K ++ [v + x]) m) := by
   rw [so, if_neg (by simp), if_pos rfl]
   exact Rm hK hn
  have hstp := wk hf hr (by simp [jm, h0]) (by simp) (by simp) hne
  have e : (⟨kzs (K ++ [v + x]) m, jx ⟨6, (c : Int), x, ⟨#[]⟩⟩ v, st - jm ⟨6, (c : Int), x, ⟨#[]⟩⟩ + j7 ⟨6, (c : Int), x, ⟨#[]⟩⟩, jx ⟨6, (c : Int), x, ⟨#[]⟩⟩ bi, brI ⟨6, (c : Int), x, ⟨#[]⟩⟩ ((x :: s).length : Nat)⟩ : Sk) = ⟨kzs (K ++ [v + x]) m, v, st, bi, (s.length : Nat)⟩ := by
   simp [jx, jm, j7, brI]
  rw [e] at hstp
  rw [brs, oh hstp]
  have h := Nn (nb := nb) (ng := ng) (n := n) hs s (c + 1) m (K ++ [v + x]) v st bi (by simp [hK]) (by omega) (by simp only [ak] at hm; omega) (by omega) (fun y hy => hx y (by simp [hy])) h0
  rw [h, bq, aj, ak, show m + 1 - (s.length + 1) = m - s.length from by omega]; rfl
end Go.Proofs.Eng
namespace Go.Proofs.Eng
set_option maxRecDepth 100000
theorem Ig {k i : Int} {n : ByteArray} {s : List Int} {l : Nat} (h : fmB k i n s l = true) (hk : k = 5 ∨ k = 6 ∨ k = 11) : l = 0 := by
 rcases hk with rfl | rfl | rfl <;>
 ·simp only [fmB, dw] at h
  have h := h.2
  simp [Ff, Fw, kn] at h
  omega
theorem uq {gl : ByteArray -> Bool} {v k i : Int} {n : ByteArray} {s : List Int} {kids : List Ex} (h : (Ex.mk k i n s kids).err gl v = 0) :
  fmB k i n s kids.length = true ∧ (k = 3 -> isName n = true) ∧ (k = 0 -> i < v) ∧ (k = 5 -> gl n = true) ∧ zd gl k s v 0 kids = 0 := by
 rw [Ex.err] at h
 split at h
 ·omega
 rename_i h1
 split at h
 ·omega
 rename_i h2
 split at h
 ·omega
 rename_i h3
 split at h
 ·omega
 rename_i h4
 refine ⟨by simpa using h1, fun hk => ?_, fun hk => ?_, fun hk => ?_, h⟩
 ·cases hn : isName n
  ·exact absurd ⟨by simp [qa, hk], hn⟩ h2
  ·rfl
 ·rcases Int.lt_or_le i v with h5 | h5
  ·exact h5
  ·exact absurd ⟨hk, by simpa using h5⟩ h3
 ·cases hn : gl n
  ·exact absurd ⟨hk, hn⟩ h4
  ·rfl
theorem I9 {gl : ByteArray -> Bool} {k v : Int} {s : List Int} : ∀ {l : List Ex} {j i : Nat} {x : Ex}, zd gl k s v j l = 0 -> l[i]? = some x -> x.err gl (w64 (v + under k s (j + i))) = 0
 | [], _, _, _, _, h => by simp at h
 | y :: l, j, 0, x, h, hx => by
  simp at hx; subst hx
  rw [zd] at h
  split at h
  ·assumption
  ·rename_i h1; exact absurd h h1
 | y :: l, j, i + 1, x, h, hx => by
  rw [zd] at h
  split at h
  ·have := I9 (j := j + 1) (i := i) h (by simpa using hx)
   rwa [show j + 1 + i = j + (i + 1) from by omega] at this
  ·rename_i h1; exact absurd h h1
theorem xm {gl : ByteArray -> Bool} (e : Ex) : ∀ {v}, e.err gl v = 0 -> e.ar := by
 induction e using Ex.ind with
 | h k i n s kids ih =>
  intro v h
  obtain ⟨h1, _, _, _, h5⟩ := uq h
  obtain ⟨_, _, _, _, _, _, f0, f4, f2, f1, _⟩ := xy h1
  rw [Ex.ar]
  refine ⟨fun hk => List.length_eq_zero_iff.1 (f0 hk).1, fun hk => f1 (.inl hk), f4, fun hk => List.length_eq_zero_iff.1 (Ig h1 (.inl hk)), fun hk => f2 (.inr (.inl hk)), (qx _).2 fun x hx => ?_⟩
  obtain ⟨j, hj⟩ := c7 hx
  exact ih x hx (I9 h5 hj)
theorem Sn {gl : ByteArray -> Bool} {k i : Int} {n : ByteArray} {s : List Int} {l : Nat} (h : fmB k i n s l = true) (j : Nat) : 0 <= under k s j ∧ under k s j <= 64 := by
 obtain ⟨_, _, _, _, _, f, _⟩ := xy h
 unfold under
 split
 ·omega
 ·split
  ·rename_i hj
   have hx : s.getD (j - 1) 0 ∈ s := by
    rw [List.getD, aa (by omega)]; exact List.getElem_mem _
   have := f _ hx
   split <;> omega
  ·omega
theorem I3 {gl : ByteArray -> Bool} {v k i : Int} {n : ByteArray} {s : List Int} {kids : List Ex} (h : (Ex.mk k i n s kids).err gl v = 0) (hv : 0 <= v) (hd : v + 64 * (Ex.mk k i n s kids).dep <= B62) {j : Nat} {x : Ex} (hx : kids[j]? = some x) :
  x.err gl (v + under k s j) = 0 ∧ 0 <= v + under k s j ∧ v + under k s j + 64 * x.dep <= v + 64 * (Ex.mk k i n s kids).dep := by
 obtain ⟨h1, _, _, _, h5⟩ := uq h
 obtain ⟨u0, u1⟩ := Sn (gl := gl) h1 j
 have h6 := I9 h5 hx
 have h7 := Y9 (aq hx)
 rw [Ex.dep] at hd ⊢
 rw [dk, a3o (by unfold B62; omega) (by unfold B62 at *; omega)] at h6
 exact ⟨h6, by omega, by omega⟩
theorem mx0 : max (0 : Int) (-1) = 0 := by decide
theorem C6 {α : Type} {a b : List α} (h : b ≠ []) : a ++ b ≠ [] := by
 intro e; exact h (List.append_eq_nil_iff.1 e).2
section
variable {gs : List Gl} {gl : ByteArray -> Bool} {nb ng n : Nat}
theorem B7 {x : Ins} {rest : List Ins} {br : Int} (h1 : s9 x rest br = true) (h2 : x.op = 4 -> isName x.n = true) (h3 : m9 nb ng x = false) : mr nb ng x rest br = 0 := by
 rw [mr, if_neg (by rw [h1]; simp), if_neg (by rintro ⟨a, b⟩; rw [h2 a] at b; cases b), if_neg (by rw [h3]; simp)]
theorem Sq (hgl : ∀ x, gl x = true -> A4 gs x < ng) (e : Ex) : ∀ {v : Int} {c m : Nat} {K : List Int} {st bi : Int} {suf : List Ins}, e.err gl v = 0 -> 0 <= v -> v + 64 * e.dep <= B62 -> K.length = c -> n < c -> (e.emit gs c).2.length <= m -> c + m = nb -> 0 <= st -> 0 <= bi -> suf ≠ [] ->
  l6 nb ng n suf (e.emit gs c).1 ⟨kzs K m, v, st, bi, 0⟩ = .ok ⟨kzs (K ++ e.ug v) (m - (e.emit gs c).2.length), v, st + 1, bi, 0⟩ := by
 induction e using Ex.ind with
 | h k i nm s kids ih =>
 intro v c m K st bi suf he hv hd hK hn hm hnb hst hbi hs
 have har := xm _ he
 rw [Ex.ar] at har
 obtain ⟨r0, r1, r4, r5, r7, rk⟩ := har
 rw [qx] at rk
 obtain ⟨h1, hnm, hvr, hg, _⟩ := uq he
 have hkid := fun {j : Nat} {x : Ex} (hx : kids[j]? = some x) => I3 he hv hd hx
 obtain ⟨f0, f1, f2, f3, f4, f5, f6, f7, f8, f9, f10⟩ := xy h1
 have hL : ∀ (l : List Ex), (∀ x ∈ l, x ∈ kids ∧ x.err gl v = 0 ∧ v + 64 * x.dep <= B62) -> ∀ {c m : Nat} {K : List Int} {st : Int} {suf : List Ins}, K.length = c -> n < c -> (iq gs c l).2.length <= m -> c + m = nb -> 0 <= st -> suf ≠ [] ->
   l6 nb ng n suf (iq gs c l).1 ⟨kzs K m, v, st, bi, 0⟩ = .ok ⟨kzs (K ++ tv v l) (m - (iq gs c l).2.length), v, st + (l.length : Nat), bi, 0⟩ := by
  intro l
  induction l with
  | nil => intro _ c m K st suf _ _ _ _ _ _; simp [iq, l6, tv]
  | cons x l ihl =>
   intro hx c m K st suf hK hn hm hnb hst hs
   obtain ⟨x1, x2, x3⟩ := hx x (by simp)
   rw [iq] at hm ⊢
   simp only [ah] at hm ⊢
   have hl1 := xr gs x (rk x x1) c v
   rw [vo (ih x x1 (c := c) (m := m) (K := K) (st := st) (bi := bi) x2 hv x3 hK hn (by omega) hnb hst hbi (C6 hs))]
   have := ihl (fun y hy => hx y (by simp [hy])) (c := c + (x.emit gs c).2.length) (m := m - (x.emit gs c).2.length) (K := K ++ x.ug v) (st := st + 1) (suf := suf) (by rw [ah]; omega) (by omega) (by omega) (by omega) (by omega) hs
   rw [this, tv, aj, ak, Nat.sub_sub]
   congr 2
   omega
 have hAll : (∀ j, under k s j = 0) -> ∀ x ∈ kids, x ∈ kids ∧ x.err gl v = 0 ∧ v + 64 * x.dep <= B62 := fun hu x hx => by
  obtain ⟨j, hj⟩ := c7 hx
  obtain ⟨a, _, b⟩ := hkid hj
  rw [hu j, Int.add_zero] at a b
  exact ⟨hx, a, by omega⟩
 have hO : ∀ (op : Int), op = 2 ∨ op = 8 ∨ op = 11 ∨ op = 12 ∨ op = 13 ∨ op = 14 -> jm (.o op) = (kids.length : Nat) -> (∀ j, under k s j = 0) -> (iq gs c kids).2.length <= m ->
   l6 nb ng n suf ((iq gs c kids).1 ++ [.o op]) ⟨kzs K m, v, st, bi, 0⟩ = .ok ⟨kzs (K ++ tv v kids) (m - (iq gs c kids).2.length), v, st + 1, bi, 0⟩ := by
  intro op hop hp hu hm
  rw [vo (hL kids (hAll hu) hK hn hm hnb hst (C6 hs))]
  have hne : op ≠ 1 ∧ op ≠ 6 ∧ op ≠ 0 ∧ op ≠ 10 ∧ op ≠ 3 ∧ op ≠ 9 ∧ op ≠ 5 := by omega
  have hstp := wk (n := n) (t := ⟨kzs (K ++ tv v kids) (m - (iq gs c kids).2.length), v, st + (kids.length : Nat), bi, 0⟩) (Il nb ng (op := op) (by omega) ([] ++ suf)) (P2 n hne.1 hne.2.1 hne.2.2.1 _) (by rw [hp]; simp only []; omega) (fun h => absurd h hne.2.2.2.1) hne.2.2.2.2.1 hs
  rw [oh hstp, l6]
  have q9 : ¬ (Ins.o op).op = 9 := hne.2.2.2.2.2.1
  have q10 : ¬ (Ins.o op).op = 10 := hne.2.2.2.1
  have q5 : ¬ (Ins.o op).op = 5 := hne.2.2.2.2.2.2
  have e1 : jx (.o op) v = v := (if_neg q9).trans (if_neg q10)
  have e2 : jx (.o op) bi = bi := (if_neg q9).trans (if_neg q10)
  have e3 : brI (.o op) 0 = 0 := (if_neg q5).trans rfl
  have q36 : ¬ ((Ins.o op).op = 3 ∨ (Ins.o op).op = 6 ∨ (Ins.o op).op = 9 ∨ (Ins.o op).op = 10) := by show ¬ (op = 3 ∨ op = 6 ∨ op = 9 ∨ op = 10); omega
  have e4 : j7 (.o op) = 1 := if_neg q36
  simp only [e1, e2, e3, e4, hp]
  congr 2
  omega
 have hH : (∀ x, kids[0]? = some x -> x.err gl v = 0 ∧ v + 64 * x.dep <= B62) -> kids ≠ [] -> ∀ {suf : List Ins}, suf ≠ [] -> (ke gs c kids).2.length <= m ->
   l6 nb ng n suf (ke gs c kids).1 ⟨kzs K m, v, st, bi, 0⟩ = .ok ⟨kzs (K ++ ti v kids) (m - (ke gs c kids).2.length), v, st + 1, bi, 0⟩ ∧ (ti v kids).length = (ke gs c kids).2.length := by
  intro hx hne suf hs hm
  cases kids with
  | nil => exact absurd rfl hne
  | cons x l =>
   obtain ⟨a, b⟩ := hx x rfl
   exact ⟨ih x (by simp) a hv b hK hn hm hnb hst hbi hs, xr gs x (rk x (by simp)) c v⟩
 rw [Ex.emit] at hm ⊢
 rw [Ex.ug]
 by_cases k0 : k = 0
 ·rw [if_pos k0] at hm ⊢
  rw [if_pos k0]
  have hi := hvr k0
  have hp : s9 ⟨0, i, 0, ⟨#[]⟩⟩ ([] ++ suf) 0 = true := by
   simp [s9, xe, xf, vn, f2]; rfl
  have hstp := wk (nb := nb) (ng := ng) (n := n) (x := ⟨0, i, 0, ⟨#[]⟩⟩) (rest := [] ++ suf) (t := ⟨kzs K m, v, st, bi, 0⟩) (S := kzs K m) (B7 hp (by simp) (by simp [m9])) (by rw [so, if_neg (by simp), if_neg (by simp), if_neg (by simp; omega)]) (by simp [jm, hst]) (by simp) (by simp) hs
  rw [oh hstp, l6]
  simp [jx, jm, j7, brI, mx0]
 rw [if_neg k0] at hm ⊢
 rw [if_neg k0]
 by_cases k1 : k = 1
 ·rw [if_pos k1] at hm ⊢
  rw [if_pos k1]
  obtain ⟨x, rfl⟩ : ∃ x, kids = [x] := List.length_eq_one_iff.1 (r1 k1)
  have ht : ([x] : List Ex).take 1 = [x] := rfl
  rw [ht] at hm ⊢
  have hm : 1 <= m := by simpa using hm
  simp only [ak, ao, dk]
  obtain ⟨m, rfl⟩ : ∃ m', m = m' + 1 := ⟨m - 1, by omega⟩
  have hp : s9 ⟨1, (c : Nat), 0, ⟨#[]⟩⟩ ([] ++ suf) 0 = true := by
   simp [s9, xe, xf, vn]; rfl
  have hstp := wk (nb := nb) (ng := ng) (n := n) (x := ⟨1, (c : Nat), 0, ⟨#[]⟩⟩) (rest := [] ++ suf) (t := ⟨kzs K (m + 1), v, st, bi, 0⟩) (S := kzs (K ++ [v + 1]) m) (B7 hp (by simp) (by simp [m9]; omega)) (by rw [so, if_pos rfl]; exact Rm hK hn) (by simp [jm, hst]) (by simp) (by simp) hs
  rw [oh hstp, l6]
  simp [jx, jm, j7, brI, mx0]
 rw [if_neg k1] at hm ⊢
 rw [if_neg k1]
 by_cases k3 : k = 3
 ·rw [if_pos k3] at hm ⊢
  rw [if_pos k3]
  have hu : ∀ j, under k s j = 0 := fun j => by rw [under, if_neg (by omega), if_neg (by omega)]
  rw [vo (hL kids (hAll hu) hK hn hm hnb hst (C6 hs))]
  have hi := f10 k3
  have hp : s9 ⟨4, i, (kids.length : Nat), nm⟩ ([] ++ suf) 0 = true := by
   simp [s9, xe, xf, vn, f2]
  have hstp := wk (nb := nb) (ng := ng) (n := n) (x := ⟨4, i, (kids.length : Nat), nm⟩) (rest := [] ++ suf) (t := ⟨kzs (K ++ tv v kids) (m - (iq gs c kids).2.length), v, st + (kids.length : Nat), bi, 0⟩) (S := kzs (K ++ tv v kids) (m - (iq gs c kids).2.length)) (B7 hp (fun _ => hnm k3) (by simp [m9]; omega)) (by rw [so, if_neg (by simp), if_neg (by simp), if_neg (by simp)]) (by simp [jm]; omega) (by simp) (by simp) hs
  rw [oh hstp, l6]
  simp [jx, jm, j7, brI, mx0]
 rw [if_neg k3] at hm ⊢
 rw [if_neg k3]
 by_cases k4 : k = 4
 ·rw [if_pos k4] at hm ⊢
  rw [if_pos k4]
  have hl := r4 k4
  have hne : kids ≠ [] := by rintro rfl; simp at hl
  simp only [ah] at hm ⊢
  have hdl : (kids.drop 1).length = s.length := by rw [b8]; omega
  rw [hdl] at hm ⊢
  obtain ⟨g1, g2⟩ := hH (fun x hx => by
   obtain ⟨a, _, b⟩ := hkid hx
   rw [under, if_neg (by omega), if_neg (by omega), Int.add_zero] at a b
   exact ⟨a, by omega⟩) hne (suf := ⟨5, (s.length : Nat), 0, ⟨#[]⟩⟩ :: brs (c + (ke gs c kids).2.length) s ++ suf) (by simp) (by omega)
  rw [vo g1]
  have hrest : brs (c + (ke gs c kids).2.length) s ++ suf ≠ [] := C6 hs
  have hp : s9 ⟨5, (s.length : Nat), 0, ⟨#[]⟩⟩ (brs (c + (ke gs c kids).2.length) s ++ suf) 0 = true := by
   have hc : zz ⟨5, (s.length : Nat), 0, ⟨#[]⟩⟩ (brs (c + (ke gs c kids).2.length) s ++ suf) = true := by
    have ha : ∀ (s : List Int) (c : Nat) (suf : List Ins), ((brs c s ++ suf).take s.length).all (fun y => y.op == 6) = true := by
     intro s
     induction s with
     | nil => intro c suf; simp
     | cons x s ih => intro c suf; simp only [brs, bn, ak, List.take_succ_cons, da, ih]; rfl
    rw [zz, eu, ha, ah, Ak]
    simp; omega
   simp [s9, xe, xf, vn, hc]; rfl
  have hstp := wk (nb := nb) (ng := ng) (n := n) (x := ⟨5, (s.length : Nat), 0, ⟨#[]⟩⟩) (rest := brs (c + (ke gs c kids).2.length) s ++ suf) (t := ⟨kzs (K ++ ti v kids) (m - (ke gs c kids).2.length), v, st + 1, bi, 0⟩) (S := kzs (K ++ ti v kids) (m - (ke gs c kids).2.length)) (B7 hp (by simp) (by simp [m9])) (by rw [so, if_neg (by simp), if_neg (by simp), if_neg (by simp)]) (by simp [jm]; omega) (by simp) (by simp) hrest
  rw [oh hstp]
  have hb := Nn (nb := nb) (ng := ng) (n := n) hs s (c + (ke gs c kids).2.length) (m - (ke gs c kids).2.length) (K ++ ti v kids) v (st + 1) bi (by rw [ah]; omega) (by omega) (by omega) (by omega) f5 (by omega)
  have e : (⟨kzs (K ++ ti v kids) (m - (ke gs c kids).2.length), jx ⟨5, (s.length : Nat), 0, ⟨#[]⟩⟩ v, st + 1 - jm ⟨5, (s.length : Nat), 0, ⟨#[]⟩⟩ + j7 ⟨5, (s.length : Nat), 0, ⟨#[]⟩⟩, jx ⟨5, (s.length : Nat), 0, ⟨#[]⟩⟩ bi, brI ⟨5, (s.length : Nat), 0, ⟨#[]⟩⟩ 0⟩ : Sk) = ⟨kzs (K ++ ti v kids) (m - (ke gs c kids).2.length), v, st + 1, bi, (s.length : Nat)⟩ := by
   simp [jx, jm, j7, brI, mx0]
  rw [e, hb, aj, Nat.sub_sub]
 rw [if_neg k4] at hm ⊢
 rw [if_neg k4]
 by_cases k5 : k = 5
 ·rw [if_pos k5] at hm ⊢
  rw [if_pos k5]
  have hi := hgl nm (hg k5)
  have hp : s9 ⟨7, (A4 gs nm : Nat), 0, ⟨#[]⟩⟩ ([] ++ suf) 0 = true := by
   simp [s9, xe, xf, vn]; rfl
  have hstp := wk (nb := nb) (ng := ng) (n := n) (x := ⟨7, (A4 gs nm : Nat), 0, ⟨#[]⟩⟩) (rest := [] ++ suf) (t := ⟨kzs K m, v, st, bi, 0⟩) (S := kzs K m) (B7 hp (by simp) (by simp [m9]; omega)) (by rw [so, if_neg (by simp), if_neg (by simp), if_neg (by simp)]) (by simp [jm, hst]) (by simp) (by simp) hs
  rw [oh hstp, l6]
  simp [jx, jm, j7, brI, mx0]
 rw [if_neg k5] at hm ⊢
 rw [if_neg k5]
 by_cases k7 : k = 7
 ·rw [if_pos k7] at hm ⊢
  rw [if_pos k7]
  obtain ⟨x, y, rfl⟩ : ∃ x y, kids = [x, y] := by
   match kids, r7 k7 with
   | [x, y], _ => exact ⟨x, y, rfl⟩
  obtain ⟨a1, _, a3⟩ := hkid (j := 0) (x := x) rfl
  obtain ⟨b1, b2, b3⟩ := hkid (j := 1) (x := y) rfl
  rw [under, if_neg (by omega), if_neg (by omega), Int.add_zero] at a1 a3
  rw [under, if_pos (.inr ⟨k7, rfl⟩)] at b1 b2 b3
  simp only [ke, yd, ti, O4, ah] at hm ⊢
  have hl1 := xr gs x (rk x (by simp)) c v
  have hl2 := xr gs y (rk y (by simp)) (c + (x.emit gs c).2.length) (v + 1)
  rw [aj, vo (ih x (by simp) (c := c) (m := m) (K := K) (st := st) (bi := bi) a1 hv (by omega) hK hn (by omega) hnb hst hbi (by simp))]
  have hne2 : (y.emit gs (c + (x.emit gs c).2.length)).1 ++ [Ins.o 10] ++ suf ≠ [] := C6 hs
  have hs1 := wk (nb := nb) (ng := ng) (n := n) (x := .o 9) (rest := (y.emit gs (c + (x.emit gs c).2.length)).1 ++ [Ins.o 10] ++ suf) (t := ⟨kzs (K ++ x.ug v) (m - (x.emit gs c).2.length), v, st + 1, bi, 0⟩) (Il nb ng (by omega) _) (P2 n (by omega) (by omega) (by omega) _) (by simp [jm, Ins.o]; omega) (by simp [Ins.o]) (by simp [Ins.o]) hne2
  rw [bn, oh hs1]
  have e1 : (⟨kzs (K ++ x.ug v) (m - (x.emit gs c).2.length), jx (.o 9) v, st + 1 - jm (.o 9) + j7 (.o 9), jx (.o 9) bi, brI (.o 9) 0⟩ : Sk) = ⟨kzs (K ++ x.ug v) (m - (x.emit gs c).2.length), v + 1, st, bi + 1, 0⟩ := by
   simp [jx, jm, j7, brI, Ins.o, mx0]
  rw [e1, vo (ih y (by simp) (c := c + (x.emit gs c).2.length) (m := m - (x.emit gs c).2.length) (K := K ++ x.ug v) (st := st) (bi := bi + 1) b1 (by omega) (by omega) (by rw [ah]; omega) (by omega) (by omega) (by omega) hst (by omega) (C6 hs))]
  have hs2 := wk (nb := nb) (ng := ng) (n := n) (x := .o 10) (rest := [] ++ suf) (t := ⟨kzs (K ++ x.ug v ++ y.ug (v + 1)) (m - (x.emit gs c).2.length - (y.emit gs (c + (x.emit gs c).2.length)).2.length), v + 1, st + 1, bi + 1, 0⟩) (Il nb ng (by omega) _) (P2 n (by omega) (by omega) (by omega) _) (by simp [jm, Ins.o]; omega) (by simp [Ins.o]; omega) (by simp [Ins.o]) hs
  rw [oh hs2, l6]
  have e2 : (⟨kzs (K ++ x.ug v ++ y.ug (v + 1)) (m - (x.emit gs c).2.length - (y.emit gs (c + (x.emit gs c).2.length)).2.length), jx (.o 10) (v + 1), st + 1 - jm (.o 10) + j7 (.o 10), jx (.o 10) (bi + 1), brI (.o 10) 0⟩ : Sk) = ⟨kzs (K ++ x.ug v ++ y.ug (v + 1)) (m - (x.emit gs c).2.length - (y.emit gs (c + (x.emit gs c).2.length)).2.length), v, st + 1, bi, 0⟩ := by
   simp [jx, jm, j7, brI, Ins.o, mx0]
  rw [e2, aj, Nat.sub_sub]
 rw [if_neg k7] at hm ⊢
 rw [if_neg k7]
 have hu : ∀ j, under k s j = 0 := fun j => by rw [under, if_neg (by omega), if_neg (by omega)]
 have hks : k = 2 ∨ k = 6 ∨ k = 8 ∨ k = 9 ∨ k = 10 ∨ k = 11 := by omega
 rcases hks with rfl | rfl | rfl | rfl | rfl | rfl
 ·exact hO 2 (by omega) (by rw [f8 (by omega)]; rfl) hu hm
 ·exact hO 8 (by omega) (by rw [Ig h1 (by omega)]; rfl) hu hm
 ·exact hO 11 (by omega) (by rw [f8 (by omega)]; rfl) hu hm
 ·exact hO 12 (by omega) (by rw [f9 (by omega)]; rfl) hu hm
 ·exact hO 13 (by omega) (by rw [f9 (by omega)]; rfl) hu hm
 ·exact hO 14 (by omega) (by rw [Ig h1 (by omega)]; rfl) hu hm
end
end Go.Proofs.Eng
namespace Go.Proofs.Eng
set_option maxRecDepth 100000
def ur (P : Ex -> Int -> Prop) : List Ex -> List Int -> Prop
 | [], [] => True
 | x :: l, z :: zs => P x z ∧ ur P l zs
 | _, _ => False
theorem ur.app {P : Ex -> Int -> Prop} : ∀ {l m : List Ex} {zs ws : List Int}, ur P l zs -> ur P m ws -> ur P (l ++ m) (zs ++ ws)
 | [], _, [], _, _, h => h
 | _ :: _, _, _ :: _, _, h, k => ⟨h.1, ur.app h.2 k⟩
 | [], _, _ :: _, _, h, _ => h.elim
 | _ :: _, _, [], _, h, _ => h.elim
theorem ur.len {P : Ex -> Int -> Prop} : ∀ {l : List Ex} {zs : List Int}, ur P l zs -> l.length = zs.length
 | [], [], _ => rfl
 | _ :: _, _ :: _, h => by simp [ur.len h.2]
 | [], _ :: _, h => h.elim
 | _ :: _, [], h => h.elim
def Bj (gl : ByteArray -> Bool) (B : Int) (x : Ex) (z : Int) : Prop := x.err gl z = 0 ∧ 0 <= z ∧ z + 64 * x.dep <= B
section
variable {gs : List Gl} {gl : ByteArray -> Bool} {nb ng : Nat} {B : Int}
theorem Ka (hB : B <= B62) (e : Ex) : ∀ {v : Int} {c : Nat}, Bj gl B e v -> ur (Bj gl B) (e.emit gs c).2 (e.ug v) := by
 induction e using Ex.ind with
 | h k i nm s kids ih =>
 intro v c ⟨he, hv, hd⟩
 have har := xm _ he
 rw [Ex.ar] at har
 obtain ⟨r0, r1, r4, r5, r7, rk⟩ := har
 obtain ⟨h1, _, _, _, _⟩ := uq he
 have hkid : ∀ {j : Nat} {x : Ex}, kids[j]? = some x -> Bj gl B x (v + under k s j) := fun {j x} hx => by
  obtain ⟨a, b, d⟩ := I3 he hv (by omega) hx
  exact ⟨a, b, by omega⟩
 obtain ⟨f0, f1, f2, f3, f4, f5, f6, f7, f8, f9, f10⟩ := xy h1
 have hL : ∀ (l : List Ex), (∀ x ∈ l, x ∈ kids ∧ Bj gl B x v) -> ∀ {c : Nat}, ur (Bj gl B) (iq gs c l).2 (tv v l) := by
  intro l
  induction l with
  | nil => intro _ c; trivial
  | cons x l ihl =>
   intro h c
   rw [iq, tv]
   exact (ih x (h x (by simp)).1 (h x (by simp)).2).app (ihl fun y hy => h y (by simp [hy]))
 have hAll : (∀ j, under k s j = 0) -> ur (Bj gl B) (iq gs c kids).2 (tv v kids) := fun hu => hL kids fun x hx => by
  obtain ⟨j, hj⟩ := c7 hx
  have := hkid hj
  rw [hu j, Int.add_zero] at this
  exact ⟨hx, this⟩
 rw [Ex.emit, Ex.ug]
 by_cases k0 : k = 0
 ·rw [if_pos k0, if_pos k0]; trivial
 rw [if_neg k0, if_neg k0]
 by_cases k1 : k = 1
 ·rw [if_pos k1, if_pos k1]
  obtain ⟨x, rfl⟩ : ∃ x, kids = [x] := List.length_eq_one_iff.1 (r1 k1)
  have := hkid (j := 0) (x := x) rfl
  rw [under, if_pos (.inl k1)] at this
  exact ⟨this, trivial⟩
 rw [if_neg k1, if_neg k1]
 by_cases k3 : k = 3
 ·rw [if_pos k3, if_pos k3]
  exact hAll fun j => by rw [under, if_neg (by omega), if_neg (by omega)]
 rw [if_neg k3, if_neg k3]
 by_cases k4 : k = 4
 ·rw [if_pos k4, if_pos k4]
  have hl := r4 k4
  cases kids with
  | nil => simp at hl
  | cons x l =>
   have hx := hkid (j := 0) (x := x) rfl
   rw [under, if_neg (by omega), if_neg (by omega), Int.add_zero] at hx
   simp only [ke, ti, List.drop_succ_cons, List.drop_zero]
   refine (ih x (by simp) hx).app ?_
   simp only [ak] at hl
   have key : ∀ (l' : List Ex) (s' : List Int), l'.length = s'.length -> (∀ (j : Nat) (y : Ex) (z : Int), l'[j]? = some y -> s'[j]? = some z -> Bj gl B y (v + z)) -> ur (Bj gl B) l' (s'.map (v + ·)) := by
    intro l'
    induction l' with
    | nil => intro s' h _; cases s' with
     | nil => trivial
     | cons z s' => simp at h
    | cons y l' ihl =>
     intro s' h hh
     cases s' with
     | nil => simp at h
     | cons z s' => exact ⟨hh 0 y z rfl rfl, ihl s' (by simpa using h) fun j y z h1 h2 => hh (j + 1) y z (by simpa using h1) (by simpa using h2)⟩
   refine key l s (by omega) fun j y z hy hz => ?_
   have := hkid (j := j + 1) (x := y) (by simpa using hy)
   have hlt := (List.getElem?_eq_some_iff.1 hz).1
   have hzs : z ∈ s := aq hz
   rw [under, if_neg (by omega), if_pos ⟨k4, by omega, by omega⟩, Nat.add_sub_cancel, List.getD, hz] at this
   simp only [Option.getD_some] at this
   have h0 := f5 z hzs
   split at this
   ·exact this
   ·rw [show z = 0 from by omega]; exact this
 rw [if_neg k4, if_neg k4]
 by_cases k5 : k = 5
 ·rw [if_pos k5, if_pos k5]; trivial
 rw [if_neg k5, if_neg k5]
 by_cases k7 : k = 7
 ·rw [if_pos k7, if_pos k7]
  obtain ⟨x, y, rfl⟩ : ∃ x y, kids = [x, y] := by
   match kids, r7 k7 with
   | [x, y], _ => exact ⟨x, y, rfl⟩
  have a := hkid (j := 0) (x := x) rfl
  have b := hkid (j := 1) (x := y) rfl
  rw [under, if_neg (by omega), if_neg (by omega), Int.add_zero] at a
  rw [under, if_pos (.inr ⟨k7, rfl⟩)] at b
  simp only [ke, yd, ti, O4]
  exact (ih x (by simp) a).app (ih y (by simp) b)
 rw [if_neg k7, if_neg k7]
 exact hAll fun j => by rw [under, if_neg (by omega), if_neg (by omega)]
theorem a01 (nb ng n : Nat) (S : List Int) (v : Int) : stp nb ng n (.o 3) [] ⟨S, v, 1, 0, 0⟩ = .ok ⟨S, v, 1, 0, 0⟩ := by
 rw [stp, if_neg (by rw [Il nb ng (by omega)]; simp), P2 n (by omega) (by omega) (by omega)]
 rfl
theorem a3j {K zs : List Int} {n m : Nat} {z : Int} (h : K.drop n = z :: zs) : (kzs K m).getD n 0 = z := by
 have hn : n < K.length := by
  rcases di n K.length with h1 | h1
  ·exact h1
  ·rw [bt h1] at h; cases h
 have : K[n]? = some z := by rw [<- Nat.add_zero n, <- ba, h]; rfl
 rw [kzs, List.getD, ae hn, this]; rfl
theorem Qq {K L zs : List Int} {n : Nat} {z : Int} (h : K.drop n = z :: zs) : (K ++ L).drop (n + 1) = zs ++ L := by
 have hn : n < K.length := by
  rcases di n K.length with h1 | h1
  ·exact h1
  ·rw [bt h1] at h; cases h
 rw [List.drop_append_of_le_length (by omega), <- List.drop_drop, h]; rfl
theorem Qi (hgl : ∀ x, gl x = true -> A4 gs x < ng) (hB : B <= B62) {e : Ex} {v : Int} {c m n : Nat} {K : List Int} (he : Bj gl B e v) (hK : K.length = c) (hn : n < c) (hm : (e.emit gs c).2.length <= m) (hnb : c + m = nb) :
  l6 nb ng n [] ((e.emit gs c).1 ++ [.o 3]) ⟨kzs K m, v, 0, 0, 0⟩ = .ok ⟨kzs (K ++ e.ug v) (m - (e.emit gs c).2.length), v, 1, 0, 0⟩ := by
 obtain ⟨h1, h2, h3⟩ := he
 rw [vo (Sq hgl e (c := c) (m := m) (K := K) (st := 0) (bi := 0) h1 h2 (by omega) hK hn hm hnb (by omega) (by omega) (by simp)), Int.zero_add, oh (a01 nb ng n _ v)]
 rfl
theorem Wg (hgl : ∀ x, gl x = true -> A4 gs x < ng) (hB : B <= B62) : ∀ (f : Nat) {l : List Ex} {c n m : Nat} {K zs : List Int}, szL l <= f -> K.length = c -> n + l.length = c -> K.drop n = zs -> ur (Bj gl B) l zs -> m = nbL l -> c + m = nb ->
  goB nb ng n (blocks gs f c l) (kzs K m) = 0
 | f, [], c, n, m, K, zs, _, _, _, _, _, _, _ => by cases f <;> rfl
 | 0, x :: l, c, n, m, K, zs, h, _, _, _, _, _, _ => by cases x; simp [szL, Ex.sz] at h
 | f + 1, x :: l, c, n, m, K, [], _, _, _, _, h, _, _ => h.elim
 | f + 1, x :: l, c, n, m, K, z :: zs, hf, hK, hn, hd, ⟨hx, hl⟩, hm, hnb => by
  have h1 := Ae gs x c
  rw [szL] at hf
  rw [nbL] at hm
  simp only [ak] at hn
  obtain ⟨a1, _, _⟩ := Ey gs x (xm _ hx.1) c
  have hlen := xr gs x (xm _ hx.1) c z
  rw [blocks, goB, a3j hd, if_neg (by have := hx.2.1; omega), if_neg (by simp), Qi hgl hB hx hK (by omega) (by omega) hnb]
  exact Wg hgl hB f (by rw [mv]; omega) (by rw [ah]; omega) (by rw [ah]; omega) (Qq hd) (hl.app (Ka hB x hx)) (by rw [yj]; omega) (by omega)
end
end Go.Proofs.Eng
namespace Go.Proofs.Eng
set_option maxRecDepth 100000
def Pr.es (p : Pr) : List Ex := p.main :: p.gs.map (·.2)
def m4 (p : Pr) : Cd := ⟨F8 p.gs p.es, p.gs.map (·.1), (List.range' 1 p.gs.length).map fun (i : Nat) => (i : Int)⟩
structure Fs (p : Pr) (B : Int) : Prop where
 main : Bj p.gl B p.main 0
 gs : ∀ g ∈ p.gs, isName g.1 = true ∧ Bj p.gl B g.2 0
 nd : oy [] (p.gs.map (·.1)) = false
 hB : B <= B62
theorem Ns : ∀ {gs : List Gl} {n : ByteArray}, (tz gs n).isSome = true -> A4 gs n < gs.length
 | [], n, h => by simp [tz] at h
 | g :: gs, n, h => by
  rw [A4, ak]
  rw [tz] at h
  split
  ·omega
  ·rename_i hn
   rw [if_neg hn] at h
   have := Ns h; omega
theorem Fs.all {p : Pr} {B : Int} (h : Fs p B) : ∀ e ∈ p.es, Bj p.gl B e 0 := fun e he => by
 rcases List.mem_cons.1 he with rfl | he
 ·exact h.main
 ·obtain ⟨g, hg, rfl⟩ := List.mem_map.1 he
  exact (h.gs g hg).2
theorem Fs.ar {p : Pr} {B : Int} (h : Fs p B) : arL p.es := (qx _).2 fun e he => xm _ (h.all e he).1
theorem Hh (p : Pr) : p.es.length = p.gs.length + 1 := by simp [Pr.es]
theorem Dr {p : Pr} {B : Int} (h : Fs p B) : (m4 p).bl.length = p.gs.length + 1 + nbL p.es ∧ ((m4 p).bl.map List.length).sum = p.gs.length + 1 + niL p.es := by
 have := zw p.gs (szL p.es) p.es.length p.es (dh _) h.ar
 rw [Hh] at this
 rw [m4, F8, Hh]
 exact this
theorem Cm : ∀ (k a : Nat) (l : List Int), (∀ x ∈ l, x < a) -> oy l ((List.range' a k).map fun (i : Nat) => (i : Int)) = false
 | 0, _, _, _ => rfl
 | k + 1, a, l, h => by
  rw [List.range'_succ, bq, oy, Cm k (a + 1) (l ++ [(a : Int)])]
  ·have : ¬ ((a : Int) ∈ l) := fun hm => by have := h _ hm; omega
   simp [this]
  ·intro x hx
   rcases List.mem_append.1 hx with hx | hx
   ·have := h x hx; omega
   ·rw [List.mem_singleton.1 hx]; omega
theorem Dz : ∀ (k a m : Nat), k <= m -> ((List.range' a k).map fun (i : Nat) => (i : Int)).foldl (fun S s => S.set s.toNat 0) (kzs (List.replicate a 0) m) = kzs (List.replicate (a + k) 0) (m - k)
 | 0, a, m, _ => by simp
 | k + 1, a, m, h => by
  obtain ⟨m, rfl⟩ : ∃ m', m = m' + 1 := ⟨m - 1, by omega⟩
  have e : (kzs (List.replicate a 0) (m + 1)).set a 0 = kzs (List.replicate (a + 1) 0) m := by
   rw [kzs, kzs, List.set_append_right _ _ (by simp), List.length_replicate, Nat.sub_self, List.replicate_succ, bz, List.replicate_succ' (n := a), aj]; rfl
  rw [List.range'_succ, bq, db, eu, e, Dz k (a + 1) m (by omega), show a + 1 + k = a + (k + 1) from by omega, show m + 1 - (k + 1) = m - k from by omega]
theorem Cc {P : Ex -> Int -> Prop} : ∀ {l : List Ex}, (∀ e ∈ l, P e 0) -> ur P l (List.replicate l.length 0)
 | [], _ => trivial
 | x :: l, h => ⟨h x (by simp), Cc fun e he => h e (by simp [he])⟩
theorem Si {p : Pr} {B : Int} (h : Fs p B) {bl : List (List Ins)} (hb : bl.length = p.gs.length + 1 + nbL p.es) :
  (Cd.mk bl (p.gs.map (·.1)) ((List.range' 1 p.gs.length).map fun (i : Nat) => (i : Int))).check = goB (p.gs.length + 1 + nbL p.es) p.gs.length 0 bl (kzs (List.replicate p.es.length 0) (nbL p.es)) := by
 have hout : (Cd.mk bl (p.gs.map (·.1)) ((List.range' 1 p.gs.length).map fun (i : Nat) => (i : Int))).D3 = 0 := by
  rw [Cd.D3, if_neg, if_neg, if_neg]
  ·simp only []; rw [h.nd]; simp
  ·simp only [c9, not_exists, not_and]
   intro n hn
   obtain ⟨g, hg, rfl⟩ := List.mem_map.1 hn
   rw [(h.gs g hg).1]; simp
  ·rintro (h1 | h1 | h1 | h1)
   ·simp only [] at h1; rw [h1] at hb; simp at hb; omega
   ·simp at h1
   ·simp only [c9] at h1
    obtain ⟨s, hs, h1⟩ := h1
    obtain ⟨i, hi, rfl⟩ := List.mem_map.1 hs
    obtain ⟨i1, i2⟩ := List.mem_range'_1.1 hi
    simp only [ed, decide_eq_true_eq] at h1
    omega
   ·simp only [] at h1; rw [Cm _ _ _ (by simp)] at h1; cases h1
 rw [Cd.check, if_neg (by rw [hout]; simp), Cd.S0]
 simp only [de, hb]
 have e : (List.replicate (p.gs.length + 1 + nbL p.es) (-1 : Int)).set 0 0 = kzs (List.replicate 1 0) (p.gs.length + nbL p.es) := by
  rw [show p.gs.length + 1 + nbL p.es = (p.gs.length + nbL p.es) + 1 from by omega, List.replicate_succ, bz]; rfl
 rw [e, Dz _ _ _ (by omega), Hh, show 1 + p.gs.length = p.gs.length + 1 from by omega, show p.gs.length + nbL p.es - p.gs.length = nbL p.es from by omega]
theorem Z9 {p : Pr} {B : Int} (h : Fs p B) : (m4 p).check = 0 := by
 have hc := (Dr h).1
 have := Si h hc
 rw [m4] at this ⊢
 simp only [m4] at hc
 rw [this, F8]
 exact Wg (gl := p.gl) (B := B) (fun x hx => Ns hx) h.hB (szL p.es) (dh _) (by simp) (by simp) rfl (Cc h.all) rfl (by rw [Hh])
end Go.Proofs.Eng
