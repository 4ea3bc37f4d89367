/- The code of a program: plain law. No conditions beyond those in the theorems. -/
import Derived.Test.YtflfmkkcnphdcaaGreatP1
set_option linter.all false
set_option linter.deprecated false
set_option linter.unnecessarySimpa false
set_option linter.unusedVariables false
set_option linter.unusedSimpArgs false
set_option linter.defProp false
namespace Go.Proofs.Eng
theorem a5m {n : Int} (h0 : -B62 <= n) (h1 : n <= B62) : w64 n = n := je (by unfold m7; unfold B62 at *; omega)
end Go.Proofs.Eng
namespace Go.Proofs.Eng
structure Ins where
 op : Int
 a : Int
 b : Int
 n : ByteArray
 deriving DecidableEq
def Ins.o (op : Int) : Ins := ⟨op, 0, 0, ⟨#[]⟩⟩
def zq : List Gl -> ByteArray -> Nat
 | [], _ => 0
 | g :: gs, n => if g.1 = n then 0 else zq gs n + 1
def opK (k : Int) : Int := if k = 2 then 2 else if k = 6 then 8 else if k = 8 then 11 else if k = 9 then 12 else if k = 10 then 13 else 14
def brs : Nat -> List Int -> List Ins
 | _, [] => []
 | c, x :: l => ⟨6, (c : Int), x, ⟨#[]⟩⟩ :: brs (c + 1) l
section
variable (gs : List Gl)
mutual
def Ex.emit (c : Nat) : Ex -> List Ins × List Ex
 | .mk k i n s kids =>
  if k = 0 then ([⟨0, i, 0, ⟨#[]⟩⟩], [])
  else if k = 1 then ([⟨1, (c : Int), 0, ⟨#[]⟩⟩], kids.take 1)
  else if k = 3 then ((im c kids).1 ++ [⟨4, i, (kids.length : Nat), n⟩], (im c kids).2)
  else if k = 4 then ((kh c kids).1 ++ ⟨5, (s.length : Nat), 0, ⟨#[]⟩⟩ :: brs (c + (kh c kids).2.length) s, (kh c kids).2 ++ kids.drop 1)
  else if k = 5 then ([⟨7, (zq gs n : Nat), 0, ⟨#[]⟩⟩], [])
  else if k = 7 then ((kh c kids).1 ++ .o 9 :: (yj c kids).1 ++ [.o 10], (kh c kids).2 ++ (yj c kids).2)
  else ((im c kids).1 ++ [.o (opK k)], (im c kids).2)
def im (c : Nat) : List Ex -> List Ins × List Ex
 | [] => ([], [])
 | x :: l => ((x.emit c).1 ++ (im (c + (x.emit c).2.length) l).1, (x.emit c).2 ++ (im (c + (x.emit c).2.length) l).2)
def kh (c : Nat) : List Ex -> List Ins × List Ex
 | [] => ([], [])
 | x :: _ => x.emit c
def yj (c : Nat) : List Ex -> List Ins × List Ex
 | [] => ([], [])
 | x :: l => kh (c + (x.emit c).2.length) l
end
theorem Fu : ∀ (l : List Ex) (c : Nat) (x : Ex), im gs c (l ++ [x]) = ((im gs c l).1 ++ (x.emit gs (c + (im gs c l).2.length)).1, (im gs c l).2 ++ (x.emit gs (c + (im gs c l).2.length)).2)
 | [], c, x => by simp [im]
 | y :: l, c, x => by
  simp only [bn, im, Fu l, aj, ah, du]
theorem Bh : ∀ (s : List Int) (c : Nat), (brs c s).length = s.length
 | [], _ => rfl
 | x :: l, c => by simp [brs, Bh l]
theorem Ls : ∀ (s : List Int) (c : Nat) (x : Int), brs c (s ++ [x]) = brs c s ++ [⟨6, ((c + s.length : Nat) : Int), x, ⟨#[]⟩⟩]
 | [], c, x => by simp [brs]
 | y :: l, c, x => by
  rw [bn, brs, Ls l, brs, ak, bn, show c + 1 + l.length = c + (l.length + 1) from by omega]
end
mutual
def Ex.sz : Ex -> Nat
 | .mk _ _ _ _ kids => szL kids + 1
def szL : List Ex -> Nat
 | [] => 0
 | e :: es => e.sz + szL es
end
theorem oj : ∀ (l m : List Ex), szL (l ++ m) = szL l + szL m
 | [], m => by simp [szL]
 | x :: l, m => by rw [bn, szL, oj l, szL]; omega
theorem Z4 (l : List Ex) (n : Nat) : szL (l.take n) <= szL l := by
 have := oj (l.take n) (l.drop n)
 rw [cx] at this; omega
theorem a0v (l : List Ex) (n : Nat) : szL (l.drop n) + szL (l.take n) = szL l := by
 have := oj (l.take n) (l.drop n)
 rw [cx] at this; omega
theorem C5 (gs : List Gl) (e : Ex) : ∀ c, szL (e.emit gs c).2 < e.sz := by
 induction e using Ex.ind with
 | h k i n s kids ih =>
  intro c
  have hL : ∀ (l : List Ex), (∀ x ∈ l, x ∈ kids) -> ∀ c, szL (im gs c l).2 <= szL l := by
   intro l
   induction l with
   | nil => intro _ c; simp [im]
   | cons x l ihl =>
    intro h c
    rw [im, oj, szL]
    have h1 := ih x (h x (by simp)) c
    have h2 := ihl (λ y hy => h y (by simp [hy])) (c + (x.emit gs c).2.length)
    omega
  have hH : ∀ c, szL (kh gs c kids).2 <= szL (kids.take 1) := by
   intro c
   cases kids with
   | nil => simp [kh]
   | cons x l =>
    have := ih x (by simp) c
    simp only [kh, List.take_succ_cons, List.take_zero, szL]; omega
  have hT : ∀ c, szL (yj gs c kids).2 <= szL (kids.drop 1) := by
   intro c
   cases kids with
   | nil => simp [yj]
   | cons x l =>
    cases l with
    | nil => simp [yj, kh, szL]
    | cons y l =>
     have := ih y (by simp) (c + (x.emit gs c).2.length)
     simp only [yj, kh, List.drop_succ_cons, List.drop_zero, szL]; omega
  rw [Ex.emit, Ex.sz]
  have a1 := Z4 kids 1
  have a2 := a0v kids 1
  have a3 := hH c
  have a4 := hT c
  have a5 := hL kids (λ _ h => h) c
  repeat' split
  all_goals simp only [oj, szL] <;> omega
def blocks (gs : List Gl) : Nat -> Nat -> List Ex -> List (List Ins)
 | 0, _, _ => []
 | _, _, [] => []
 | f + 1, c, e :: l => ((e.emit gs c).1 ++ [.o 3]) :: blocks gs f (c + (e.emit gs c).2.length) (l ++ (e.emit gs c).2)
theorem ui (gs : List Gl) : ∀ (f g c : Nat) (l : List Ex), szL l <= f -> szL l <= g -> blocks gs f c l = blocks gs g c l
 | 0, g, c, l, h1, h2 => by
  cases l with
  | nil => cases g <;> rfl
  | cons x l => cases x; simp [szL, Ex.sz] at h1
 | f + 1, g, c, [], _, _ => by cases g <;> rfl
 | f + 1, 0, c, x :: l, h1, h2 => by cases x; simp [szL, Ex.sz] at h2
 | f + 1, g + 1, c, x :: l, h1, h2 => by
  have := C5 gs x c
  rw [szL] at h1 h2
  rw [blocks, blocks, ui gs f g _ _ (by rw [oj]; omega) (by rw [oj]; omega)]
def yk (gs : List Gl) (l : List Ex) : List (List Ins) := blocks gs (szL l) l.length l
theorem yp {gs : List Gl} {f c : Nat} {x : Ex} {l : List Ex} (h : szL (x :: l) <= f) : blocks gs f c (x :: l) = ((x.emit gs c).1 ++ [.o 3]) :: blocks gs f (c + (x.emit gs c).2.length) (l ++ (x.emit gs c).2) := by
 have h1 := C5 gs x c
 rw [szL] at h
 cases f with
 | zero => omega
 | succ f =>
  rw [blocks, ui gs f (f + 1) _ _ (by rw [oj]; omega) (by rw [oj]; omega)]
mutual
def Ex.nb : Ex -> Nat
 | .mk k _ _ s kids => (if k = 1 then 1 else if k = 4 then s.length else 0) + nbL kids
def nbL : List Ex -> Nat
 | [] => 0
 | x :: l => x.nb + nbL l
end
mutual
def Ex.ni : Ex -> Nat
 | .mk k _ _ s kids => (if k = 1 then 2 else if k = 4 then 1 + 2 * s.length else if k = 7 then 2 else 1) + niL kids
def niL : List Ex -> Nat
 | [] => 0
 | x :: l => x.ni + niL l
end
mutual
def Ex.ar : Ex -> Prop
 | .mk k _ _ s kids => (k = 0 -> kids = []) /\ (k = 1 -> kids.length = 1) /\ (k = 4 -> kids.length = s.length + 1) /\ (k = 5 -> kids = []) /\ (k = 7 -> kids.length = 2) /\ arL kids
def arL : List Ex -> Prop
 | [] => True
 | x :: l => x.ar /\ arL l
end
theorem ra : ∀ l : List Ex, arL l ↔ ∀ x ∈ l, x.ar
 | [] => by simp [arL]
 | x :: l => by simp [arL, ra l]
theorem zn : ∀ (l m : List Ex), nbL (l ++ m) = nbL l + nbL m
 | [], m => by simp [nbL]
 | x :: l, m => by rw [bn, nbL, zn l, nbL]; omega
theorem Ba : ∀ (l m : List Ex), niL (l ++ m) = niL l + niL m
 | [], m => by simp [niL]
 | x :: l, m => by rw [bn, niL, Ba l, niL]; omega
def Cnt (gs : List Gl) (c : Nat) (r : List Ins × List Ex) (n m : Nat) : Prop := r.2.length + nbL r.2 = n /\ r.1.length + niL r.2 + r.2.length = m /\ arL r.2
theorem Dr (l m : List Ex) : arL (l ++ m) ↔ arL l /\ arL m := by
 simp only [ra, List.mem_append]
 exact ⟨λ h => ⟨λ x hx => h x (.inl hx), λ x hx => h x (.inr hx)⟩, λ h x hx => hx.elim (h.1 x) (h.2 x)⟩
theorem Fm (gs : List Gl) (e : Ex) : e.ar -> ∀ c, Cnt gs c (e.emit gs c) e.nb e.ni := by
 induction e using Ex.ind with
 | h k i n s kids ih =>
  intro ha c
  rw [Ex.ar] at ha
  obtain ⟨h0, h1, h4, h5, h7, hk⟩ := ha
  rw [ra] at hk
  have hL : ∀ (l : List Ex), (∀ x ∈ l, x ∈ kids) -> ∀ c, Cnt gs c (im gs c l) (nbL l) (niL l) := by
   intro l
   induction l with
   | nil => intro _ c; exact ⟨by simp [im, nbL], by simp [im, niL], by simp [im, arL]⟩
   | cons x l ihl =>
    intro h c
    obtain ⟨a1, a2, a3⟩ := ih x (h x (by simp)) (hk x (h x (by simp))) c
    obtain ⟨b1, b2, b3⟩ := ihl (λ y hy => h y (by simp [hy])) (c + (x.emit gs c).2.length)
    refine ⟨?_, ?_, ?_⟩
    ·simp only [im, ah, zn, nbL]; omega
    ·simp only [im, ah, Ba, niL]; omega
    ·simp only [im, Dr]; exact ⟨a3, b3⟩
  rw [Ex.emit, Ex.nb, Ex.ni]
  by_cases k0 : k = 0
  ·have := h0 k0; subst this
   rw [if_pos k0, if_neg (by omega), if_neg (by omega), if_neg (by omega), if_neg (by omega), if_neg (by omega)]
   exact ⟨by simp [nbL], by simp [niL], by simp [arL]⟩
  rw [if_neg k0]
  by_cases k1 : k = 1
  ·match kids, h1 k1 with
   | [x], _ =>
    rw [if_pos k1, if_pos k1, if_pos k1]
    exact ⟨by simp [nbL], by simp [niL]; omega, by simp [arL, hk x (by simp)]⟩
  rw [if_neg k1, if_neg k1, if_neg k1]
  obtain ⟨a1, a2, a3⟩ := hL kids (λ _ h => h) c
  by_cases k3 : k = 3
  ·rw [if_pos k3, if_neg (by omega), if_neg (by omega), if_neg (by omega)]
   exact ⟨by simp only []; omega, by simp only [ah, ak, ao]; omega, a3⟩
  rw [if_neg k3]
  by_cases k4 : k = 4
  ·rw [if_pos k4, if_pos k4, if_pos k4]
   have hl := h4 k4
   cases kids with
   | nil => simp at hl
   | cons x l =>
    obtain ⟨b1, b2, b3⟩ := ih x (by simp) (hk x (by simp)) c
    simp only [kh, List.drop_succ_cons, List.drop_zero]
    simp only [ak] at hl
    refine ⟨by simp only [ah, zn, nbL]; omega, by simp only [ah, ak, Ba, niL, Bh]; omega, ?_⟩
    simp only [Dr]
    exact ⟨b3, (ra l).2 λ y hy => hk y (by simp [hy])⟩
  rw [if_neg k4, if_neg k4, if_neg k4]
  by_cases k5 : k = 5
  ·have := h5 k5; subst this
   rw [if_pos k5, if_neg (by omega)]
   exact ⟨by simp [nbL], by simp [niL], by simp [arL]⟩
  rw [if_neg k5]
  by_cases k7 : k = 7
  ·rw [if_pos k7, if_pos k7]
   match kids, h7 k7 with
   | [x, y], _ =>
    obtain ⟨b1, b2, b3⟩ := ih x (by simp) (hk x (by simp)) c
    obtain ⟨d1, d2, d3⟩ := ih y (by simp) (hk y (by simp)) (c + (x.emit gs c).2.length)
    simp only [kh, yj]
    refine ⟨by simp only [ah, zn, nbL]; omega, by simp only [ah, ak, ao, Ba, niL]; omega, ?_⟩
    simp only [Dr]
    exact ⟨b3, d3⟩
  rw [if_neg k7, if_neg k7]
  exact ⟨by simp only []; omega, by simp only [ah, ak, ao]; omega, a3⟩
theorem Aj (gs : List Gl) : ∀ (f c : Nat) (l : List Ex), szL l <= f -> arL l -> (blocks gs f c l).length = l.length + nbL l /\ ((blocks gs f c l).map List.length).sum = l.length + niL l
 | f, c, [], _, _ => by cases f <;> simp [blocks, nbL, niL]
 | 0, c, x :: l, h, _ => by cases x; simp [szL, Ex.sz] at h
 | f + 1, c, x :: l, h, ha => by
  have h1 := C5 gs x c
  rw [szL] at h
  rw [arL] at ha
  obtain ⟨a1, a2, a3⟩ := Fm gs x ha.1 c
  obtain ⟨b1, b2⟩ := Aj gs f (c + (x.emit gs c).2.length) (l ++ (x.emit gs c).2) (by rw [oj]; omega) ((Dr _ _).2 ⟨ha.2, a3⟩)
  rw [zn, ah] at b1
  rw [Ba, ah] at b2
  rw [blocks, ak, b1, bq, List.sum_cons, b2, ak, nbL, niL, ah, ak, ao]
  omega
end Go.Proofs.Eng
namespace Go.Proofs.Eng
structure Cd where
 bl : List (List Ins)
 gl : List ByteArray
 st : List Int
def xr (op : Int) : Bool := op == 0 || op == 1 || op == 5 || op == 7 || op == 6 || op == 4
def xm (op : Int) : Bool := op == 6 || op == 4
def vi (op : Int) : Bool := op == 4
def Aa (x : Ins) (rest : List Ins) : Bool := decide (x.a <= 32) && decide (x.a <= (rest.length : Nat)) && (rest.take x.a.toNat).all λ y => y.op == 6
def sq (x : Ins) (rest : List Ins) (br : Int) : Bool :=
 decide (0 <= x.op) && decide (x.op <= 14) && decide (0 <= x.a) && decide (0 <= x.b) && (xr x.op || x.a == 0) && (xm x.op || x.b == 0) && (vi x.op || x.n.size == 0) && ((x.op == 6) == decide (0 < br)) && (x.op != 5 || Aa x rest)
def ma (nb ng : Nat) (x : Ins) : Bool := x.op == 4 && decide (32 <= x.a) || x.op == 6 && decide (64 < x.b) || (x.op == 1 || x.op == 6) && decide ((nb : Int) <= x.a) || x.op == 7 && decide ((ng : Int) <= x.a)
def mw (nb ng : Nat) (x : Ins) (rest : List Ins) (br : Int) : Int := if sq x rest br = false then 3 else if x.op = 4 /\ isName x.n = false then 29 else if ma nb ng x = true then 2 else 0
structure Sk where
 S : List Int
 env : Int
 stack : Int
 binds : Int
 br : Int
def yi (n : Nat) (S : List Int) (b size : Int) : Except Int (List Int) := if 0 <= S.getD b.toNat 0 then .error 8 else if b <= n then .error 1 else .ok (S.set b.toNat size)
def tc (n : Nat) (x : Ins) (t : Sk) : Except Int (List Int) := if x.op = 1 then yi n t.S x.a (t.env + 1) else if x.op = 6 then yi n t.S x.a (t.env + x.b) else if x.op = 0 /\ t.env <= x.a then .error 24 else .ok t.S
def jq (x : Ins) : Int := if x.op = 2 \/ x.op = 11 then 2 else if x.op = 4 then x.b else if x.op = 5 \/ x.op = 12 \/ x.op = 13 \/ x.op = 9 then 1 else 0
def j7 (x : Ins) : Int := if x.op = 3 \/ x.op = 6 \/ x.op = 9 \/ x.op = 10 then 0 else 1
def k9 (x : Ins) (v : Int) : Int := if x.op = 9 then v + 1 else if x.op = 10 then v - 1 else v
def brI (x : Ins) (b : Int) : Int := if x.op = 5 then x.a else max 0 (b - 1)
def By (x : Ins) (rest : List Ins) (S : List Int) (t : Sk) : Except Int Sk :=
 if t.stack < jq x \/ x.op = 10 /\ t.binds = 0 then .error 27
 else if (x.op == 3) != rest.isEmpty then .error 3
 else if x.op = 3 /\ (t.stack - jq x + j7 x ≠ 1 \/ k9 x t.binds ≠ 0) then .error 27
 else .ok ⟨S, k9 x t.env, t.stack - jq x + j7 x, k9 x t.binds, brI x t.br⟩
def stp (nb ng n : Nat) (x : Ins) (rest : List Ins) (t : Sk) : Except Int Sk :=
 if mw nb ng x rest t.br ≠ 0 then .error (mw nb ng x rest t.br) else match tc n x t with
  | .error e => .error e
  | .ok S => By x rest S t
def l6 (nb ng n : Nat) (suf : List Ins) : List Ins -> Sk -> Except Int Sk
 | [], t => .ok t
 | x :: l, t => match stp nb ng n x (l ++ suf) t with
  | .error e => .error e
  | .ok t' => l6 nb ng n suf l t'
def goB (nb ng : Nat) : Nat -> List (List Ins) -> List Int -> Int
 | _, [], _ => 0
 | n, l :: r, S => if S.getD n 0 < 0 then 9 else if l = [] then 3 else match l6 nb ng n [] l ⟨S, S.getD n 0, 0, 0, 0⟩ with
  | .error e => e
  | .ok t => goB nb ng (n + 1) r t.S
def oz {α : Type} [DecidableEq α] : List α -> List α -> Bool
 | _, [] => false
 | p, x :: l => decide (x ∈ p) || oz (p ++ [x]) l
def Cd.Dm (c : Cd) : Int :=
 if c.bl = [] \/ c.st.length ≠ c.gl.length \/ (c.st.any λ s => decide (s < 1) || decide ((c.bl.length : Int) <= s)) = true \/ oz [] c.st = true then 3
 else if (c.gl.any λ g => !isName g) = true then 29
 else if oz [] c.gl = true then 8 else 0
def Cd.S0 (c : Cd) : List Int := c.st.foldl (λ S s => S.set s.toNat 0) ((List.replicate c.bl.length (-1)).set 0 0)
def Cd.check (c : Cd) : Int := if c.Dm ≠ 0 then c.Dm else goB c.bl.length c.gl.length 0 c.bl c.S0
theorem Kf (nb ng n : Nat) (suf : List Ins) : ∀ (a b : List Ins) (t : Sk), l6 nb ng n suf (a ++ b) t = match l6 nb ng n (b ++ suf) a t with
  | .error e => .error e
  | .ok t' => l6 nb ng n suf b t'
 | [], b, t => rfl
 | x :: a, b, t => by
  rw [bn, l6, l6, aj]
  cases stp nb ng n x (a ++ (b ++ suf)) t with
  | error e => rfl
  | ok t' => exact Kf nb ng n suf a b t'
theorem xh {nb ng n : Nat} {suf a b : List Ins} {t t' : Sk} (h : l6 nb ng n (b ++ suf) a t = .ok t') : l6 nb ng n suf (a ++ b) t = l6 nb ng n suf b t' := by rw [Kf, h]
theorem oe {nb ng n : Nat} {suf l : List Ins} {x : Ins} {t t' : Sk} (h : stp nb ng n x (l ++ suf) t = .ok t') : l6 nb ng n suf (x :: l) t = l6 nb ng n suf l t' := by rw [l6, h]
theorem w9 {nb ng n : Nat} {x : Ins} {rest : List Ins} {t : Sk} {S : List Int} (hf : mw nb ng x rest t.br = 0) (hr : tc n x t = .ok S) (hp : jq x <= t.stack) (hb : x.op = 10 -> t.binds ≠ 0) (h3 : x.op ≠ 3) (hs : rest ≠ []) :
  stp nb ng n x rest t = .ok ⟨S, k9 x t.env, t.stack - jq x + j7 x, k9 x t.binds, brI x t.br⟩ := by
 have h1 : ¬ (t.stack < jq x \/ x.op = 10 /\ t.binds = 0) := by
  rintro (h | ⟨h, h'⟩)
  ·omega
  ·exact hb h h'
 have h2 : ¬ (((x.op == 3) != rest.isEmpty) = true) := by
  cases rest with
  | nil => exact absurd rfl hs
  | cons y l => simp [h3]
 have h4 : ¬ (x.op = 3 /\ (t.stack - jq x + j7 x ≠ 1 \/ k9 x t.binds ≠ 0)) := λ h => h3 h.1
 rw [stp, if_neg (by simp [hf]), hr]
 show By x rest S t = _
 rw [By, if_neg h1, if_neg h2, if_neg h4]
theorem Iz (nb ng : Nat) {op : Int} (h : op = 2 \/ op = 3 \/ op = 8 \/ op = 9 \/ op = 10 \/ op = 11 \/ op = 12 \/ op = 13 \/ op = 14) (rest : List Ins) : mw nb ng (.o op) rest 0 = 0 := by
 rcases h with rfl | rfl | rfl | rfl | rfl | rfl | rfl | rfl | rfl <;> rfl
theorem Pe (n : Nat) {op : Int} (h1 : op ≠ 1) (h2 : op ≠ 6) (h3 : op ≠ 0) (t : Sk) : tc n (.o op) t = .ok t.S := by
 rw [tc, if_neg (by exact h1), if_neg (by exact h2), if_neg (by rintro ⟨h, _⟩; exact h3 h)]
mutual
def Ex.uw (v : Int) : Ex -> List Int
 | .mk k _ _ s kids =>
  if k = 0 then [] else if k = 1 then [v + 1] else if k = 3 then tu v kids else if k = 4 then u7 v kids ++ s.map (v + ·) else if k = 5 then [] else if k = 7 then u7 v kids ++ Pg v kids else tu v kids
def tu (v : Int) : List Ex -> List Int
 | [] => []
 | x :: l => x.uw v ++ tu v l
def u7 (v : Int) : List Ex -> List Int
 | [] => []
 | x :: _ => x.uw v
def Pg (v : Int) : List Ex -> List Int
 | [] => []
 | _ :: l => u7 (v + 1) l
end
theorem xy (gs : List Gl) (e : Ex) : e.ar -> ∀ c v, (e.uw v).length = (e.emit gs c).2.length := by
 induction e using Ex.ind with
 | h k i n s kids ih =>
  intro ha c v
  rw [Ex.ar] at ha
  obtain ⟨h0, h1, h4, h5, h7, hk⟩ := ha
  rw [ra] at hk
  have hL : ∀ (l : List Ex), (∀ x ∈ l, x ∈ kids) -> ∀ c, (tu v l).length = (im gs c l).2.length := by
   intro l
   induction l with
   | nil => intro _ c; rfl
   | cons x l ihl =>
    intro h c
    rw [tu, im, ah, ah, ih x (h x (by simp)) (hk x (h x (by simp))) c v, ihl (λ y hy => h y (by simp [hy])) (c + (x.emit gs c).2.length)]
  rw [Ex.uw, Ex.emit]
  by_cases k0 : k = 0
  ·rw [if_pos k0, if_pos k0]; rfl
  rw [if_neg k0, if_neg k0]
  by_cases k1 : k = 1
  ·rw [if_pos k1, if_pos k1]
   match kids, h1 k1 with
   | [x], _ => rfl
  rw [if_neg k1, if_neg k1]
  by_cases k3 : k = 3
  ·rw [if_pos k3, if_pos k3]; exact hL kids (λ _ h => h) c
  rw [if_neg k3, if_neg k3]
  by_cases k4 : k = 4
  ·rw [if_pos k4, if_pos k4]
   have hl := h4 k4
   cases kids with
   | nil => simp at hl
   | cons x l =>
    have := ih x (by simp) (hk x (by simp)) c v
    simp only [ak] at hl
    simp only [u7, kh, ah, dg, List.drop_succ_cons, List.drop_zero]; omega
  rw [if_neg k4, if_neg k4]
  by_cases k5 : k = 5
  ·rw [if_pos k5, if_pos k5]; rfl
  rw [if_neg k5, if_neg k5]
  by_cases k7 : k = 7
  ·rw [if_pos k7, if_pos k7]
   match kids, h7 k7 with
   | [x, y], _ =>
    have a := ih x (by simp) (hk x (by simp)) c v
    have b := ih y (by simp) (hk y (by simp)) (c + (x.emit gs c).2.length) (v + 1)
    simp only [u7, Pg, kh, yj, ah, a, b]
  rw [if_neg k7, if_neg k7]
  exact hL kids (λ _ h => h) c
theorem Wk {n c m : Nat} {K : List Int} {z : Int} (hK : K.length = c) (hn : n < c) : yi n (K ++ List.replicate (m + 1) (-1)) (c : Nat) z = .ok (K ++ [z] ++ List.replicate m (-1)) := by
 have h1 : (K ++ List.replicate (m + 1) (-1 : Int)).getD c 0 = -1 := by
  rw [List.getD, af (by omega), hK, Nat.sub_self, List.getElem?_replicate, if_pos (by omega)]; rfl
 rw [yi, ew, h1, if_neg (by omega), if_neg (by omega), List.set_append_right _ _ (by omega), hK, Nat.sub_self, List.replicate_succ, bz, aj]; rfl
def kzs (K : List Int) (m : Nat) : List Int := K ++ List.replicate m (-1)
theorem Pp {nb ng n : Nat} {suf : List Ins} (hs : suf ≠ []) : ∀ (s : List Int) (c m : Nat) (K : List Int) (v st bi : Int), K.length = c -> n < c -> s.length <= m -> c + m = nb -> (∀ x ∈ s, 0 <= x /\ x <= 64) -> 0 <= st ->
  l6 nb ng n suf (brs c s) ⟨kzs K m, v, st, bi, (s.length : Nat)⟩ = .ok ⟨kzs (K ++ s.map (v + ·)) (m - s.length), v, st, bi, 0⟩
 | [], c, m, K, v, st, bi, _, _, _, _, _, _ => by simp [brs, l6, kzs]
 | x :: s, c, m, K, v, st, bi, hK, hn, hm, hnb, hx, h0 => by
  obtain ⟨x0, x1⟩ := hx x (by simp)
  obtain ⟨m, rfl⟩ : ∃ m', m = m' + 1 := ⟨m - 1, by simp only [ak] at hm; omega⟩
  have hne : brs (c + 1) s ++ suf ≠ [] := by
   cases suf with
   | nil => exact absurd rfl hs
   | cons y l => simp
  have hf : mw nb ng ⟨6, (c : Int), x, ⟨#[]⟩⟩ (brs (c + 1) s ++ suf) ((x :: s).length : Nat) = 0 := by
   have p : sq ⟨6, (c : Int), x, ⟨#[]⟩⟩ (brs (c + 1) s ++ suf) ((x :: s).length : Nat) = true := by
    simp [sq, xr, xm, vi, x0]; rfl
   have q : ma nb ng ⟨6, (c : Int), x, ⟨#[]⟩⟩ = false := by
    simp [ma]; omega
   rw [mw, if_neg (by rw [p]; simp), if_neg (by simp), if_neg (by rw [q]; simp)]
  have hr : tc n ⟨6, (c : Int), x, ⟨#[]⟩⟩ ⟨kzs K (m + 1), v, st, bi, ((x :: s).length : Nat)⟩ = .ok (kzs (K ++ [v + x]) m) := by
   rw [tc, if_neg (by simp), if_pos rfl]
   exact Wk hK hn
  have hstp := w9 hf hr (by simp [jq, h0]) (by simp) (by simp) hne
  have e : (⟨kzs (K ++ [v + x]) m, k9 ⟨6, (c : Int), x, ⟨#[]⟩⟩ v, st - jq ⟨6, (c : Int), x, ⟨#[]⟩⟩ + j7 ⟨6, (c : Int), x, ⟨#[]⟩⟩, k9 ⟨6, (c : Int), x, ⟨#[]⟩⟩ bi, brI ⟨6, (c : Int), x, ⟨#[]⟩⟩ ((x :: s).length : Nat)⟩ : Sk) = ⟨kzs (K ++ [v + x]) m, v, st, bi, (s.length : Nat)⟩ := by
   simp [k9, jq, j7, brI]
  rw [e] at hstp
  rw [brs, oe hstp]
  have h := Pp (nb := nb) (ng := ng) (n := n) hs s (c + 1) m (K ++ [v + x]) v st bi (by simp [hK]) (by omega) (by simp only [ak] at hm; omega) (by omega) (λ y hy => hx y (by simp [hy])) h0
  rw [h, bq, aj, ak, show m + 1 - (s.length + 1) = m - s.length from by omega]; rfl
end Go.Proofs.Eng
namespace Go.Proofs.Eng
set_option maxRecDepth 100000
theorem Im {k i : Int} {n : ByteArray} {s : List Int} {l : Nat} (h : fmB k i n s l = true) (hk : k = 5 \/ k = 6 \/ k = 11) : l = 0 := by
 rcases hk with rfl | rfl | rfl <;>
 ·simp only [fmB, dx] at h
  have h := h.2
  simp [K2, Kv, kn] at h
  omega
theorem vw {gl : ByteArray -> Bool} {v k i : Int} {n : ByteArray} {s : List Int} {kids : List Ex} (h : (Ex.mk k i n s kids).err gl v = 0) :
  fmB k i n s kids.length = true /\ (k = 3 -> isName n = true) /\ (k = 0 -> i < v) /\ (k = 5 -> gl n = true) /\ Af gl k s v 0 kids = 0 := by
 rw [Ex.err] at h
 split at h
 ·omega
 rename_i h1
 split at h
 ·omega
 rename_i h2
 split at h
 ·omega
 rename_i h3
 split at h
 ·omega
 rename_i h4
 refine ⟨by simpa using h1, λ hk => ?_, λ hk => ?_, λ hk => ?_, h⟩
 ·cases hn : isName n
  ·exact absurd ⟨by simp [tn, hk], hn⟩ h2
  ·rfl
 ·rcases Int.lt_or_le i v with h5 | h5
  ·exact h5
  ·exact absurd ⟨hk, by simpa using h5⟩ h3
 ·cases hn : gl n
  ·exact absurd ⟨hk, hn⟩ h4
  ·rfl
theorem Ix {gl : ByteArray -> Bool} {k v : Int} {s : List Int} : ∀ {l : List Ex} {j i : Nat} {x : Ex}, Af gl k s v j l = 0 -> l[i]? = some x -> x.err gl (w64 (v + under k s (j + i))) = 0
 | [], _, _, _, _, h => by simp at h
 | y :: l, j, 0, x, h, hx => by
  simp at hx; subst hx
  rw [Af] at h
  split at h
  ·assumption
  ·rename_i h1; exact absurd h h1
 | y :: l, j, i + 1, x, h, hx => by
  rw [Af] at h
  split at h
  ·have := Ix (j := j + 1) (i := i) h (by simpa using hx)
   rwa [show j + 1 + i = j + (i + 1) from by omega] at this
  ·rename_i h1; exact absurd h h1
theorem yq {gl : ByteArray -> Bool} (e : Ex) : ∀ {v}, e.err gl v = 0 -> e.ar := by
 induction e using Ex.ind with
 | h k i n s kids ih =>
  intro v h
  obtain ⟨h1, _, _, _, h5⟩ := vw h
  obtain ⟨_, _, _, _, _, _, f0, f4, f2, f1, _⟩ := yd h1
  rw [Ex.ar]
  refine ⟨λ hk => List.length_eq_zero_iff.1 (f0 hk).1, λ hk => f1 (.inl hk), f4, λ hk => List.length_eq_zero_iff.1 (Im h1 (.inl hk)), λ hk => f2 (.inr (.inl hk)), (ra _).2 λ x hx => ?_⟩
  obtain ⟨j, hj⟩ := c7 hx
  exact ih x hx (Ix h5 hj)
theorem Uy {gl : ByteArray -> Bool} {k i : Int} {n : ByteArray} {s : List Int} {l : Nat} (h : fmB k i n s l = true) (j : Nat) : 0 <= under k s j /\ under k s j <= 64 := by
 obtain ⟨_, _, _, _, _, f, _⟩ := yd h
 unfold under
 split
 ·omega
 ·split
  ·rename_i hj
   have hx : s.getD (j - 1) 0 ∈ s := by
    rw [List.getD, aa (by omega)]; exact List.getElem_mem _
   have := f _ hx
   split <;> omega
  ·omega
theorem Ie {gl : ByteArray -> Bool} {v k i : Int} {n : ByteArray} {s : List Int} {kids : List Ex} (h : (Ex.mk k i n s kids).err gl v = 0) (hv : 0 <= v) (hd : v + 64 * (Ex.mk k i n s kids).dep <= B62) {j : Nat} {x : Ex} (hx : kids[j]? = some x) :
  x.err gl (v + under k s j) = 0 /\ 0 <= v + under k s j /\ v + under k s j + 64 * x.dep <= v + 64 * (Ex.mk k i n s kids).dep := by
 obtain ⟨h1, _, _, _, h5⟩ := vw h
 obtain ⟨u0, u1⟩ := Uy (gl := gl) h1 j
 have h6 := Ix h5 hx
 have h7 := a0h (aq hx)
 rw [Ex.dep] at hd ⊢
 rw [dp, a5m (by unfold B62; omega) (by unfold B62 at *; omega)] at h6
 exact ⟨h6, by omega, by omega⟩
theorem mx0 : max (0 : Int) (-1) = 0 := by decide
theorem Cu {α : Type} {a b : List α} (h : b ≠ []) : a ++ b ≠ [] := by
 intro e; exact h (List.append_eq_nil_iff.1 e).2
section
variable {gs : List Gl} {gl : ByteArray -> Bool} {nb ng n : Nat}
theorem Aw {x : Ins} {rest : List Ins} {br : Int} (h1 : sq x rest br = true) (h2 : x.op = 4 -> isName x.n = true) (h3 : ma nb ng x = false) : mw nb ng x rest br = 0 := by
 rw [mw, if_neg (by rw [h1]; simp), if_neg (by rintro ⟨a, b⟩; rw [h2 a] at b; cases b), if_neg (by rw [h3]; simp)]
theorem Wc (hgl : ∀ x, gl x = true -> zq gs x < ng) (e : Ex) : ∀ {v : Int} {c m : Nat} {K : List Int} {st bi : Int} {suf : List Ins}, e.err gl v = 0 -> 0 <= v -> v + 64 * e.dep <= B62 -> K.length = c -> n < c -> (e.emit gs c).2.length <= m -> c + m = nb -> 0 <= st -> 0 <= bi -> suf ≠ [] ->
  l6 nb ng n suf (e.emit gs c).1 ⟨kzs K m, v, st, bi, 0⟩ = .ok ⟨kzs (K ++ e.uw v) (m - (e.emit gs c).2.length), v, st + 1, bi, 0⟩ := by
 induction e using Ex.ind with
 | h k i nm s kids ih =>
 intro v c m K st bi suf he hv hd hK hn hm hnb hst hbi hs
 have har := yq _ he
 rw [Ex.ar] at har
 obtain ⟨r0, r1, r4, r5, r7, rk⟩ := har
 rw [ra] at rk
 obtain ⟨h1, hnm, hvr, hg, _⟩ := vw he
 have hkid := λ {j : Nat} {x : Ex} (hx : kids[j]? = some x) => Ie he hv hd hx
 obtain ⟨f0, f1, f2, f3, f4, f5, f6, f7, f8, f9, f10⟩ := yd h1
 have hL : ∀ (l : List Ex), (∀ x ∈ l, x ∈ kids /\ x.err gl v = 0 /\ v + 64 * x.dep <= B62) -> ∀ {c m : Nat} {K : List Int} {st : Int} {suf : List Ins}, K.length = c -> n < c -> (im gs c l).2.length <= m -> c + m = nb -> 0 <= st -> suf ≠ [] ->
   l6 nb ng n suf (im gs c l).1 ⟨kzs K m, v, st, bi, 0⟩ = .ok ⟨kzs (K ++ tu v l) (m - (im gs c l).2.length), v, st + (l.length : Nat), bi, 0⟩ := by
  intro l
  induction l with
  | nil => intro _ c m K st suf _ _ _ _ _ _; simp [im, l6, tu]
  | cons x l ihl =>
   intro hx c m K st suf hK hn hm hnb hst hs
   obtain ⟨x1, x2, x3⟩ := hx x (by simp)
   rw [im] at hm ⊢
   simp only [ah] at hm ⊢
   have hl1 := xy gs x (rk x x1) c v
   rw [xh (ih x x1 (c := c) (m := m) (K := K) (st := st) (bi := bi) x2 hv x3 hK hn (by omega) hnb hst hbi (Cu hs))]
   have := ihl (λ y hy => hx y (by simp [hy])) (c := c + (x.emit gs c).2.length) (m := m - (x.emit gs c).2.length) (K := K ++ x.uw v) (st := st + 1) (suf := suf) (by rw [ah]; omega) (by omega) (by omega) (by omega) (by omega) hs
   rw [this, tu, aj, ak, Nat.sub_sub]
   congr 2
   omega
 have hAll : (∀ j, under k s j = 0) -> ∀ x ∈ kids, x ∈ kids /\ x.err gl v = 0 /\ v + 64 * x.dep <= B62 := λ hu x hx => by
  obtain ⟨j, hj⟩ := c7 hx
  obtain ⟨a, _, b⟩ := hkid hj
  rw [hu j, Int.add_zero] at a b
  exact ⟨hx, a, by omega⟩
 have hO : ∀ (op : Int), op = 2 \/ op = 8 \/ op = 11 \/ op = 12 \/ op = 13 \/ op = 14 -> jq (.o op) = (kids.length : Nat) -> (∀ j, under k s j = 0) -> (im gs c kids).2.length <= m ->
   l6 nb ng n suf ((im gs c kids).1 ++ [.o op]) ⟨kzs K m, v, st, bi, 0⟩ = .ok ⟨kzs (K ++ tu v kids) (m - (im gs c kids).2.length), v, st + 1, bi, 0⟩ := by
  intro op hop hp hu hm
  rw [xh (hL kids (hAll hu) hK hn hm hnb hst (Cu hs))]
  have hne : op ≠ 1 /\ op ≠ 6 /\ op ≠ 0 /\ op ≠ 10 /\ op ≠ 3 /\ op ≠ 9 /\ op ≠ 5 := by omega
  have hstp := w9 (n := n) (t := ⟨kzs (K ++ tu v kids) (m - (im gs c kids).2.length), v, st + (kids.length : Nat), bi, 0⟩) (Iz nb ng (op := op) (by omega) ([] ++ suf)) (Pe n hne.1 hne.2.1 hne.2.2.1 _) (by rw [hp]; simp only []; omega) (λ h => absurd h hne.2.2.2.1) hne.2.2.2.2.1 hs
  rw [oe hstp, l6]
  have q9 : ¬ (Ins.o op).op = 9 := hne.2.2.2.2.2.1
  have q10 : ¬ (Ins.o op).op = 10 := hne.2.2.2.1
  have q5 : ¬ (Ins.o op).op = 5 := hne.2.2.2.2.2.2
  have e1 : k9 (.o op) v = v := (if_neg q9).trans (if_neg q10)
  have e2 : k9 (.o op) bi = bi := (if_neg q9).trans (if_neg q10)
  have e3 : brI (.o op) 0 = 0 := (if_neg q5).trans rfl
  have q36 : ¬ ((Ins.o op).op = 3 \/ (Ins.o op).op = 6 \/ (Ins.o op).op = 9 \/ (Ins.o op).op = 10) := by show ¬ (op = 3 \/ op = 6 \/ op = 9 \/ op = 10); omega
  have e4 : j7 (.o op) = 1 := if_neg q36
  simp only [e1, e2, e3, e4, hp]
  congr 2
  omega
 have hH : (∀ x, kids[0]? = some x -> x.err gl v = 0 /\ v + 64 * x.dep <= B62) -> kids ≠ [] -> ∀ {suf : List Ins}, suf ≠ [] -> (kh gs c kids).2.length <= m ->
   l6 nb ng n suf (kh gs c kids).1 ⟨kzs K m, v, st, bi, 0⟩ = .ok ⟨kzs (K ++ u7 v kids) (m - (kh gs c kids).2.length), v, st + 1, bi, 0⟩ /\ (u7 v kids).length = (kh gs c kids).2.length := by
  intro hx hne suf hs hm
  cases kids with
  | nil => exact absurd rfl hne
  | cons x l =>
   obtain ⟨a, b⟩ := hx x rfl
   exact ⟨ih x (by simp) a hv b hK hn hm hnb hst hbi hs, xy gs x (rk x (by simp)) c v⟩
 rw [Ex.emit] at hm ⊢
 rw [Ex.uw]
 by_cases k0 : k = 0
 ·rw [if_pos k0] at hm ⊢
  rw [if_pos k0]
  have hi := hvr k0
  have hp : sq ⟨0, i, 0, ⟨#[]⟩⟩ ([] ++ suf) 0 = true := by
   simp [sq, xr, xm, vi, f2]; rfl
  have hstp := w9 (nb := nb) (ng := ng) (n := n) (x := ⟨0, i, 0, ⟨#[]⟩⟩) (rest := [] ++ suf) (t := ⟨kzs K m, v, st, bi, 0⟩) (S := kzs K m) (Aw hp (by simp) (by simp [ma])) (by rw [tc, if_neg (by simp), if_neg (by simp), if_neg (by simp; omega)]) (by simp [jq, hst]) (by simp) (by simp) hs
  rw [oe hstp, l6]
  simp [k9, jq, j7, brI, mx0]
 rw [if_neg k0] at hm ⊢
 rw [if_neg k0]
 by_cases k1 : k = 1
 ·rw [if_pos k1] at hm ⊢
  rw [if_pos k1]
  obtain ⟨x, rfl⟩ : ∃ x, kids = [x] := List.length_eq_one_iff.1 (r1 k1)
  have ht : ([x] : List Ex).take 1 = [x] := rfl
  rw [ht] at hm ⊢
  have hm : 1 <= m := by simpa using hm
  simp only [ak, ao, dp]
  obtain ⟨m, rfl⟩ : ∃ m', m = m' + 1 := ⟨m - 1, by omega⟩
  have hp : sq ⟨1, (c : Nat), 0, ⟨#[]⟩⟩ ([] ++ suf) 0 = true := by
   simp [sq, xr, xm, vi]; rfl
  have hstp := w9 (nb := nb) (ng := ng) (n := n) (x := ⟨1, (c : Nat), 0, ⟨#[]⟩⟩) (rest := [] ++ suf) (t := ⟨kzs K (m + 1), v, st, bi, 0⟩) (S := kzs (K ++ [v + 1]) m) (Aw hp (by simp) (by simp [ma]; omega)) (by rw [tc, if_pos rfl]; exact Wk hK hn) (by simp [jq, hst]) (by simp) (by simp) hs
  rw [oe hstp, l6]
  simp [k9, jq, j7, brI, mx0]
 rw [if_neg k1] at hm ⊢
 rw [if_neg k1]
 by_cases k3 : k = 3
 ·rw [if_pos k3] at hm ⊢
  rw [if_pos k3]
  have hu : ∀ j, under k s j = 0 := λ j => by rw [under, if_neg (by omega), if_neg (by omega)]
  rw [xh (hL kids (hAll hu) hK hn hm hnb hst (Cu hs))]
  have hi := f10 k3
  have hp : sq ⟨4, i, (kids.length : Nat), nm⟩ ([] ++ suf) 0 = true := by
   simp [sq, xr, xm, vi, f2]
  have hstp := w9 (nb := nb) (ng := ng) (n := n) (x := ⟨4, i, (kids.length : Nat), nm⟩) (rest := [] ++ suf) (t := ⟨kzs (K ++ tu v kids) (m - (im gs c kids).2.length), v, st + (kids.length : Nat), bi, 0⟩) (S := kzs (K ++ tu v kids) (m - (im gs c kids).2.length)) (Aw hp (λ _ => hnm k3) (by simp [ma]; omega)) (by rw [tc, if_neg (by simp), if_neg (by simp), if_neg (by simp)]) (by simp [jq]; omega) (by simp) (by simp) hs
  rw [oe hstp, l6]
  simp [k9, jq, j7, brI, mx0]
 rw [if_neg k3] at hm ⊢
 rw [if_neg k3]
 by_cases k4 : k = 4
 ·rw [if_pos k4] at hm ⊢
  rw [if_pos k4]
  have hl := r4 k4
  have hne : kids ≠ [] := by rintro rfl; simp at hl
  simp only [ah] at hm ⊢
  have hdl : (kids.drop 1).length = s.length := by rw [b8]; omega
  rw [hdl] at hm ⊢
  obtain ⟨g1, g2⟩ := hH (λ x hx => by
   obtain ⟨a, _, b⟩ := hkid hx
   rw [under, if_neg (by omega), if_neg (by omega), Int.add_zero] at a b
   exact ⟨a, by omega⟩) hne (suf := ⟨5, (s.length : Nat), 0, ⟨#[]⟩⟩ :: brs (c + (kh gs c kids).2.length) s ++ suf) (by simp) (by omega)
  rw [xh g1]
  have hrest : brs (c + (kh gs c kids).2.length) s ++ suf ≠ [] := Cu hs
  have hp : sq ⟨5, (s.length : Nat), 0, ⟨#[]⟩⟩ (brs (c + (kh gs c kids).2.length) s ++ suf) 0 = true := by
   have hc : Aa ⟨5, (s.length : Nat), 0, ⟨#[]⟩⟩ (brs (c + (kh gs c kids).2.length) s ++ suf) = true := by
    have ha : ∀ (s : List Int) (c : Nat) (suf : List Ins), ((brs c s ++ suf).take s.length).all (λ y => y.op == 6) = true := by
     intro s
     induction s with
     | nil => intro c suf; simp
     | cons x s ih => intro c suf; simp only [brs, bn, ak, List.take_succ_cons, db, ih]; rfl
    rw [Aa, ew, ha, ah, Bh]
    simp; omega
   simp [sq, xr, xm, vi, hc]; rfl
  have hstp := w9 (nb := nb) (ng := ng) (n := n) (x := ⟨5, (s.length : Nat), 0, ⟨#[]⟩⟩) (rest := brs (c + (kh gs c kids).2.length) s ++ suf) (t := ⟨kzs (K ++ u7 v kids) (m - (kh gs c kids).2.length), v, st + 1, bi, 0⟩) (S := kzs (K ++ u7 v kids) (m - (kh gs c kids).2.length)) (Aw hp (by simp) (by simp [ma])) (by rw [tc, if_neg (by simp), if_neg (by simp), if_neg (by simp)]) (by simp [jq]; omega) (by simp) (by simp) hrest
  rw [oe hstp]
  have hb := Pp (nb := nb) (ng := ng) (n := n) hs s (c + (kh gs c kids).2.length) (m - (kh gs c kids).2.length) (K ++ u7 v kids) v (st + 1) bi (by rw [ah]; omega) (by omega) (by omega) (by omega) f5 (by omega)
  have e : (⟨kzs (K ++ u7 v kids) (m - (kh gs c kids).2.length), k9 ⟨5, (s.length : Nat), 0, ⟨#[]⟩⟩ v, st + 1 - jq ⟨5, (s.length : Nat), 0, ⟨#[]⟩⟩ + j7 ⟨5, (s.length : Nat), 0, ⟨#[]⟩⟩, k9 ⟨5, (s.length : Nat), 0, ⟨#[]⟩⟩ bi, brI ⟨5, (s.length : Nat), 0, ⟨#[]⟩⟩ 0⟩ : Sk) = ⟨kzs (K ++ u7 v kids) (m - (kh gs c kids).2.length), v, st + 1, bi, (s.length : Nat)⟩ := by
   simp [k9, jq, j7, brI, mx0]
  rw [e, hb, aj, Nat.sub_sub]
 rw [if_neg k4] at hm ⊢
 rw [if_neg k4]
 by_cases k5 : k = 5
 ·rw [if_pos k5] at hm ⊢
  rw [if_pos k5]
  have hi := hgl nm (hg k5)
  have hp : sq ⟨7, (zq gs nm : Nat), 0, ⟨#[]⟩⟩ ([] ++ suf) 0 = true := by
   simp [sq, xr, xm, vi]; rfl
  have hstp := w9 (nb := nb) (ng := ng) (n := n) (x := ⟨7, (zq gs nm : Nat), 0, ⟨#[]⟩⟩) (rest := [] ++ suf) (t := ⟨kzs K m, v, st, bi, 0⟩) (S := kzs K m) (Aw hp (by simp) (by simp [ma]; omega)) (by rw [tc, if_neg (by simp), if_neg (by simp), if_neg (by simp)]) (by simp [jq, hst]) (by simp) (by simp) hs
  rw [oe hstp, l6]
  simp [k9, jq, j7, brI, mx0]
 rw [if_neg k5] at hm ⊢
 rw [if_neg k5]
 by_cases k7 : k = 7
 ·rw [if_pos k7] at hm ⊢
  rw [if_pos k7]
  obtain ⟨x, y, rfl⟩ : ∃ x y, kids = [x, y] := by
   match kids, r7 k7 with
   | [x, y], _ => exact ⟨x, y, rfl⟩
  obtain ⟨a1, _, a3⟩ := hkid (j := 0) (x := x) rfl
  obtain ⟨b1, b2, b3⟩ := hkid (j := 1) (x := y) rfl
  rw [under, if_neg (by omega), if_neg (by omega), Int.add_zero] at a1 a3
  rw [under, if_pos (.inr ⟨k7, rfl⟩)] at b1 b2 b3
  simp only [kh, yj, u7, Pg, ah] at hm ⊢
  have hl1 := xy gs x (rk x (by simp)) c v
  have hl2 := xy gs y (rk y (by simp)) (c + (x.emit gs c).2.length) (v + 1)
  rw [aj, xh (ih x (by simp) (c := c) (m := m) (K := K) (st := st) (bi := bi) a1 hv (by omega) hK hn (by omega) hnb hst hbi (by simp))]
  have hne2 : (y.emit gs (c + (x.emit gs c).2.length)).1 ++ [Ins.o 10] ++ suf ≠ [] := Cu hs
  have hs1 := w9 (nb := nb) (ng := ng) (n := n) (x := .o 9) (rest := (y.emit gs (c + (x.emit gs c).2.length)).1 ++ [Ins.o 10] ++ suf) (t := ⟨kzs (K ++ x.uw v) (m - (x.emit gs c).2.length), v, st + 1, bi, 0⟩) (Iz nb ng (by omega) _) (Pe n (by omega) (by omega) (by omega) _) (by simp [jq, Ins.o]; omega) (by simp [Ins.o]) (by simp [Ins.o]) hne2
  rw [bn, oe hs1]
  have e1 : (⟨kzs (K ++ x.uw v) (m - (x.emit gs c).2.length), k9 (.o 9) v, st + 1 - jq (.o 9) + j7 (.o 9), k9 (.o 9) bi, brI (.o 9) 0⟩ : Sk) = ⟨kzs (K ++ x.uw v) (m - (x.emit gs c).2.length), v + 1, st, bi + 1, 0⟩ := by
   simp [k9, jq, j7, brI, Ins.o, mx0]
  rw [e1, xh (ih y (by simp) (c := c + (x.emit gs c).2.length) (m := m - (x.emit gs c).2.length) (K := K ++ x.uw v) (st := st) (bi := bi + 1) b1 (by omega) (by omega) (by rw [ah]; omega) (by omega) (by omega) (by omega) hst (by omega) (Cu hs))]
  have hs2 := w9 (nb := nb) (ng := ng) (n := n) (x := .o 10) (rest := [] ++ suf) (t := ⟨kzs (K ++ x.uw v ++ y.uw (v + 1)) (m - (x.emit gs c).2.length - (y.emit gs (c + (x.emit gs c).2.length)).2.length), v + 1, st + 1, bi + 1, 0⟩) (Iz nb ng (by omega) _) (Pe n (by omega) (by omega) (by omega) _) (by simp [jq, Ins.o]; omega) (by simp [Ins.o]; omega) (by simp [Ins.o]) hs
  rw [oe hs2, l6]
  have e2 : (⟨kzs (K ++ x.uw v ++ y.uw (v + 1)) (m - (x.emit gs c).2.length - (y.emit gs (c + (x.emit gs c).2.length)).2.length), k9 (.o 10) (v + 1), st + 1 - jq (.o 10) + j7 (.o 10), k9 (.o 10) (bi + 1), brI (.o 10) 0⟩ : Sk) = ⟨kzs (K ++ x.uw v ++ y.uw (v + 1)) (m - (x.emit gs c).2.length - (y.emit gs (c + (x.emit gs c).2.length)).2.length), v, st + 1, bi, 0⟩ := by
   simp [k9, jq, j7, brI, Ins.o, mx0]
  rw [e2, aj, Nat.sub_sub]
 rw [if_neg k7] at hm ⊢
 rw [if_neg k7]
 have hu : ∀ j, under k s j = 0 := λ j => by rw [under, if_neg (by omega), if_neg (by omega)]
 have hks : k = 2 \/ k = 6 \/ k = 8 \/ k = 9 \/ k = 10 \/ k = 11 := by omega
 rcases hks with rfl | rfl | rfl | rfl | rfl | rfl
 ·exact hO 2 (by omega) (by rw [f8 (by omega)]; rfl) hu hm
 ·exact hO 8 (by omega) (by rw [Im h1 (by omega)]; rfl) hu hm
 ·exact hO 11 (by omega) (by rw [f8 (by omega)]; rfl) hu hm
 ·exact hO 12 (by omega) (by rw [f9 (by omega)]; rfl) hu hm
 ·exact hO 13 (by omega) (by rw [f9 (by omega)]; rfl) hu hm
 ·exact hO 14 (by omega) (by rw [Im h1 (by omega)]; rfl) hu hm
end
end Go.Proofs.Eng
namespace Go.Proofs.Eng
set_option maxRecDepth 100000
def vq (P : Ex -> Int -> Prop) : List Ex -> List Int -> Prop
 | [], [] => True
 | x :: l, z :: zs => P x z /\ vq P l zs
 | _, _ => False
theorem vq.app {P : Ex -> Int -> Prop} : ∀ {l m : List Ex} {zs ws : List Int}, vq P l zs -> vq P m ws -> vq P (l ++ m) (zs ++ ws)
 | [], _, [], _, _, h => h
 | _ :: _, _, _ :: _, _, h, k => ⟨h.1, vq.app h.2 k⟩
 | [], _, _ :: _, _, h, _ => h.elim
 | _ :: _, _, [], _, h, _ => h.elim
theorem vq.len {P : Ex -> Int -> Prop} : ∀ {l : List Ex} {zs : List Int}, vq P l zs -> l.length = zs.length
 | [], [], _ => rfl
 | _ :: _, _ :: _, h => by simp [vq.len h.2]
 | [], _ :: _, h => h.elim
 | _ :: _, [], h => h.elim
def C2 (gl : ByteArray -> Bool) (B : Int) (x : Ex) (z : Int) : Prop := x.err gl z = 0 /\ 0 <= z /\ z + 64 * x.dep <= B
section
variable {gs : List Gl} {gl : ByteArray -> Bool} {nb ng : Nat} {B : Int}
theorem Li (hB : B <= B62) (e : Ex) : ∀ {v : Int} {c : Nat}, C2 gl B e v -> vq (C2 gl B) (e.emit gs c).2 (e.uw v) := by
 induction e using Ex.ind with
 | h k i nm s kids ih =>
 intro v c ⟨he, hv, hd⟩
 have har := yq _ he
 rw [Ex.ar] at har
 obtain ⟨r0, r1, r4, r5, r7, rk⟩ := har
 obtain ⟨h1, _, _, _, _⟩ := vw he
 have hkid : ∀ {j : Nat} {x : Ex}, kids[j]? = some x -> C2 gl B x (v + under k s j) := λ {j x} hx => by
  obtain ⟨a, b, d⟩ := Ie he hv (by omega) hx
  exact ⟨a, b, by omega⟩
 obtain ⟨f0, f1, f2, f3, f4, f5, f6, f7, f8, f9, f10⟩ := yd h1
 have hL : ∀ (l : List Ex), (∀ x ∈ l, x ∈ kids /\ C2 gl B x v) -> ∀ {c : Nat}, vq (C2 gl B) (im gs c l).2 (tu v l) := by
  intro l
  induction l with
  | nil => intro _ c; trivial
  | cons x l ihl =>
   intro h c
   rw [im, tu]
   exact (ih x (h x (by simp)).1 (h x (by simp)).2).app (ihl λ y hy => h y (by simp [hy]))
 have hAll : (∀ j, under k s j = 0) -> vq (C2 gl B) (im gs c kids).2 (tu v kids) := λ hu => hL kids λ x hx => by
  obtain ⟨j, hj⟩ := c7 hx
  have := hkid hj
  rw [hu j, Int.add_zero] at this
  exact ⟨hx, this⟩
 rw [Ex.emit, Ex.uw]
 by_cases k0 : k = 0
 ·rw [if_pos k0, if_pos k0]; trivial
 rw [if_neg k0, if_neg k0]
 by_cases k1 : k = 1
 ·rw [if_pos k1, if_pos k1]
  obtain ⟨x, rfl⟩ : ∃ x, kids = [x] := List.length_eq_one_iff.1 (r1 k1)
  have := hkid (j := 0) (x := x) rfl
  rw [under, if_pos (.inl k1)] at this
  exact ⟨this, trivial⟩
 rw [if_neg k1, if_neg k1]
 by_cases k3 : k = 3
 ·rw [if_pos k3, if_pos k3]
  exact hAll λ j => by rw [under, if_neg (by omega), if_neg (by omega)]
 rw [if_neg k3, if_neg k3]
 by_cases k4 : k = 4
 ·rw [if_pos k4, if_pos k4]
  have hl := r4 k4
  cases kids with
  | nil => simp at hl
  | cons x l =>
   have hx := hkid (j := 0) (x := x) rfl
   rw [under, if_neg (by omega), if_neg (by omega), Int.add_zero] at hx
   simp only [kh, u7, List.drop_succ_cons, List.drop_zero]
   refine (ih x (by simp) hx).app ?_
   simp only [ak] at hl
   have key : ∀ (l' : List Ex) (s' : List Int), l'.length = s'.length -> (∀ (j : Nat) (y : Ex) (z : Int), l'[j]? = some y -> s'[j]? = some z -> C2 gl B y (v + z)) -> vq (C2 gl B) l' (s'.map (v + ·)) := by
    intro l'
    induction l' with
    | nil => intro s' h _; cases s' with
     | nil => trivial
     | cons z s' => simp at h
    | cons y l' ihl =>
     intro s' h hh
     cases s' with
     | nil => simp at h
     | cons z s' => exact ⟨hh 0 y z rfl rfl, ihl s' (by simpa using h) λ j y z h1 h2 => hh (j + 1) y z (by simpa using h1) (by simpa using h2)⟩
   refine key l s (by omega) λ j y z hy hz => ?_
   have := hkid (j := j + 1) (x := y) (by simpa using hy)
   have hlt := (List.getElem?_eq_some_iff.1 hz).1
   have hzs : z ∈ s := aq hz
   rw [under, if_neg (by omega), if_pos ⟨k4, by omega, by omega⟩, Nat.add_sub_cancel, List.getD, hz] at this
   simp only [Option.getD_some] at this
   have h0 := f5 z hzs
   split at this
   ·exact this
   ·rw [show z = 0 from by omega]; exact this
 rw [if_neg k4, if_neg k4]
 by_cases k5 : k = 5
 ·rw [if_pos k5, if_pos k5]; trivial
 rw [if_neg k5, if_neg k5]
 by_cases k7 : k = 7
 ·rw [if_pos k7, if_pos k7]
  obtain ⟨x, y, rfl⟩ : ∃ x y, kids = [x, y] := by
   match kids, r7 k7 with
   | [x, y], _ => exact ⟨x, y, rfl⟩
  have a := hkid (j := 0) (x := x) rfl
  have b := hkid (j := 1) (x := y) rfl
  rw [under, if_neg (by omega), if_neg (by omega), Int.add_zero] at a
  rw [under, if_pos (.inr ⟨k7, rfl⟩)] at b
  simp only [kh, yj, u7, Pg]
  exact (ih x (by simp) a).app (ih y (by simp) b)
 rw [if_neg k7, if_neg k7]
 exact hAll λ j => by rw [under, if_neg (by omega), if_neg (by omega)]
theorem a0t (nb ng n : Nat) (S : List Int) (v : Int) : stp nb ng n (.o 3) [] ⟨S, v, 1, 0, 0⟩ = .ok ⟨S, v, 1, 0, 0⟩ := by
 rw [stp, if_neg (by rw [Iz nb ng (by omega)]; simp), Pe n (by omega) (by omega) (by omega)]
 rfl
theorem a3u {K zs : List Int} {n m : Nat} {z : Int} (h : K.drop n = z :: zs) : (kzs K m).getD n 0 = z := by
 have hn : n < K.length := by
  rcases dj n K.length with h1 | h1
  ·exact h1
  ·rw [bt h1] at h; cases h
 have : K[n]? = some z := by rw [<- Nat.add_zero n, <- ba, h]; rfl
 rw [kzs, List.getD, ae hn, this]; rfl
theorem Sl {K L zs : List Int} {n : Nat} {z : Int} (h : K.drop n = z :: zs) : (K ++ L).drop (n + 1) = zs ++ L := by
 have hn : n < K.length := by
  rcases dj n K.length with h1 | h1
  ·exact h1
  ·rw [bt h1] at h; cases h
 rw [List.drop_append_of_le_length (by omega), <- List.drop_drop, h]; rfl
theorem Qx (hgl : ∀ x, gl x = true -> zq gs x < ng) (hB : B <= B62) {e : Ex} {v : Int} {c m n : Nat} {K : List Int} (he : C2 gl B e v) (hK : K.length = c) (hn : n < c) (hm : (e.emit gs c).2.length <= m) (hnb : c + m = nb) :
  l6 nb ng n [] ((e.emit gs c).1 ++ [.o 3]) ⟨kzs K m, v, 0, 0, 0⟩ = .ok ⟨kzs (K ++ e.uw v) (m - (e.emit gs c).2.length), v, 1, 0, 0⟩ := by
 obtain ⟨h1, h2, h3⟩ := he
 rw [xh (Wc hgl e (c := c) (m := m) (K := K) (st := 0) (bi := 0) h1 h2 (by omega) hK hn hm hnb (by omega) (by omega) (by simp)), Int.zero_add, oe (a0t nb ng n _ v)]
 rfl
theorem V0 (hgl : ∀ x, gl x = true -> zq gs x < ng) (hB : B <= B62) : ∀ (f : Nat) {l : List Ex} {c n m : Nat} {K zs : List Int}, szL l <= f -> K.length = c -> n + l.length = c -> K.drop n = zs -> vq (C2 gl B) l zs -> m = nbL l -> c + m = nb ->
  goB nb ng n (blocks gs f c l) (kzs K m) = 0
 | f, [], c, n, m, K, zs, _, _, _, _, _, _, _ => by cases f <;> rfl
 | 0, x :: l, c, n, m, K, zs, h, _, _, _, _, _, _ => by cases x; simp [szL, Ex.sz] at h
 | f + 1, x :: l, c, n, m, K, [], _, _, _, _, h, _, _ => h.elim
 | f + 1, x :: l, c, n, m, K, z :: zs, hf, hK, hn, hd, ⟨hx, hl⟩, hm, hnb => by
  have h1 := C5 gs x c
  rw [szL] at hf
  rw [nbL] at hm
  simp only [ak] at hn
  obtain ⟨a1, _, _⟩ := Fm gs x (yq _ hx.1) c
  have hlen := xy gs x (yq _ hx.1) c z
  rw [blocks, goB, a3u hd, if_neg (by have := hx.2.1; omega), if_neg (by simp), Qx hgl hB hx hK (by omega) (by omega) hnb]
  exact V0 hgl hB f (by rw [oj]; omega) (by rw [ah]; omega) (by rw [ah]; omega) (Sl hd) (hl.app (Li hB x hx)) (by rw [zn]; omega) (by omega)
end
end Go.Proofs.Eng
namespace Go.Proofs.Eng
set_option maxRecDepth 100000
def Pr.es (p : Pr) : List Ex := p.main :: p.gs.map (·.2)
def lf (p : Pr) : Cd := ⟨yk p.gs p.es, p.gs.map (·.1), (List.range' 1 p.gs.length).map λ (i : Nat) => (i : Int)⟩
structure G7 (p : Pr) (B : Int) : Prop where
 main : C2 p.gl B p.main 0
 gs : ∀ g ∈ p.gs, isName g.1 = true /\ C2 p.gl B g.2 0
 nd : oz [] (p.gs.map (·.1)) = false
 hB : B <= B62
theorem Q0 : ∀ {gs : List Gl} {n : ByteArray}, (A1 gs n).isSome = true -> zq gs n < gs.length
 | [], n, h => by simp [A1] at h
 | g :: gs, n, h => by
  rw [zq, ak]
  rw [A1] at h
  split
  ·omega
  ·rename_i hn
   rw [if_neg hn] at h
   have := Q0 h; omega
theorem G7.all {p : Pr} {B : Int} (h : G7 p B) : ∀ e ∈ p.es, C2 p.gl B e 0 := λ e he => by
 rcases List.mem_cons.1 he with rfl | he
 ·exact h.main
 ·obtain ⟨g, hg, rfl⟩ := List.mem_map.1 he
  exact (h.gs g hg).2
theorem G7.ar {p : Pr} {B : Int} (h : G7 p B) : arL p.es := (ra _).2 λ e he => yq _ (h.all e he).1
theorem Ib (p : Pr) : p.es.length = p.gs.length + 1 := by simp [Pr.es]
theorem F8 {p : Pr} {B : Int} (h : G7 p B) : (lf p).bl.length = p.gs.length + 1 + nbL p.es /\ ((lf p).bl.map List.length).sum = p.gs.length + 1 + niL p.es := by
 have := Aj p.gs (szL p.es) p.es.length p.es (di _) h.ar
 rw [Ib] at this
 rw [lf, yk, Ib]
 exact this
theorem Dd : ∀ (k a : Nat) (l : List Int), (∀ x ∈ l, x < a) -> oz l ((List.range' a k).map λ (i : Nat) => (i : Int)) = false
 | 0, _, _, _ => rfl
 | k + 1, a, l, h => by
  rw [List.range'_succ, bq, oz, Dd k (a + 1) (l ++ [(a : Int)])]
  ·have : ¬ ((a : Int) ∈ l) := λ hm => by have := h _ hm; omega
   simp [this]
  ·intro x hx
   rcases List.mem_append.1 hx with hx | hx
   ·have := h x hx; omega
   ·rw [List.mem_singleton.1 hx]; omega
theorem Fq : ∀ (k a m : Nat), k <= m -> ((List.range' a k).map λ (i : Nat) => (i : Int)).foldl (λ S s => S.set s.toNat 0) (kzs (List.replicate a 0) m) = kzs (List.replicate (a + k) 0) (m - k)
 | 0, a, m, _ => by simp
 | k + 1, a, m, h => by
  obtain ⟨m, rfl⟩ : ∃ m', m = m' + 1 := ⟨m - 1, by omega⟩
  have e : (kzs (List.replicate a 0) (m + 1)).set a 0 = kzs (List.replicate (a + 1) 0) m := by
   rw [kzs, kzs, List.set_append_right _ _ (by simp), List.length_replicate, Nat.sub_self, List.replicate_succ, bz, List.replicate_succ' (n := a), aj]; rfl
  rw [List.range'_succ, bq, dc, ew, e, Fq k (a + 1) m (by omega), show a + 1 + k = a + (k + 1) from by omega, show m + 1 - (k + 1) = m - k from by omega]
theorem Cg {P : Ex -> Int -> Prop} : ∀ {l : List Ex}, (∀ e ∈ l, P e 0) -> vq P l (List.replicate l.length 0)
 | [], _ => trivial
 | x :: l, h => ⟨h x (by simp), Cg λ e he => h e (by simp [he])⟩
theorem Xm {p : Pr} {B : Int} (h : G7 p B) {bl : List (List Ins)} (hb : bl.length = p.gs.length + 1 + nbL p.es) :
  (Cd.mk bl (p.gs.map (·.1)) ((List.range' 1 p.gs.length).map λ (i : Nat) => (i : Int))).check = goB (p.gs.length + 1 + nbL p.es) p.gs.length 0 bl (kzs (List.replicate p.es.length 0) (nbL p.es)) := by
 have hout : (Cd.mk bl (p.gs.map (·.1)) ((List.range' 1 p.gs.length).map λ (i : Nat) => (i : Int))).Dm = 0 := by
  rw [Cd.Dm, if_neg, if_neg, if_neg]
  ·simp only []; rw [h.nd]; simp
  ·simp only [ck, not_exists, not_and]
   intro n hn
   obtain ⟨g, hg, rfl⟩ := List.mem_map.1 hn
   rw [(h.gs g hg).1]; simp
  ·rintro (h1 | h1 | h1 | h1)
   ·simp only [] at h1; rw [h1] at hb; simp at hb; omega
   ·simp at h1
   ·simp only [ck] at h1
    obtain ⟨s, hs, h1⟩ := h1
    obtain ⟨i, hi, rfl⟩ := List.mem_map.1 hs
    obtain ⟨i1, i2⟩ := List.mem_range'_1.1 hi
    simp only [ei, decide_eq_true_eq] at h1
    omega
   ·simp only [] at h1; rw [Dd _ _ _ (by simp)] at h1; cases h1
 rw [Cd.check, if_neg (by rw [hout]; simp), Cd.S0]
 simp only [dg, hb]
 have e : (List.replicate (p.gs.length + 1 + nbL p.es) (-1 : Int)).set 0 0 = kzs (List.replicate 1 0) (p.gs.length + nbL p.es) := by
  rw [show p.gs.length + 1 + nbL p.es = (p.gs.length + nbL p.es) + 1 from by omega, List.replicate_succ, bz]; rfl
 rw [e, Fq _ _ _ (by omega), Ib, show 1 + p.gs.length = p.gs.length + 1 from by omega, show p.gs.length + nbL p.es - p.gs.length = nbL p.es from by omega]
theorem a1x {p : Pr} {B : Int} (h : G7 p B) : (lf p).check = 0 := by
 have hc := (F8 h).1
 have := Xm h hc
 rw [lf] at this ⊢
 simp only [lf] at hc
 rw [this, yk]
 exact V0 (gl := p.gl) (B := B) (λ x hx => Q0 hx) h.hB (szL p.es) (di _) (by simp) (by simp) rfl (Cg h.all) rfl (by rw [Ib])
end Go.Proofs.Eng
