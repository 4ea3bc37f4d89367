/- The machine's operations: apply. No conditions beyond those in the theorems. -/
import Derived.Test.YtflfmkkcnphdcaaGreatS2
import Derived.Test.YtflfmkkcnphdcaaGreatNM
set_option linter.all false
set_option linter.deprecated false
set_option linter.unnecessarySimpa false
set_option linter.unusedVariables false
set_option linter.unusedSimpArgs false
set_option linter.defProp false
namespace Go.Proofs.Eng
open Go Go.Proofs
set_option maxRecDepth 100000
section
variable {c : Cd} {Z : List Int}
theorem Bz (hC : F0 c Z) {b : Nat} {e : List Vl} (hb : b < c.bl.length) (hz : Z.getD b 0 = (e.length : Nat)) (he : kl c Z e) : Ia c Z ⟨b, 0, e⟩ 0 := by
 obtain ⟨h1, h2, S, t', h3, h4⟩ := hC.blk b _ (aa hb)
 refine ⟨⟨S, Z.getD b 0, 0, 0, 0⟩, ⟨_, aa hb, List.length_pos_iff.2 h1, t', by rw [List.drop_zero]; exact h3, h4⟩, rfl, hz, rfl, Int.le_refl _, h2, by show Z.getD b 0 <= Z.getD b 0 + ((0 : Nat) : Int); omega, he⟩
theorem Ad {s : Ms} {b : Nat} {e : List Vl} {k r : Nat} (h1 : s.halted = false) (h2 : Ia c Z s.now (k + 1)) (h3 : s.stack.length = k + r) (h4 : Uv c Z s.ia r) (h5 : kl c Z s.stack) (h6 : Ia c Z ⟨b, 0, e⟩ 0) :
  Safe c Z { (s.enter b e).1 with err := (s.enter b e).2 } /\ (s.enter b e).1.steps = s.steps /\ (s.enter b e).1.stack = s.stack /\ (s.enter b e).1.ia.length <= s.ia.length + 1 := by
 rcases dj s.ia.length 65536 with h | h
 ·have e1 : s.enter b e = ({ s with now := ⟨b, 0, e⟩, ia := s.now :: s.ia }, 0) := by rw [Ms.enter, if_neg (by omega)]
  rw [e1]
  exact ⟨.inr (.inr ⟨h1, rfl, ⟨0, k + r, h6, by show s.stack.length = _; omega, ⟨k, r, h2, rfl, h4⟩⟩, h5, by show s.ia.length + 1 <= _; omega⟩), rfl, rfl, di _⟩
 ·have e1 : s.enter b e = (s, 7) := by rw [Ms.enter, if_pos h]
  rw [e1]
  exact ⟨.inl ⟨by show (7 : Int) ≠ 0; decide, h1⟩, rfl, rfl, dt _⟩
theorem kl.drop {l : List Vl} (n : Nat) (h : kl c Z l) : kl c Z (l.drop n) := m6.2 λ v hv => m6.1 h v (List.mem_of_mem_drop hv)
theorem kl.take {l : List Vl} (n : Nat) (h : kl c Z l) : kl c Z (l.take n) := m6.2 λ v hv => m6.1 h v (List.mem_of_mem_take hv)
theorem kl.rev {l : List Vl} (h : kl c Z l) : kl c Z l.reverse := m6.2 λ v hv => m6.1 h v (List.mem_reverse.1 hv)
theorem kl.app {l m : List Vl} (h : kl c Z l) (k : kl c Z m) : kl c Z (l ++ m) := m6.2 λ v hv => by
 rcases List.mem_append.1 hv with h1 | h1
 ·exact m6.1 h v h1
 ·exact m6.1 k v h1
theorem kl.cons {v : Vl} {l : List Vl} (h : VOK c Z v) (k : kl c Z l) : kl c Z (v :: l) := by rw [kl]; exact ⟨h, k⟩
theorem kl.hd {v : Vl} {l : List Vl} (h : kl c Z (v :: l)) : VOK c Z v := by rw [kl] at h; exact h.1
theorem kl.tl {v : Vl} {l : List Vl} (h : kl c Z (v :: l)) : kl c Z l := by rw [kl] at h; exact h.2
theorem Je {l : List Vl} {n : Nat} (h : l.length = n + 1) : ∃ v st, l = v :: st /\ st.length = n := by
 match l, h with
 | v :: st, h => exact ⟨v, st, rfl, by simpa using h⟩
theorem Qu (hC : F0 c Z) {s : Ms} (hG : Good c Z s) (hb : s.stack.length <= 1000000) : ∃ l x, c.bl[s.now.bk]? = some l /\ l[s.now.at']? = some x /\ x ∈ l /\ Rdy c x s.adv /\ Safe c Z { (s.adv.exec c x).1 with err := (s.adv.exec c x).2 } /\
  (s.adv.exec c x).1.steps = s.steps + 1 /\ (s.adv.exec c x).1.stack.length <= s.stack.length + 1 /\ (s.adv.exec c x).1.ia.length <= s.ia.length + 1 := by
 obtain ⟨k, r, ⟨t, hA, hbr, he, hs, hb0, hb1, hb2, hve⟩, hkr, hR⟩ := hG.fr
 obtain ⟨l, x, t1, h1, h2, hm, h3, h4, h5⟩ := hA.step
 obtain ⟨hf, S, hr, hx⟩ := zg h3
 obtain ⟨e1, e2, e3, e4, e5⟩ := Bo hx
 rw [hbr] at hf
 have hform : 0 <= x.op /\ x.op <= 14 /\ 0 <= x.a /\ 0 <= x.b /\ x.op ≠ 6 /\ (x.op = 5 -> Aa x (l.drop (s.now.at' + 1)) = true) /\ (x.op = 1 -> x.a < c.bl.length) /\ (x.op = 7 -> x.a < c.gl.length) := by
  unfold mw at hf
  split at hf
  ·omega
  ·rename_i hi
   split at hf
   ·omega
   ·split at hf
    ·omega
    ·rename_i hmm
     simp only [sq, Bool.not_eq_false, dx, ei, decide_eq_true_eq, beq_iff_eq, bne_iff_ne] at hi
     obtain ⟨⟨⟨⟨⟨⟨⟨⟨i1, i2⟩, i3⟩, i4⟩, _⟩, _⟩, _⟩, i5⟩, i6⟩ := hi
     refine ⟨i1, i2, i3, i4, λ h => ?_, λ h => ?_, λ h => ?_, λ h => ?_⟩
     ·rw [h] at i5; simp at i5
     ·rcases i6 with i6 | i6
      ·exact absurd h i6
      ·exact i6
     ·rcases Int.lt_or_le x.a c.bl.length with h' | h'
      ·exact h'
      ·exact absurd (by simp [ma, h, h']) hmm
     ·rcases Int.lt_or_le x.a c.gl.length with h' | h'
      ·exact h'
      ·exact absurd (by simp [ma, h, h']) hmm
 obtain ⟨p1, p2, p3, p4, p5, p6, p7, p8⟩ := hform
 have nx : ∀ (e' : List Vl) (k' : Nat), x.op ≠ 3 -> x.op ≠ 5 -> k9 x t.env = (e'.length : Nat) -> t.stack - jq x + j7 x = (k' : Nat) -> kl c Z e' -> Ia c Z ⟨s.now.bk, s.now.at' + 1, e'⟩ k' := by
  intro e' k' h6 h7 h8 h9 h10
  refine ⟨t1, h5 h6, by rw [e5]; show brI x t.br = 0; rw [brI, if_neg h7, hbr]; rfl, by rw [e5]; exact h8, by rw [e5]; exact h9, ?_, ?_, ?_, h10⟩
  ·rw [e5]; show 0 <= k9 x t.binds
   unfold k9
   split
   ·omega
   ·split
    ·rename_i h; have := e2 h; omega
    ·exact hb0
  ·rw [e5]; show k9 x t.binds <= k9 x t.env
   unfold k9
   repeat' split
   all_goals omega
  ·rw [e5]; show k9 x t.env <= Z.getD s.now.bk 0 + ((s.now.at' + 1 : Nat) : Int)
   unfold k9
   repeat' split
   all_goals omega
 have envS : x.op ≠ 9 -> x.op ≠ 10 -> k9 x t.env = (s.now.env.length : Nat) := λ h h' => by rw [k9, if_neg h, if_neg h', he]
 have Ar : ∀ (s' : Ms) (k' : Nat), s'.halted = false -> s'.err = 0 -> Ia c Z s'.now k' -> s'.stack.length = k' + r -> s'.ia = s.ia -> kl c Z s'.stack -> Safe c Z s' := λ s' k' g1 g2 g3 g4 g5 g6 => .inr (.inr ⟨g1, g2, ⟨k', r, g3, g4, by rw [g5]; exact hR⟩, g6, by rw [g5]; exact hG.cap⟩)
 have bad : ∀ (s' : Ms), s'.halted = false -> s'.err ≠ 0 -> Safe c Z s' := λ s' g1 g2 => .inl ⟨g2, g1⟩
 have hst := hG.st
 have hh := hG.h
 refine ⟨l, x, h1, h2, hm, ?_⟩
 have hops : x.op = 0 \/ x.op = 1 \/ x.op = 2 \/ x.op = 3 \/ x.op = 4 \/ x.op = 5 \/ x.op = 7 \/ x.op = 8 \/ x.op = 9 \/ x.op = 10 \/ x.op = 11 \/ x.op = 12 \/ x.op = 13 \/ x.op = 14 := by omega
 have mkR : ∀ (p : Rdy c x s.adv) (q : Safe c Z { (s.adv.exec c x).1 with err := (s.adv.exec c x).2 } /\ (s.adv.exec c x).1.steps = s.steps + 1 /\ (s.adv.exec c x).1.stack.length <= s.stack.length + 1 /\ (s.adv.exec c x).1.ia.length <= s.ia.length + 1), Rdy c x s.adv /\ Safe c Z { (s.adv.exec c x).1 with err := (s.adv.exec c x).2 } /\ (s.adv.exec c x).1.steps = s.steps + 1 /\ (s.adv.exec c x).1.stack.length <= s.stack.length + 1 /\ (s.adv.exec c x).1.ia.length <= s.ia.length + 1 := λ p q => ⟨p, q⟩
 have noR : ∀ {p : Prop} {n : Int}, x.op = n -> ¬ x.op = n -> p := λ h h' => absurd h h'
 rcases hops with h | h | h | h | h | h | h | h | h | h | h | h | h | h
 ·-- variable
  have hxa : x.a < t.env := by
   unfold tc at hr
   rw [if_neg (by omega), if_neg (by omega)] at hr
   split at hr
   ·cases hr
   ·rename_i h'
    rcases Int.lt_or_le x.a t.env with h9 | h9
    ·exact h9
    ·exact absurd ⟨h, h9⟩ h'
  have hlt : x.a.toNat < s.now.env.length := by omega
  have hget : s.now.env[x.a.toNat]? = some s.now.env[x.a.toNat] := aa hlt
  have hex : s.adv.exec c x = (s.adv.push s.now.env[x.a.toNat], 0) := by rw [Ms.exec, if_pos h, Ms.variable]; simp only [Ms.adv, hget]
  refine ⟨⟨⟨by omega, by omega, by omega⟩, λ _ => ⟨x.a.toNat, _, by omega, hget⟩, by omega, by omega, by omega, by omega, by omega, by omega, by omega⟩, ?_⟩
  rw [hex]
  refine ⟨Ar _ (k + 1) hh rfl (nx _ _ (by omega) (by omega) (envS (by omega) (by omega)) ?_ hve) ?_ rfl (kl.cons (m6.1 hve _ (List.getElem_mem hlt)) hst), rfl, di _, dt _⟩
  ·simp [jq, j7, h]; omega
  ·show s.stack.length + 1 = _; omega
 ·-- closure
  have hcl : VOK c Z (.clo x.a s.now.env) := by
   unfold tc at hr
   rw [if_pos h] at hr
   obtain ⟨g1, g2, g3⟩ := Bv hr
   have hZ := hC.len
   have hxa := p7 h
   have hSZ : LeS S Z := by rw [e5] at h4; exact h4
   have hlen : x.a.toNat < t.S.length := by
    have h1 : S.length = Z.length := hSZ.1
    rw [g2, List.length_set] at h1; omega
   have hS : S.getD x.a.toNat 0 = t.env + 1 := by rw [g2, cw, b9, if_pos rfl, if_pos hlen]; rfl
   rw [VOK]
   refine ⟨p3, by omega, ?_, hve⟩
   rw [hSZ.2 _ (by rw [hS]; omega), hS, he]
  have hex : s.adv.exec c x = (s.adv.push (.clo x.a s.now.env), 0) := by rw [Ms.exec, if_neg (by omega), if_pos h]; rfl
  refine ⟨⟨⟨by omega, by omega, by omega⟩, by omega, by omega, by omega, by omega, by omega, by omega, by omega, by omega⟩, ?_⟩
  rw [hex]
  refine ⟨Ar _ (k + 1) hh rfl (nx _ _ (by omega) (by omega) (envS (by omega) (by omega)) ?_ hve) ?_ rfl (kl.cons hcl hst), rfl, di _, dt _⟩
  ·simp [jq, j7, h]; omega
  ·show s.stack.length + 1 = _; omega
 ·-- apply
  have hp : jq x = 2 := by simp [jq, h]
  have hq : j7 x = 1 := by simp [j7, h]
  obtain ⟨k2, hk2⟩ : ∃ k2, k = k2 + 2 := ⟨k - 2, by omega⟩
  obtain ⟨a, l1, q1, q2⟩ := Je (l := s.stack) (n := k2 + 1 + r) (by omega)
  obtain ⟨f, st, q3, q4⟩ := Je (l := l1) (n := k2 + r) (by omega)
  subst q3
  rw [q1] at hst
  have ha := hst.hd
  have hf' := hst.tl.hd
  have hst' := hst.tl.tl
  have hex : s.adv.exec c x = s.adv.apply := by rw [Ms.exec, if_neg (by omega), if_neg (by omega), if_pos h]
  have hq1 : s.adv.stack = a :: f :: st := q1
  have hfr : Ia c Z s.adv.now (k2 + 1) := nx _ _ (by omega) (by omega) (envS (by omega) (by omega)) (by omega) hve
  refine ⟨⟨⟨by omega, by omega, by omega⟩, by omega, λ _ => ⟨a, f, st, q1, λ n e he => ?_⟩, by omega, by omega, by omega, by omega, by omega, by omega⟩, ?_⟩
  ·subst he; rw [VOK] at hf'; exact hf'.1
  rw [hex]
  cases f with
  | box =>
   have : s.adv.apply = ({ s.adv with stack := .box :: st }, 0) := by rw [Ms.apply, hq1]
   rw [this]
   exact ⟨Ar _ (k2 + 1) hh rfl hfr (by show st.length + 1 = _; omega) rfl (kl.cons (by rw [VOK]; trivial) hst'), rfl, by show st.length + 1 <= _; omega, dt _⟩
  | clo n e =>
   rw [VOK] at hf'
   obtain ⟨c1, c2, c3, c4⟩ := hf'
   have : s.adv.apply = Ms.enter { s.adv with stack := st } n.toNat (a :: e) := by rw [Ms.apply, hq1]
   rw [this]
   obtain ⟨w1, w2, w3, w4⟩ := Ad (s := { s.adv with stack := st }) (b := n.toNat) (e := a :: e) (k := k2) (r := r) hh hfr q4 hR hst' (Bz hC c2 (by rw [c3]; simp) (kl.cons ha c4))
   exact ⟨w1, w2, by rw [w3]; show st.length <= _; omega, w4⟩
  | ctor n nm p =>
   have : s.adv.apply = ({ s.adv with stack := st }, 10) := by rw [Ms.apply, hq1]
   rw [this]
   exact ⟨bad _ hh (by show (10 : Int) ≠ 0; decide), rfl, by show st.length <= _; omega, dt _⟩
  | pair y z =>
   have : s.adv.apply = ({ s.adv with stack := st }, 10) := by rw [Ms.apply, hq1]
   rw [this]
   exact ⟨bad _ hh (by show (10 : Int) ≠ 0; decide), rfl, by show st.length <= _; omega, dt _⟩
 ·-- leave
  have hex : s.adv.exec c x = s.adv.leave := by rw [Ms.exec, if_neg (by omega), if_neg (by omega), if_neg (by omega), if_pos h]
  have hp : jq x = 0 := by simp [jq, h]
  have hq : j7 x = 0 := by simp [j7, h]
  have hk1 : k = 1 := by have := (e4 h).1; omega
  refine ⟨⟨⟨by omega, by omega, by omega⟩, by omega, by omega, by omega, by omega, by omega, by omega, by omega, by omega⟩, ?_⟩
  rw [hex]
  cases hfr : s.ia with
  | nil =>
   have : s.adv.leave = ({ s.adv with halted := true }, 0) := by rw [Ms.leave]; simp only [Ms.adv, hfr]
   rw [this]
   refine ⟨.inr (.inl ⟨rfl, rfl, ?_, hst⟩), rfl, dt _, by show s.ia.length <= _; rw [hfr]; exact dt _⟩
   intro h0
   have h0 : s.stack = [] := h0
   rw [h0] at hkr; simp at hkr; omega
  | cons f fs =>
   have : s.adv.leave = ({ s.adv with now := f, ia := fs }, 0) := by rw [Ms.leave]; simp only [Ms.adv, hfr]
   rw [this]
   rw [hfr] at hR
   obtain ⟨k1, r', g1, g2, g3⟩ := hR
   have jy := hG.cap
   rw [hfr] at jy
   simp only [ak] at jy
   exact ⟨.inr (.inr ⟨hh, rfl, ⟨k1 + 1, r', g1, by show s.stack.length = _; omega, g3⟩, hst, by show fs.length <= _; omega⟩), rfl, dt _, by show fs.length <= _; simp only [ak]; omega⟩
 ·-- construct
  have hp : jq x = x.b := by simp [jq, h]
  have hq : j7 x = 1 := by simp [j7, h]
  obtain ⟨n, hn⟩ : ∃ n : Nat, x.b = (n : Nat) := ⟨x.b.toNat, by omega⟩
  have hnl : n <= s.stack.length := by omega
  have hex : s.adv.exec c x = ({ s.adv with stack := .ctor x.a x.n (s.stack.take x.b.toNat).reverse :: s.stack.drop x.b.toNat }, 0) := by rw [Ms.exec, if_neg (by omega), if_neg (by omega), if_neg (by omega), if_neg (by omega), if_pos h]; rfl
  refine ⟨⟨⟨by omega, by omega, by omega⟩, by omega, by omega, λ _ => ⟨n, hn, hnl⟩, by omega, by omega, by omega, by omega, by omega⟩, ?_⟩
  rw [hex, hn, ew]
  refine ⟨Ar _ (k - n + 1) hh rfl (nx _ _ (by omega) (by omega) (envS (by omega) (by omega)) (by omega) hve) ?_ rfl (kl.cons ?_ (hst.drop n)), rfl, ?_, dt _⟩
  ·show (s.stack.drop n).length + 1 = _; rw [b8]; omega
  ·rw [VOK]; exact ⟨p3, by rw [List.length_reverse, b7]; omega, (hst.take n).rev⟩
  ·show (s.stack.drop n).length + 1 <= _; rw [b8]; omega
 ·-- choose
  have hp : jq x = 1 := by simp [jq, h]
  have hq : j7 x = 1 := by simp [j7, h]
  obtain ⟨n, hn⟩ : ∃ n : Nat, x.a = (n : Nat) := ⟨x.a.toNat, by omega⟩
  have hbr1 : t1.br = (n : Nat) := by rw [e5]; show brI x t.br = _; rw [brI, if_pos h, hn]
  have henv1 : t1.env = (s.now.env.length : Nat) := by rw [e5]; exact envS (by omega) (by omega)
  have hstk1 : t1.stack = (k : Nat) := by rw [e5]; show t.stack - jq x + j7 x = _; omega
  have hbnd1 : t1.binds = t.binds := by rw [e5]; show k9 x t.binds = _; rw [k9, if_neg (by omega), if_neg (by omega)]
  obtain ⟨l', t2, g1, g2, g3, g4, g5, g6, g7, g8⟩ := J8.skip hC.len n (h5 (by omega)) hbr1 (by omega)
  rw [h1] at g1; cases g1
  obtain ⟨k1, hk1⟩ : ∃ k1, k = k1 + 1 := ⟨k - 1, by omega⟩
  obtain ⟨v, st, q1, q2⟩ := Je (l := s.stack) (n := k1 + r) (by omega)
  rw [q1] at hst
  have hv := hst.hd
  have hst' := hst.tl
  have hbrs : c.brs s.adv.now n = ((l.drop (s.now.at' + 1)).take n) := by
   rw [Cd.brs, Cd.blk, cw]
   show (((c.bl[s.now.bk]?).getD []).drop (s.now.at' + 1)).take n = _
   rw [h1]; rfl
  have hbg : ∀ j y, (c.brs s.adv.now n)[j]? = some y -> j < n /\ l[s.now.at' + 1 + j]? = some y := λ j y hy => by
   rw [hbrs] at hy
   have hl := (List.getElem?_eq_some_iff.1 hy).1
   rw [b7] at hl
   rw [bc, if_pos (by omega), ba] at hy
   exact ⟨by omega, hy⟩
  have hex : s.adv.exec c x = s.adv.choose c n := by rw [Ms.exec, if_neg (by omega), if_neg (by omega), if_neg (by omega), if_neg (by omega), if_neg (by omega), if_pos h, hn, ew]
  have hq1 : s.adv.stack = v :: st := q1
  refine ⟨⟨⟨by omega, by omega, by omega⟩, by omega, by omega, by omega, λ _ => ⟨n, v, st, l, hn, q1, h1, by show s.now.at' + 1 + n <= _; omega, λ kk nm p e => ?_, λ y hy => ?_⟩, by omega, by omega, by omega, by omega⟩, ?_⟩
  ·subst e; rw [VOK] at hv; exact ⟨hv.1, hv.2.1⟩
  ·obtain ⟨j, hj⟩ := c7 hy
   obtain ⟨j1, j2⟩ := hbg j y hj
   obtain ⟨y', y1, _, y3, _⟩ := g8 j j1
   rw [j2] at y1; cases y1; exact y3
  rw [hex]
  have stuck : s.adv.choose c n = ({ s.adv with stack := st }, 10) -> Safe c Z { (s.adv.choose c n).1 with err := (s.adv.choose c n).2 } /\ (s.adv.choose c n).1.steps = s.steps + 1 /\ (s.adv.choose c n).1.stack.length <= s.stack.length + 1 /\ (s.adv.choose c n).1.ia.length <= s.ia.length + 1 := λ e => by
   rw [e]
   exact ⟨bad _ hh (by show (10 : Int) ≠ 0; decide), rfl, by show st.length <= _; omega, dt _⟩
  cases v with
  | ctor kk nm p =>
   rw [VOK] at hv
   obtain ⟨v1, v2, v3⟩ := hv
   cases hy : (c.brs s.adv.now n)[kk.toNat]? with
   | none => exact stuck (by rw [Ms.choose, hq1]; simp only [hy])
   | some y =>
    by_cases hyb : y.b = (p.length : Nat)
    ·have : s.adv.choose c n = Ms.enter { s.adv with stack := st, now := { s.adv.now with at' := s.adv.now.at' + n } } y.a.toNat (p.reverse ++ s.adv.now.env) := by
      rw [Ms.choose, hq1]; simp only [hy]; rw [if_pos hyb]
     rw [this]
     obtain ⟨j1, j2⟩ := hbg _ y hy
     obtain ⟨y', y1, y2, y3, y4, y5, y6, y7⟩ := g8 _ j1
     rw [j2] at y1; cases y1
     obtain ⟨w1, w2, w3, w4⟩ := Ad (c := c) (Z := Z) (s := { s.adv with stack := st, now := { s.adv.now with at' := s.adv.now.at' + n } }) (b := y.a.toNat) (e := p.reverse ++ s.adv.now.env) (k := k1) (r := r) hh
      ⟨t2, g3, g4, by rw [g5]; exact henv1, by rw [g6, hstk1, hk1], by rw [g7, hbnd1]; exact hb0, by rw [g7, g5, hbnd1, henv1]; omega, by rw [g5, henv1]; show ((s.now.env.length : Nat) : Int) <= Z.getD s.now.bk 0 + ((s.now.at' + 1 + n : Nat) : Int); omega, hve⟩
      q2 hR hst' (Bz hC y4 (by rw [y7, henv1, hyb]; simp only [ah, List.length_reverse]; show _ = (((p.length + s.now.env.length : Nat)) : Int); omega) (v3.rev.app hve))
     exact ⟨w1, w2, by rw [w3]; show st.length <= _; omega, w4⟩
    ·exact stuck (by rw [Ms.choose, hq1]; simp only [hy]; rw [if_neg hyb])
  | _ => exact stuck (by rw [Ms.choose, hq1])
 ·-- global
  have hp : jq x = 0 := by simp [jq, h]
  have hq : j7 x = 1 := by simp [j7, h]
  obtain ⟨n, hn⟩ : ∃ n : Nat, x.a = (n : Nat) := ⟨x.a.toNat, by omega⟩
  obtain ⟨b, hb1', hb2', hb3'⟩ := hC.st n (by have := p8 h; omega)
  have hex : s.adv.exec c x = s.adv.enter b [] := by
   rw [Ms.exec, if_neg (by omega), if_neg (by omega), if_neg (by omega), if_neg (by omega), if_neg (by omega), if_neg (by omega), if_pos h, hn, ew, cw, hb1']; rfl
  refine ⟨⟨⟨by omega, by omega, by omega⟩, by omega, by omega, by omega, by omega, λ _ => ⟨n, b, hn, hb1'⟩, by omega, by omega, by omega⟩, ?_⟩
  rw [hex]
  obtain ⟨w1, w2, w3, w4⟩ := Ad (c := c) (Z := Z) (s := s.adv) (b := b) (e := []) (k := k) (r := r) hh (nx _ _ (by omega) (by omega) (envS (by omega) (by omega)) (by omega) hve) hkr hR hst (Bz hC hb2' (by rw [hb3']; rfl) (by rw [kl]; trivial))
  exact ⟨w1, w2, by rw [w3]; exact dt _, w4⟩
 ·-- box
  have hex : s.adv.exec c x = (s.adv.push .box, 0) := by rw [Ms.exec, if_neg (by omega), if_neg (by omega), if_neg (by omega), if_neg (by omega), if_neg (by omega), if_neg (by omega), if_neg (by omega), if_pos h]
  refine ⟨⟨⟨by omega, by omega, by omega⟩, by omega, by omega, by omega, by omega, by omega, by omega, by omega, by omega⟩, ?_⟩
  rw [hex]
  refine ⟨Ar _ (k + 1) hh rfl (nx _ _ (by omega) (by omega) (envS (by omega) (by omega)) ?_ hve) ?_ rfl (kl.cons (by rw [VOK]; trivial) hst), rfl, di _, dt _⟩
  ·simp [jq, j7, h]; omega
  ·show s.stack.length + 1 = _; omega
 ·-- bind
  have hp : jq x = 1 := by simp [jq, h]
  have hq : j7 x = 0 := by simp [j7, h]
  obtain ⟨k1, hk1⟩ : ∃ k1, k = k1 + 1 := ⟨k - 1, by omega⟩
  obtain ⟨v, st, q1, q2⟩ := Je (l := s.stack) (n := k1 + r) (by omega)
  rw [q1] at hst
  have hex : s.adv.exec c x = ({ s.adv with stack := st, now := { s.adv.now with env := v :: s.adv.now.env } }, 0) := by
   rw [Ms.exec, if_neg (by omega), if_neg (by omega), if_neg (by omega), if_neg (by omega), if_neg (by omega), if_neg (by omega), if_neg (by omega), if_neg (by omega), if_pos h, Ms.bind]
   simp only [Ms.adv, q1]
  refine ⟨⟨⟨by omega, by omega, by omega⟩, by omega, by omega, by omega, by omega, by omega, λ _ => ⟨v, st, q1⟩, by omega, by omega⟩, ?_⟩
  rw [hex]
  refine ⟨Ar _ k1 hh rfl (nx (v :: s.now.env) _ (by omega) (by omega) ?_ (by omega) (kl.cons hst.hd hve)) q2 rfl hst.tl, rfl, by show st.length <= _; omega, dt _⟩
  rw [k9, if_pos h, he]; simp
 ·-- unbind
  have hp : jq x = 0 := by simp [jq, h]
  have hq : j7 x = 0 := by simp [j7, h]
  have hb' := e2 h
  obtain ⟨v, e, q1, q2⟩ := Je (l := s.now.env) (n := s.now.env.length - 1) (by omega)
  rw [q1] at hve
  have hex : s.adv.exec c x = ({ s.adv with now := { s.adv.now with env := e } }, 0) := by
   rw [Ms.exec, if_neg (by omega), if_neg (by omega), if_neg (by omega), if_neg (by omega), if_neg (by omega), if_neg (by omega), if_neg (by omega), if_neg (by omega), if_neg (by omega), if_pos h]
   simp only [Ms.adv, q1, List.tail_cons]
  refine ⟨⟨⟨by omega, by omega, by omega⟩, by omega, by omega, by omega, by omega, by omega, by omega, λ _ => ⟨v, e, q1⟩, by omega⟩, ?_⟩
  rw [hex]
  refine ⟨Ar _ k hh rfl (nx e _ (by omega) (by omega) ?_ (by omega) hve.tl) hkr rfl hst, rfl, dt _, dt _⟩
  rw [k9, if_neg (by omega), if_pos h, he, q2]; omega
 ·-- pair
  have hp : jq x = 2 := by simp [jq, h]
  have hq : j7 x = 1 := by simp [j7, h]
  obtain ⟨k2, hk2⟩ : ∃ k2, k = k2 + 2 := ⟨k - 2, by omega⟩
  obtain ⟨b, l1, q1, q2⟩ := Je (l := s.stack) (n := k2 + 1 + r) (by omega)
  obtain ⟨a, st, q3, q4⟩ := Je (l := l1) (n := k2 + r) (by omega)
  subst q3
  rw [q1] at hst
  have hex : s.adv.exec c x = ({ s.adv with stack := .pair a b :: st }, 0) := by
   rw [Ms.exec, if_neg (by omega), if_neg (by omega), if_neg (by omega), if_neg (by omega), if_neg (by omega), if_neg (by omega), if_neg (by omega), if_neg (by omega), if_neg (by omega), if_neg (by omega), if_pos h, Ms.pair]
   simp only [Ms.adv, q1]
  refine ⟨⟨⟨by omega, by omega, by omega⟩, by omega, by omega, by omega, by omega, by omega, by omega, by omega, λ _ => ⟨b, a, st, q1⟩⟩, ?_⟩
  rw [hex]
  exact ⟨Ar _ (k2 + 1) hh rfl (nx _ _ (by omega) (by omega) (envS (by omega) (by omega)) (by omega) hve) (by show st.length + 1 = _; omega) rfl (kl.cons (by rw [VOK]; exact ⟨hst.tl.hd, hst.hd⟩) hst.tl.tl), rfl, by show st.length + 1 <= _; omega, dt _⟩
 iterate 2
  ·-- first, second
   have hp : jq x = 1 := by simp [jq, h]
   have hq : j7 x = 1 := by simp [j7, h]
   obtain ⟨k1, hk1⟩ : ∃ k1, k = k1 + 1 := ⟨k - 1, by omega⟩
   obtain ⟨v, st, q1, q2⟩ := Je (l := s.stack) (n := k1 + r) (by omega)
   rw [q1] at hst
   obtain ⟨bb, hex⟩ : ∃ bb, s.adv.exec c x = s.adv.part bb := by
    rw [Ms.exec, if_neg (by omega), if_neg (by omega), if_neg (by omega), if_neg (by omega), if_neg (by omega), if_neg (by omega), if_neg (by omega), if_neg (by omega), if_neg (by omega), if_neg (by omega), if_neg (by omega)]
    first
     | (rw [if_pos h]; exact ⟨_, rfl⟩)
     | (rw [if_neg (by omega), if_pos h]; exact ⟨_, rfl⟩)
   have hq1 : s.adv.stack = v :: st := q1
   refine ⟨⟨⟨by omega, by omega, by omega⟩, by omega, by omega, by omega, by omega, by omega, λ _ => ⟨v, st, q1⟩, by omega, by omega⟩, ?_⟩
   rw [hex]
   have hfr : Ia c Z s.adv.now (k1 + 1) := nx _ _ (by omega) (by omega) (envS (by omega) (by omega)) (by omega) hve
   cases v with
   | box =>
    have : s.adv.part bb = (s.adv, 0) := by rw [Ms.part, hq1]
    rw [this]
    exact ⟨Ar _ (k1 + 1) hh rfl hfr (by show s.stack.length = _; omega) rfl (by show kl c Z s.stack; rw [q1]; exact hst), rfl, dt _, dt _⟩
   | pair y z =>
    have : s.adv.part bb = ({ s.adv with stack := (if bb then z else y) :: st }, 0) := by rw [Ms.part, hq1]
    rw [this]
    have hv := hst.hd
    rw [VOK] at hv
    refine ⟨Ar _ (k1 + 1) hh rfl hfr (by show st.length + 1 = _; omega) rfl (kl.cons ?_ hst.tl), rfl, by show st.length + 1 <= _; omega, dt _⟩
    cases bb
    ·exact hv.1
    ·exact hv.2
   | clo n e =>
    have : s.adv.part bb = ({ s.adv with stack := st }, 10) := by rw [Ms.part, hq1]
    rw [this]
    exact ⟨bad _ hh (by show (10 : Int) ≠ 0; decide), rfl, by show st.length <= _; omega, dt _⟩
   | ctor n nm p =>
    have : s.adv.part bb = ({ s.adv with stack := st }, 10) := by rw [Ms.part, hq1]
    rw [this]
    exact ⟨bad _ hh (by show (10 : Int) ≠ 0; decide), rfl, by show st.length <= _; omega, dt _⟩
 ·-- abort
  have hex : s.adv.exec c x = (s.adv, 30) := by
   rw [Ms.exec, if_neg (by omega), if_neg (by omega), if_neg (by omega), if_neg (by omega), if_neg (by omega), if_neg (by omega), if_neg (by omega), if_neg (by omega), if_neg (by omega), if_neg (by omega), if_neg (by omega), if_neg (by omega), if_neg (by omega), if_pos h]
  refine ⟨⟨⟨by omega, by omega, by omega⟩, by omega, by omega, by omega, by omega, by omega, by omega, by omega, by omega⟩, ?_⟩
  rw [hex]
  exact ⟨bad _ hh (by show (30 : Int) ≠ 0; decide), rfl, dt _, dt _⟩
end
end Go.Proofs.Eng
namespace Go.Proofs.Eng
open Go Go.Proofs
set_option maxRecDepth 100000
section
variable {c : Cd} {Z : List Int}
def Ms.step (c : Cd) (s : Ms) : Ms := match (c.blk s.now.bk)[s.now.at']? with
 | some x => { (s.adv.exec c x).1 with err := (s.adv.exec c x).2 }
 | none => s
def Ms.go (s : Ms) : Bool := !s.halted && s.err == 0
def Ms.run (c : Cd) : Nat -> Ms -> Ms
 | 0, s => s
 | n + 1, s => if s.go = true then Ms.run c n (s.step c) else s
theorem Jk {s : Ms} (h : s.go = false) : ∀ n : Nat, s.run c n = s
 | 0 => rfl
 | n + 1 => by rw [Ms.run, if_neg (by rw [h]; simp)]
theorem Good.go {s : Ms} (h : Good c Z s) : s.go = true := by rw [Ms.go, h.h, h.e]; rfl
theorem Safe.Ar {s : Ms} (h : Safe c Z s) (hg : s.go = true) : Good c Z s := by
 rcases h with ⟨h1, h2⟩ | ⟨h1, h2, _⟩ | h
 ·rw [Ms.go] at hg; simp at hg; exact absurd hg.2 h1
 ·rw [Ms.go, h2] at hg; simp at hg
 ·exact h
theorem a6q {l : List Ins} {n : Nat} (h : c.bl[n]? = some l) : c.blk n = l := by rw [Cd.blk, cw, h]; rfl
theorem Of (hC : F0 c Z) {s : Ms} (hG : Good c Z s) (hb : s.stack.length <= 1000000) : ∃ l x, c.bl[s.now.bk]? = some l /\ l[s.now.at']? = some x /\ x ∈ l /\ Rdy c x s.adv /\ s.step c = { (s.adv.exec c x).1 with err := (s.adv.exec c x).2 } /\
  Safe c Z (s.step c) /\ (s.step c).steps = s.steps + 1 /\ (s.step c).stack.length <= s.stack.length + 1 /\ (s.step c).ia.length <= s.ia.length + 1 := by
 obtain ⟨l, x, h1, h2, h3, h4, h5, h6, h7, h8⟩ := Qu hC hG hb
 have e : s.step c = { (s.adv.exec c x).1 with err := (s.adv.exec c x).2 } := by rw [Ms.step, a6q h1, h2]
 refine ⟨l, x, h1, h2, h3, h4, e, ?_⟩
 rw [e]
 exact ⟨h5, h6, h7, h8⟩
theorem Lu (hC : F0 c Z) : ∀ (n : Nat) {s : Ms}, Safe c Z s -> s.stack.length + n <= 1000000 -> Safe c Z (s.run c n) /\ (s.run c n).steps <= s.steps + n /\ ((s.run c n).go = true -> (s.run c n).steps = s.steps + n) /\ (s.run c n).stack.length <= s.stack.length + n
 | 0, s, h, _ => ⟨h, di _, λ _ => rfl, di _⟩
 | n + 1, s, h, hb => by
  rw [Ms.run]
  split
  ·rename_i hg
   obtain ⟨_, _, _, _, _, _, _, h1, h2, h3, _⟩ := Of hC (h.Ar hg) (by omega)
   obtain ⟨k1, k2, k3, k4⟩ := Lu hC n h1 (by omega)
   exact ⟨k1, by omega, λ h => by have := k3 h; omega, by omega⟩
  ·rename_i hg
   exact ⟨h, by omega, λ h => absurd h hg, by omega⟩
def Ms.start : Ms := ⟨⟨0, 0, []⟩, [], [], 0, false, 0⟩
theorem Ew (hC : F0 c Z) : Safe c Z Ms.start :=
 .inr (.inr ⟨rfl, rfl, ⟨0, 0, Bz hC hC.pos hC.zero (by rw [kl]; trivial), rfl, rfl⟩, by rw [Ms.start, kl]; trivial, dk _⟩)
end
end Go.Proofs.Eng
namespace Go.Proofs.Eng
open Go Go.Proofs
set_option maxRecDepth 100000
theorem D9 {n : ByteArray} (h : isName n = true) : n.size <= 64 := by
 unfold isName at h
 simp only [dx, decide_eq_true_eq] at h
 exact h.2
theorem T4 {nb ng n : Nat} {x : Ins} {rest : List Ins} {t t' : Sk} (h : stp nb ng n x rest t = .ok t') : x.n.size <= 64 := by
 obtain ⟨hf, _⟩ := zg h
 unfold mw at hf
 split at hf
 ·omega
 ·rename_i hi
  split at hf
  ·omega
  ·rename_i hn
   simp only [sq, Bool.not_eq_false, dx, ei, decide_eq_true_eq, beq_iff_eq, bne_iff_ne] at hi
   rcases hi.1.1.2 with h | h
   ·have h4 : x.op = 4 := by simpa [vi] using h
    exact D9 (by simpa [h4] using hn)
   ·omega
theorem Gv {nb ng n : Nat} {suf : List Ins} : ∀ {l : List Ins} {t t' : Sk}, l6 nb ng n suf l t = .ok t' -> ∀ x ∈ l, x.n.size <= 64
 | [], _, _, _, x, hx => by cases hx
 | y :: l, t, t', h, x, hx => by
  rw [l6] at h
  split at h
  ·cases h
  ·rename_i t1 h1
   rcases List.mem_cons.1 hx with rfl | hx
   ·exact T4 h1
   ·exact Gv h x hx
theorem F0.names {c : Cd} {Z : List Int} (h : F0 c Z) : ∀ b ∈ c.bl, ∀ x ∈ b, x.n.size <= jh := λ b hb x hx => by
 obtain ⟨i, hi⟩ := c7 hb
 obtain ⟨_, _, S, t', h3, _⟩ := h.blk i b hi
 have := Gv h3 x hx
 have : jh = 9223372036854775807 := rfl
 omega
theorem a8a {p : Prop} {d : Decidable p} (h : ¬ p) : @decide p d = false := decide_eq_false h
theorem Hn {gl : ByteArray -> Bool} {e : Ex} (h : e.whole gl = 0) : e.err gl 0 = 0 := by
 unfold Ex.whole at h
 split at h
 ·exact h
 ·rename_i h1; simpa [bne] using h1
theorem a2r (p : Pr) : ∀ (gs prev : List Gl), p.go prev gs = 0 -> (∀ g ∈ gs, isName g.1 = true /\ g.2.err p.gl 0 = 0) /\ oz (prev.map (·.1)) (gs.map (·.1)) = false /\ p.main.err p.gl 0 = 0
 | [], prev, h => by rw [Pr.go] at h; exact ⟨λ g hg => (by cases hg), rfl, Hn h⟩
 | g :: gs, prev, h => by
  rw [Pr.go] at h
  split at h
  ·omega
  rename_i h1
  split at h
  ·omega
  rename_i h2
  split at h
  ·rename_i h3
   rw [h] at h3; simp at h3
  rename_i h3
  obtain ⟨a1, a2, a3⟩ := a2r p gs (prev ++ [g]) h
  refine ⟨λ g' hg' => ?_, ?_, a3⟩
  ·rcases List.mem_cons.1 hg' with rfl | hg'
   ·exact ⟨by simpa using h1, Hn (by simpa [bne] using h3)⟩
   ·exact a1 g' hg'
  ·rw [bq, oz]
   have hm : ¬ (g.1 ∈ prev.map (·.1)) := λ hm => by
    obtain ⟨x, hx, e⟩ := List.mem_map.1 hm
    exact h2 (ck.2 ⟨x, hx, decide_eq_true e⟩)
   rw [Bool.or_eq_false_iff]
   rw [List.map_append] at a2
   exact ⟨a8a hm, a2⟩
mutual
theorem Uw : ∀ e : Ex, e.dep <= e.sz
 | .mk k i n s kids => by rw [Ex.dep, Ex.sz]; have := O8 kids; omega
theorem O8 : ∀ l : List Ex, Qh l <= szL l
 | [] => di _
 | x :: l => by rw [Qh, szL]; have := Uw x; have := O8 l; omega
end
theorem a78 (e : Ex) : e.ar -> e.nb + 1 <= e.sz /\ e.ni + 2 <= 4 * e.sz := by
 induction e using Ex.ind with
 | h k i n s kids ih =>
  intro ha
  rw [Ex.ar] at ha
  obtain ⟨h0, h1, h4, h5, h7, hk⟩ := ha
  rw [ra] at hk
  have hL : ∀ (l : List Ex), (∀ x ∈ l, x ∈ kids) -> nbL l + l.length <= szL l /\ niL l + 2 * l.length <= 4 * szL l := by
   intro l
   induction l with
   | nil => intro _; exact ⟨di _, di _⟩
   | cons x l ihl =>
    intro h
    obtain ⟨a1, a2⟩ := ih x (h x (by simp)) (hk x (h x (by simp)))
    obtain ⟨b1, b2⟩ := ihl λ y hy => h y (by simp [hy])
    rw [nbL, niL, szL, ak]; omega
  obtain ⟨b1, b2⟩ := hL kids λ x hx => hx
  rw [Ex.nb, Ex.ni, Ex.sz]
  by_cases k1 : k = 1
  ·have := h1 k1
   rw [if_pos k1, if_pos k1]; omega
  ·rw [if_neg k1, if_neg k1]
   by_cases k4 : k = 4
   ·have := h4 k4
    rw [if_pos k4, if_pos k4]; omega
   ·rw [if_neg k4, if_neg k4]
    split <;> omega
theorem Va : ∀ {l : List Ex}, arL l -> nbL l + l.length <= szL l /\ niL l + 2 * l.length <= 4 * szL l
 | [], _ => ⟨di _, di _⟩
 | x :: l, h => by
  rw [arL] at h
  obtain ⟨a1, a2⟩ := a78 x h.1
  obtain ⟨b1, b2⟩ := Va h.2
  rw [nbL, niL, szL, ak]; omega
theorem Mq {e : Ex} : ∀ {l : List Ex}, e ∈ l -> e.sz <= szL l
 | x :: l, h => by
  rw [szL]
  rcases List.mem_cons.1 h with rfl | h
  ·omega
  ·have := Mq h; omega
theorem Dv {a : Int} (h : 0 <= a) (h2 : a <= 1000000000000) : IntKind.i64.wrap a = a := je (by unfold m7; omega)
theorem a0w (e : Ex) : e.sz <= 1048576 -> e.size = e.sz := by
 induction e using Ex.ind with
 | h k i n s kids ih =>
  intro h
  rw [Ex.sz] at h
  have hL : ∀ (l : List Ex) (acc : Nat), (∀ x ∈ l, x ∈ kids) -> acc + szL l <= 1048577 -> Ex.Bc (acc : Nat) l = ((acc + szL l : Nat) : Int) := by
   intro l
   induction l with
   | nil => intro acc _ _; rw [Ex.Bc, szL, Nat.add_zero]
   | cons x l ihl =>
    intro acc hx ha
    rw [szL] at ha
    have hs := ih x (hx x (by simp)) (by have := Mq (hx x (by simp)); omega)
    rw [Ex.Bc, hs, Dv (by omega) (by omega), show ((acc : Nat) : Int) + ((x.sz : Nat) : Int) = ((acc + x.sz : Nat) : Int) from by omega, ihl _ (λ y hy => hx y (by simp [hy])) (by omega), szL, du]
  rw [Ex.size, Ex.sz]
  have := hL kids 1 (λ x hx => hx) (by omega)
  rw [show ((1 : Nat) : Int) = 1 from rfl] at this
  rw [this, Nat.add_comm]
def Pr.Wa (p : Pr) : Bool := decide (p.gs.length <= 12) && decide (szL p.es <= 200)
theorem Pv {p : Pr} (h : p.Wa = true) (hc : p.check = 0) : G7 p 12800 /\ (lf p).bl.length <= 213 /\ ((lf p).bl.map List.length).sum <= 813 /\ (lf p).check = 0 /\ (∀ g ∈ (lf p).gl, g.size <= jh) /\ (lf p).gl.length <= 12 /\ (lf p).st.length <= 12 := by
 simp only [Pr.Wa, dx, decide_eq_true_eq] at h
 obtain ⟨h1, h2⟩ := h
 unfold Pr.check at hc
 split at hc
 ·omega
 obtain ⟨a1, a2, a3⟩ := a2r p p.gs [] hc
 have hd : ∀ e ∈ p.es, (0 : Int) + 64 * e.dep <= 12800 := λ e he => by have := Uw e; have := Mq he; omega
 have hP : G7 p 12800 := ⟨⟨a3, Int.le_refl _, hd p.main (by simp [Pr.es])⟩, λ g hg => ⟨(a1 g hg).1, (a1 g hg).2, Int.le_refl _, hd g.2 (List.mem_cons_of_mem _ (List.mem_map_of_mem hg))⟩, a2, by unfold B62; omega⟩
 obtain ⟨c1, c2⟩ := F8 hP
 obtain ⟨d1, d2⟩ := Va hP.ar
 have hlb : jh = 9223372036854775807 := rfl
 refine ⟨hP, by omega, by omega, a1x hP, λ g hg => ?_, by rw [lf, dg]; exact h1, by rw [lf]; simpa using h1⟩
 rw [lf] at hg
 obtain ⟨y, hy, rfl⟩ := List.mem_map.1 hg
 have := D9 (a1 y hy).1
 omega
theorem a2v : ∀ l : List (List Ins), (l.map λ x => x.length + 64).sum = (l.map List.length).sum + 64 * l.length
 | [] => rfl
 | x :: l => by rw [bq, bq, List.sum_cons, List.sum_cons, a2v l, ak]; omega
theorem a6k (c : Cd) : c.bd c.bl.length = (((c.bl.map List.length).sum + 64 * c.bl.length : Nat) : Int) := by
 unfold Cd.bd
 rw [List.take_length, a2v]
end Go.Proofs.Eng
namespace Go.Proofs.Eng
open Go Go.Proofs Go.Proofs.YtflfmkkcnphdcaaGreat
set_option maxRecDepth 100000
mutual
theorem Oe {H : Type} : ∀ d : DataW H, dn d <= Rows.uptoBulk d
 | .ptr d => by rw [dn, Rows.uptoBulk]; have := Oe d; omega
 | .slice e s => by rw [dn, Rows.uptoBulk]; have := B7 e; have := B7 s; omega
 | .agg p => by rw [dn, Rows.uptoBulk]; have := B7 p; omega
 | .lit l => by cases l <;> simp [dn, Rows.uptoBulk]
 | .nil => by simp [dn, Rows.uptoBulk]
 | .iface _ d => by simp [dn, Rows.uptoBulk]
 | .map e => by simp [dn, Rows.uptoBulk]
 | .held h => by simp [dn, Rows.uptoBulk]
theorem B7 {H : Type} : ∀ l : List (DataW H), dnL l <= Rows.uptoBulkAll l
 | [] => by rw [dnL]; exact dk _
 | d :: r => by rw [dnL, Rows.uptoBulkAll]; have := Oe d; have := B7 r; omega
end
theorem Vg {n : Nat} {l : List AV} (h : OfT Tryz.prog n 5 l) : ∃ i, l = [.v (.int .u8 i)] /\ 0 <= i /\ i < 256 := by
 cases n with
 | zero => exact h.elim
 | succ n =>
  simp only [OfT, Tryz.underlying5] at h
  obtain ⟨i, rfl, hw⟩ := h
  refine ⟨i, rfl, ?_⟩
  simp [Lit.wf, IntKind.min, IntKind.max, IntKind.signed, IntKind.bits] at hw
  omega
end Go.Proofs.Eng
namespace Go.Proofs.Eng
open Go Go.Proofs
set_option maxRecDepth 100000
abbrev nmZ : ByteArray := ⟨#[122, 101, 114, 111]⟩
abbrev nmS : ByteArray := ⟨#[115, 117, 99, 99]⟩
abbrev nmP : ByteArray := ⟨#[112, 108, 117, 115]⟩
def uy : Nat -> Ex
 | 0 => .mk 3 0 nmZ [] []
 | n + 1 => .mk 3 1 nmS [] [uy n]
def eV (i : Int) : Ex := .mk 0 i ⟨#[]⟩ [] []
def eG : Ex := .mk 5 0 nmP [] []
def eA (f a : Ex) : Ex := .mk 2 0 ⟨#[]⟩ [] [f, a]
def eF (b : Ex) : Ex := .mk 1 0 ⟨#[]⟩ [] [b]
def a2u : Ex := .mk 3 1 nmS [] [eA (eA eG (eV 0)) (eV 1)]
def a33 : Ex := .mk 4 0 ⟨#[]⟩ [0, 1] [eV 1, eV 0, a2u]
def qm : Ex := eF (eF a33)
def oa (x y : Nat) : Ex := eA (eA eG (uy x)) (uy y)
def zr (x y : Nat) : Pr := ⟨[(nmP, qm)], oa x y⟩
theorem N6 : ∀ n : Nat, (uy n).sz = n + 1
 | 0 => rfl
 | n + 1 => by rw [uy, Ex.sz, szL, N6 n, szL]
theorem Yc {x y : Nat} (hx : x < 40) (hy : y < 40) : (zr x y).Wa = true := by
 have h1 : (oa x y).sz = x + y + 5 := by
  simp only [oa, eA, eG, Ex.sz, szL, N6]; omega
 have h2 : qm.sz = 11 := rfl
 have h3 : szL (zr x y).es = x + y + 16 := by
  simp only [zr, Pr.es, szL, bq, List.map_nil, h1, h2]
 rw [Pr.Wa, h3]
 simp [zr]; omega
def glP (n : ByteArray) : Bool := (A1 [(nmP, qm)] n).isSome
theorem a8d : isName nmZ = true := by decide +kernel
theorem a86 : isName nmS = true := by decide +kernel
theorem a71 : isName nmP = true := by decide +kernel
theorem a7x : fmB 3 0 nmZ [] 0 = true := by decide +kernel
theorem a7v : fmB 3 1 nmS [] 1 = true := by decide +kernel
theorem P7 : ∀ (n : Nat) (v : Int), (uy n).err glP v = 0
 | 0, v => by
  rw [uy, Ex.err, ao, a7x, a8d]
  simp [Af]
 | n + 1, v => by
  rw [uy, Ex.err, List.length_singleton, a7v, a86]
  simp [Af, P7 n]
theorem Es : ∀ {n : Nat}, n <= 1000 -> (uy n).deep = ((n + 1 : Nat) : Int)
 | 0, _ => rfl
 | n + 1, h => by
  have ih := Es (n := n) (by omega)
  rw [uy, Ex.deep, Ex.uq, ih, Ex.uq, if_pos (by omega), Dv (by omega) (by omega)]; omega
theorem Mt : qm.whole glP = 0 := by decide +kernel
theorem Nq {x y : Nat} (hx : x < 40) (hy : y < 40) : (oa x y).whole glP = 0 := by
 have h1 : (oa x y).err glP 0 = 0 := by
  have f2 : fmB 2 0 ⟨#[]⟩ [] 2 = true := by decide +kernel
  have f5 : fmB 5 0 nmP [] 0 = true := by decide +kernel
  have g5 : glP nmP = true := by decide +kernel
  simp only [oa, eA, eG, Ex.err, Af, ak, ao, P7, f2, f5, a71, g5]
  simp [tn]
 have h2 : (oa x y).size = ((x + y + 5 : Nat) : Int) := by
  have e : (oa x y).sz = x + y + 5 := by simp only [oa, eA, eG, Ex.sz, szL, N6]; omega
  rw [a0w _ (by omega), e]
 have h3 : (oa x y).deep <= 200 := by
  have d1 := Es (n := x) (by omega)
  have d2 := Es (n := y) (by omega)
  have d0 : eG.deep = 1 := by decide +kernel
  have e1 : (eA eG (uy x)).deep = ((x + 2 : Nat) : Int) := by
   rw [eA, Ex.deep, Ex.uq, d0, Ex.uq, d1, Ex.uq]
   simp only [show ((1 : Int) > 0) = True from by simp, if_true]
   split <;> rw [Dv (by omega) (by omega)] <;> omega
  rw [oa, eA, Ex.deep, Ex.uq, e1, Ex.uq, d2, Ex.uq, if_pos (show ((x + 2 : Nat) : Int) > 0 by omega)]
  split <;> rw [Dv (by omega) (by omega)] <;> omega
 rw [Ex.whole, h1, h2]
 have a : decide (((x + y + 5 : Nat) : Int) > 4096) = false := by simp; omega
 have b : decide ((oa x y).deep > 200) = false := by simp; omega
 rw [a, b]; rfl
theorem Rz {x y : Nat} (hx : x < 40) (hy : y < 40) : (zr x y).check = 0 := by
 have e : (zr x y).gl = glP := rfl
 have h : (zr x y).go [] (zr x y).gs = 0 := by
  rw [zr, Pr.go, a71, if_neg (by simp), if_neg (by simp)]
  rw [show (Pr.mk [(nmP, qm)] (oa x y)).gl = glP from rfl]
  simp only [Mt]
  rw [if_neg (by decide), Pr.go]
  exact Nq hx hy
 rw [Pr.check, h]; rfl
def ry : Nat -> List Ins
 | 0 => [⟨4, 0, 0, nmZ⟩]
 | n + 1 => ry n ++ [⟨4, 1, 1, nmS⟩]
theorem Ke (gs : List Gl) : ∀ (n c : Nat), (uy n).emit gs c = (ry n, [])
 | 0, c => by rw [uy, Ex.emit]; rfl
 | n + 1, c => by rw [uy, Ex.emit]; simp [im, Ke gs n, ry]
def zw (x y : Nat) : List Ins := (⟨7, 0, 0, ⟨#[]⟩⟩ :: ry x ++ [.o 2]) ++ ry y ++ [.o 2] ++ [.o 3]
def a2y (x y : Nat) : List (List Ins) := [zw x y, [⟨1, 2, 0, ⟨#[]⟩⟩, .o 3], [⟨1, 3, 0, ⟨#[]⟩⟩, .o 3], [⟨0, 1, 0, ⟨#[]⟩⟩, ⟨5, 2, 0, ⟨#[]⟩⟩, ⟨6, 4, 0, ⟨#[]⟩⟩, ⟨6, 5, 1, ⟨#[]⟩⟩, .o 3], [⟨0, 0, 0, ⟨#[]⟩⟩, .o 3],
 [⟨7, 0, 0, ⟨#[]⟩⟩, ⟨0, 0, 0, ⟨#[]⟩⟩, .o 2, ⟨0, 1, 0, ⟨#[]⟩⟩, .o 2, ⟨4, 1, 1, nmS⟩, .o 3]]
theorem Tb (x y : Nat) : lf (zr x y) = ⟨a2y x y, [nmP], [1]⟩ := by
 have hm : (oa x y).emit [(nmP, qm)] 2 = (⟨7, 0, 0, ⟨#[]⟩⟩ :: ry x ++ [.o 2] ++ ry y ++ [.o 2], []) := by
  simp [oa, eA, eG, Ex.emit, im, Ke, opK, zq]
 have hb : yk [(nmP, qm)] [oa x y, qm] = a2y x y := by
  have hz : szL [oa x y, qm] <= szL [oa x y, qm] + 10000 := by omega
  have hr : ∀ k : Nat, blocks [(nmP, qm)] (k + 100) 2 [qm] = [[⟨1, 2, 0, ⟨#[]⟩⟩, .o 3], [⟨1, 3, 0, ⟨#[]⟩⟩, .o 3], [⟨0, 1, 0, ⟨#[]⟩⟩, ⟨5, 2, 0, ⟨#[]⟩⟩, ⟨6, 4, 0, ⟨#[]⟩⟩, ⟨6, 5, 1, ⟨#[]⟩⟩, .o 3], [⟨0, 0, 0, ⟨#[]⟩⟩, .o 3],
   [⟨7, 0, 0, ⟨#[]⟩⟩, ⟨0, 0, 0, ⟨#[]⟩⟩, .o 2, ⟨0, 1, 0, ⟨#[]⟩⟩, .o 2, ⟨4, 1, 1, nmS⟩, .o 3]] := λ k => by
   rw [ui _ _ 20 _ _ (show szL [qm] <= _ from by rw [show szL [qm] = 11 from rfl]; omega) (by decide +kernel)]
   decide +kernel
  rw [yk, ui _ _ (szL [oa x y, qm] + 10000) _ _ (di _) hz, yp hz, show [oa x y, qm].length = 2 from rfl, hm, show szL [oa x y, qm] + 10000 = szL [oa x y, qm] + 9900 + 100 from rfl]
  simp only [ao, Nat.add_zero, List.append_nil, hr]
  rfl
 rw [lf]
 simp only [zr, Pr.es, bq, List.map_nil, hb]
 rfl
end Go.Proofs.Eng
namespace Go.Proofs.Eng
open Go Go.Proofs
set_option maxRecDepth 100000
set_option maxHeartbeats 16000000
section
variable {F : Fz} {H : List fp} {V : List Nat} {m : Nat} {sa fa : AV} {c : Cd} {s : Ms} {x : Ins}
theorem Z8 {b a : Vl} {st : List Vl} (hs : s.stack = b :: a :: st) (hb : s.stack.length <= 1000000) : Op 53 x s s.pair F H V m sa fa c := by
 intro hM hF
 obtain ⟨n1, n2, n3⟩ := hM.more hF [.cells false [.int x.op, .int x.a, .int x.b, .str x.n]]
 obtain ⟨vb, ⟨H1, V1⟩, ⟨F1, sa1, fa1, s1, ⟨hvb, rfl, rfl⟩, p1, p2, p3⟩, cp⟩ := (wc (V := V) n1 n2 hs hb).call rfl
 obtain ⟨kb, rfl⟩ := hvb.ptr
 rw [hs] at hb
 simp only [ak] at hb
 obtain ⟨va, ⟨H2, V2⟩, ⟨F2, sa2, fa2, s2, ⟨hva, rfl, rfl⟩, q1, q2, q3⟩, cq⟩ := (wc (V := V1) p1 p2 (v := a) (st := st) rfl (by simp only [ak]; omega)).call rfl
 obtain ⟨ka, rfl⟩ := hva.ptr
 obtain ⟨F9, o1, o2, o3, o4⟩ := q1.Sr q2 [.int 3, .int 0, .str ⟨#[]⟩, .v (.pointer none), .sl [.ptr ka 0, .ptr kb 0] (.cap 2)]
 have hv : VR F9 (.pair a b) (.ptr H2.length 0) := by rw [VR]; exact ⟨_, _, _, _, rfl, o4, VR.mono o3.le _ _ hva, VR.mono o3.le _ _ hvb⟩
 obtain ⟨r, ⟨H3, V3⟩, ⟨F3, sa3, fa3, s3, ⟨rfl, rfl, rfl⟩, u1, u2, u3⟩, cu⟩ := (n9 (V := V2) o1 o2 hv (by show st.length <= _; omega)).call rfl
 refine ly pf53_is (dh rfl) ?_
 simp only [pf53, ↓fj, wall, simprocAttr, wH, gq, fq, Ins.av, cp, cq, cu]
 exact ⟨_, _, _, _, ⟨by rw [Ms.pair, hs], by rw [Ms.pair, hs]⟩, u1, u2, n3.trans (p3.trans (q3.trans (o3.trans u3)))⟩
theorem VR.cells {v : Vl} {k : Nat} (hF : Fro F H) (h : VR F v (.ptr k 0)) : match v with
  | .box => H[k]? = some (.cells false [.int 0, .int 0, .str ⟨#[]⟩, .v (.pointer none), .sl [] .nil])
  | .clo n e => ∃ ea, H[k]? = some (.cells false [.int 1, .int n, .str ⟨#[]⟩, ea, .sl [] .nil]) /\ ER F e ea
  | .ctor n nm p => ∃ pa l, H[k]? = some (.cells false [.int 2, .int n, .str nm, .v (.pointer none), pa]) /\ PA F l pa /\ VRs F p l
  | .pair x y => ∃ ax ay t, H[k]? = some (.cells false [.int 3, .int 0, .str ⟨#[]⟩, .v (.pointer none), .sl [ax, ay] t]) /\ VR F x ax /\ VR F y ay := by
 cases v <;> rw [VR] at h <;> obtain ⟨k', h⟩ := h
 ·obtain ⟨e, h⟩ := h; cases e; exact hF _ _ h
 ·obtain ⟨ea, e, h, h2⟩ := h; cases e; exact ⟨ea, hF _ _ h, h2⟩
 ·obtain ⟨pa, l, e, h, h2⟩ := h; cases e; exact ⟨pa, l, hF _ _ h, h2⟩
 ·obtain ⟨ax, ay, t, e, h, h2⟩ := h; cases e; exact ⟨ax, ay, t, hF _ _ h, h2⟩
theorem Km {v : Vl} {st : List Vl} (b : Bool) (hM : MR F H m sa fa c s) (hF : Fro F H) (hs : s.stack = v :: st) (hb : s.stack.length <= 1000000) : Mw 95 [.ptr m 0, .int (if b then 1 else 0)] F H V m sa fa c λ r _ s' => s' = (s.part b).1 /\ r = .int (s.part b).2 := by
 obtain ⟨a, ⟨H1, V1⟩, ⟨F1, sa1, fa1, s1, ⟨hv, rfl, rfl⟩, p1, p2, p3⟩, cp⟩ := (wc (V := V) hM hF hs hb).call rfl
 obtain ⟨ka, rfl⟩ := hv.ptr
 have hc := VR.cells p2 hv
 rw [hs] at hb
 simp only [ak] at hb
 refine ly pf95_is (dh rfl) ?_
 cases v with
 | box =>
  simp only at hc
  obtain ⟨r, ⟨H3, V3⟩, ⟨F3, sa3, fa3, s3, ⟨rfl, rfl, rfl⟩, u1, u2, u3⟩, cu⟩ := (n9 (V := V1) p1 p2 hv (by show st.length <= _; omega)).call rfl
  simp only [pf95, ↓fj, wall, simprocAttr, wH, gq, fq, cp, hc, cu]
  refine ⟨_, _, _, _, ⟨?_, by rw [Ms.part, hs]⟩, u1, u2, p3.trans u3⟩
  rw [Ms.part, hs]
  cases s; simp only at hs; subst hs; rfl
 | clo n e =>
  obtain ⟨ea, hc, _⟩ := hc
  simp only [pf95, ↓fj, wall, simprocAttr, wH, gq, fq, cp, hc]
  exact ⟨_, _, _, _, ⟨by rw [Ms.part, hs], by rw [Ms.part, hs]⟩, p1, p2, p3⟩
 | ctor n nm p =>
  obtain ⟨pa, l, hc, _⟩ := hc
  simp only [pf95, ↓fj, wall, simprocAttr, wH, gq, fq, cp, hc]
  exact ⟨_, _, _, _, ⟨by rw [Ms.part, hs], by rw [Ms.part, hs]⟩, p1, p2, p3⟩
 | pair x y =>
  obtain ⟨ax, ay, t, hc, h1, h2⟩ := hc
  obtain ⟨kx, rfl⟩ := h1.ptr
  obtain ⟨ky, rfl⟩ := h2.ptr
  cases b
  ·obtain ⟨r, ⟨H3, V3⟩, ⟨F3, sa3, fa3, s3, ⟨rfl, rfl, rfl⟩, u1, u2, u3⟩, cu⟩ := (n9 (V := V1) p1 p2 h1 (by show st.length <= _; omega)).call rfl
   simp only [pf95, ↓fj, wall, simprocAttr, wH, gq, fq, cp, hc, cu]
   exact ⟨_, _, _, _, ⟨by rw [Ms.part, hs]; rfl, by rw [Ms.part, hs]⟩, u1, u2, p3.trans u3⟩
  ·obtain ⟨r, ⟨H3, V3⟩, ⟨F3, sa3, fa3, s3, ⟨rfl, rfl, rfl⟩, u1, u2, u3⟩, cu⟩ := (n9 (V := V1) p1 p2 h2 (by show st.length <= _; omega)).call rfl
   simp only [pf95, ↓fj, wall, simprocAttr, wH, gq, fq, cp, hc, cu]
   exact ⟨_, _, _, _, ⟨by rw [Ms.part, hs]; rfl, by rw [Ms.part, hs]⟩, u1, u2, p3.trans u3⟩
end
end Go.Proofs.Eng
namespace Go.Proofs.Eng
open Go Go.Proofs
set_option maxRecDepth 100000
set_option maxHeartbeats 16000000
theorem MQ.of {F F' F1 : Fz} {H H1 : List fp} {m : Nat} {sa fa sa1 fa1 sa' fa' : AV} {c : Cd} {P : AV -> Fz -> Ms -> Prop} {v : AV} {s1 : ASt} {s' : Ms} (hp : P v F' s') (hn : Nx F H (Own m sa fa) F1 H1 (Own m sa1 fa1))
  (h : MR F' s1.H m sa' fa' c s' /\ Fro F' s1.H /\ Nx F1 H1 (Own m sa1 fa1) F' s1.H (Own m sa' fa')) : MQ F H m sa fa c P v s1 := ⟨F', sa', fa', s', hp, h.1, h.2.1, hn.trans h.2.2⟩
section
variable {F : Fz} {H : List fp} {V : List Nat} {m : Nat} {sa fa : AV} {c : Cd} {s : Ms} {x : Ins}
theorem U1 {v : Vl} {st : List Vl} (hs : s.stack = v :: st) (hb : s.stack.length <= 1000000) : Op 54 x s (s.part false) F H V m sa fa c := by
 intro hM hF
 obtain ⟨n1, n2, n3⟩ := hM.more hF [.cells false [.int x.op, .int x.a, .int x.b, .str x.n]]
 obtain ⟨r, ⟨H1, V1⟩, ⟨F1, sa1, fa1, s1, ⟨rfl, rfl⟩, p1, p2, p3⟩, cp⟩ := (Km (V := V) false n1 n2 hs hb).call rfl
 simp only [dy, if_false] at cp
 refine ly pf54_is (dh rfl) ?_
 simp only [pf54, ↓fj, wall, simprocAttr, wH, gq, fq, Ins.av, cp]
 exact ⟨_, _, _, _, ⟨rfl, rfl⟩, p1, p2, n3.trans p3⟩
theorem Qm {v : Vl} {st : List Vl} (hs : s.stack = v :: st) (hb : s.stack.length <= 1000000) : Op 55 x s (s.part true) F H V m sa fa c := by
 intro hM hF
 obtain ⟨n1, n2, n3⟩ := hM.more hF [.cells false [.int x.op, .int x.a, .int x.b, .str x.n]]
 obtain ⟨r, ⟨H1, V1⟩, ⟨F1, sa1, fa1, s1, ⟨rfl, rfl⟩, p1, p2, p3⟩, cp⟩ := (Km (V := V) true n1 n2 hs hb).call rfl
 simp only [if_true] at cp
 refine ly pf55_is (dh rfl) ?_
 simp only [pf55, ↓fj, wall, simprocAttr, wH, gq, fq, Ins.av, cp]
 exact ⟨_, _, _, _, ⟨rfl, rfl⟩, p1, p2, n3.trans p3⟩
theorem Kb {n : Nat} {v : Vl} (ha : x.a = (n : Nat)) (hn : s.now.env[n]? = some v) (hb : s.stack.length <= 1000000) (hn1 : n <= 1000000) : Op 42 x s (s.push v, 0) F H V m sa fa c := by
 intro hM hF
 obtain ⟨n1, n2, n3⟩ := hM.more hF [.cells false [.int x.op, .int x.a, .int x.b, .str x.n]]
 obtain ⟨Bl, tb, t2, t3, ea, b1, b2, b3⟩ := n1.uc
 have hml := fy b1
 have hlb : jh = 9223372036854775807 := rfl
 have hx : (H ++ [fp.cells false [.int x.op, .int (n : Nat), .int x.b, .str x.n]])[H.length]? = some (.cells false [.int x.op, .int (n : Nat), .int x.b, .str x.n]) := gae
 have hnl := (List.getElem?_eq_some_iff.1 hn).1
 simp only [mcs] at b1
 rw [ha] at b1 n1 n2 n3
 refine ly pf42_is (dh rfl) ?_
 simp only [pf42, ↓fj, wall, simprocAttr, wH, gq, fq, Ins.av, ha, b1]
 refine j6 (λ j => n - j) (λ j E H' V' => ∃ a, j <= n /\ E 0 = .ptr m 0 /\ E 5 = a /\ E 12 = .int (n : Nat) /\ E 13 = .int (j : Nat) /\ H' = H ++ [.cells false [.int x.op, .int (n : Nat), .int x.b, .str x.n]] /\ V' = V /\ ER F (s.now.env.drop j) a) ?_ 0
  ⟨ea, dk _, rfl, rfl, rfl, rfl, rfl, rfl, b3⟩
 rintro j E H' V' ⟨a, hj, e0, e5, e12, e13, rfl, rfl, he⟩
 have hjl : j < s.now.env.length := by omega
 rw [bx hjl, ER] at he
 obtain ⟨k, av, ea', rfl, g2, g3, g4⟩ := he
 have g5 := n2 _ _ g2
 rcases dj j n with hlt | hge
 ·have hdec : decide ((j : Int) < (n : Nat)) = true := by simpa using hlt
  simp only [↓fj, wall, simprocAttr, wH, e0, e5, e12, e13, hdec, g5, mo g4, pq g4, m8 g4]
  exact jm ⟨j + 1, by omega, _, by omega, e0, rfl, e12, iw (by omega), rfl, rfl, g4⟩
 ·have hdec : decide ((j : Int) < (n : Nat)) = false := by simpa using hge
  obtain rfl : j = n := by omega
  rw [aa hjl] at hn
  cases hn
  obtain ⟨ka, rfl⟩ := g3.ptr
  obtain ⟨r, ⟨H1, V1⟩, ⟨F1, sa1, fa1, s1, ⟨rfl, rfl, rfl⟩, p1, p2, p3⟩, cp⟩ := (n9 (V := V') n1 n2 g3 hb).call rfl
  simp only [↓fj, wall, simprocAttr, wH, e0, e5, e12, e13, hdec, g5, cp, gq, fq]
  exact ⟨_, _, _, _, ⟨rfl, rfl⟩, p1, p2, n3.trans p3⟩
theorem Ve (hb : s.ia.length <= 1000000) : Op 45 x s s.leave F H V m sa fa c := by
 intro hM hF
 obtain ⟨n1, n2, n3⟩ := hM.more hF [.cells false [.int x.op, .int x.a, .int x.b, .str x.n]]
 obtain ⟨Bl, tb, t2, t3, ea, b1, b2, b3⟩ := n1.uc
 have hml := fy b1
 simp only [mcs] at b1
 refine ly pf45_is (dh rfl) ?_
 have done : ∀ {V' : List Nat}, s.ia = [] -> MQ F H m sa fa c (λ v _ s' => s' = s.leave.1 /\ v = .int s.leave.2) (.int 0) ⟨(H ++ [fp.cells false [AV.int x.op, AV.int x.a, AV.int x.b, AV.str x.n]]).set m (.cells false (mcs Bl tb t2 t3 c (s.now.bk : Nat) (s.now.at' : Nat) ea sa fa (s.steps : Nat) true s.err m)), V'⟩ := by
  intro V' h0
  obtain ⟨k1, k2, k3⟩ := n1.upd n2 (s' := { s with halted := true }) ⟨Bl, tb, t2, t3, ea, gse hml, b2, b3⟩ (n1.st.jd λ b e => gsn (n1.d1 b e).1) (n1.fr.jd λ b e => gsn (n1.d2 b e)) (λ k _ hn => gsn λ e => hn (.inl e)) (by simp) (λ k h => .inl h) n1.d1 n1.d2
  exact ⟨_, _, _, _, ⟨by rw [Ms.leave, h0], by rw [Ms.leave, h0]⟩, k1, k2, n3.trans k3⟩
 simp only [mcs] at done
 have hw1 : IntKind.i64.wrap (-1) = -1 := rfl
 rcases n1.fr with ⟨rfl, hn⟩ | ⟨b, cs, rfl, h1, h2, h3⟩
 ·have hd : decide ((-1 : Int) < 0) = true := rfl
  simp only [pf45, ↓fj, wall, simprocAttr, wH, gq, fq, Ins.av, b1, hw1, hd]
  exact done hn
 cases hf : s.ia with
 | nil =>
  rw [hf] at b1
  have hd : decide ((-1 : Int) < 0) = true := rfl
  have hw2 : IntKind.i64.wrap ((([] : List Fr).length : Int) - 1) = -1 := rfl
  simp only [pf45, ↓fj, wall, simprocAttr, wH, gq, fq, Ins.av, b1, hw1, hw2, hd]
  rw [hf] at done
  exact done rfl
 | cons f fs =>
  have hl : s.ia.length = fs.length + 1 := by rw [hf]; rfl
  obtain ⟨d2, d1⟩ : b ≠ m /\ uf sa ≠ some b := ⟨n1.d2 b rfl, λ e => (n1.d1 b e).2 rfl⟩
  rw [hl] at b1 h2 h3 hb
  rw [hf, List.reverse_cons] at h3
  obtain ⟨k1, k2⟩ := FAs.split h3
  rw [List.length_reverse] at k1 k2
  obtain ⟨ef, l', e, k3, k4⟩ := k2
  rw [FAs] at k4; subst k4
  rw [List.take_take, Nat.min_eq_left (by omega)] at k1
  have hdt : (cs.drop (fs.length * 3)).take 3 = [.int (f.bk : Nat), .int (f.at' : Nat), ef] := by
   rw [List.drop_take] at e
   rw [<- e, Nat.mul_comm]; congr 1; omega
  have hl3 : 3 <= (cs.drop (fs.length * 3)).length := by rw [b8]; omega
  have gm := λ (L : List fp) (y : fp) => gsn (H := L) (x := y) d2
  have gb := λ (L : List fp) (y : fp) => gsn (H := L) (x := y) (λ e => d2 e.symm : m ≠ b)
  have hw : IntKind.i64.wrap (((fs.length + 1 : Nat) : Int) - 1) = (fs.length : Nat) := (je (by unfold m7; omega)).trans (by omega)
  have hd : decide (((fs.length : Nat) : Int) < 0) = false := by simp
  have hlt1 : ((fs.length : Nat) : Int) < (fs.length + 1 : Nat) := by omega
  have hl33 : fs.length * 3 + 3 <= cs.length := by omega
  have hle1 : ((fs.length : Nat) : Int) <= (fs.length + 1 : Nat) := by omega
  have hcut : A7 b 0 (fs.length + 1) 3 3 true 0 fs.length true (some (some (.cp b 0 3))) = some (.bs b 0 fs.length 3 true) := by simp [A7]
  simp only [pf45, ↓fj, wall, simprocAttr, wH, gq, fq, Ins.av, b1, hw, hd, hlt1, hl33, hle1, hcut, fg, h1, hdt, hl3, gse hml, gm, gb, mo k3, pq k3, m8 k3]
  refine MQ.of (fa' := .bs b 0 fs.length 3 true) (s' := { s with now := f, ia := fs }) ⟨by rw [Ms.leave, hf], by rw [Ms.leave, hf]⟩ n3 (n1.upd n2 ⟨Bl, tb, t2, t3, ef, gse (by simpa using hml), b2, k3⟩ (n1.st.jd λ k e => ?_) (.inr ⟨b, _, rfl, (gsn d2).trans (gse (by simpa using fy h1)), ?_, ?_⟩) (λ k hk hn => ?_) (by simp) (λ k hk => ?_) (λ k e => ?_) (λ k e => ?_))
  ·have h := (n1.d1 k e).1
   have h' : k ≠ b := λ h => d1 (by rw [<- h]; exact e)
   rw [gsn h, gsn h', gsn h]
  ·simp only [ah, b7, ak, b8]; omega
  ·rw [Nat.mul_comm 3 fs.length, List.take_append_of_le_length (by rw [b7]; omega), List.take_take, Nat.min_self, Nat.mul_comm]
   exact k1
  ·have h : k ≠ m := λ e => hn (.inl e)
   have h' : k ≠ b := λ e => hn (.inr (.inr (by rw [e]; rfl)))
   rw [gsn h, gsn h', gsn h]
  ·rcases hk with hk | hk | hk
   ·exact .inl (.inl hk)
   ·exact .inl (.inr (.inl hk))
   ·cases hk; exact .inl (.inr (.inr rfl))
  ·exact ⟨(n1.d1 k e).1, λ h => by cases h; exact d1 e⟩
  ·cases e; exact d2
end
end Go.Proofs.Eng
namespace Go.Proofs.Eng
open Go Go.Proofs
set_option maxRecDepth 100000
set_option maxHeartbeats 16000000
section
variable {F : Fz} {H : List fp} {V : List Nat} {m : Nat} {sa fa : AV} {c : Cd} {s : Ms} {x : Ins}
theorem Ue {a f : Vl} {st : List Vl} (hs : s.stack = a :: f :: st) (hb : s.stack.length <= 1000000) (hfr : s.ia.length <= 1000000) (hcl : ∀ n e, f = .clo n e -> 0 <= n) : Op 44 x s s.apply F H V m sa fa c := by
 intro hM hF
 obtain ⟨n1, n2, n3⟩ := hM.more hF [.cells false [.int x.op, .int x.a, .int x.b, .str x.n]]
 obtain ⟨va, ⟨H1, V1⟩, ⟨F1, sa1, fa1, s1, ⟨hva, rfl, rfl⟩, p1, p2, p3⟩, cp⟩ := (wc (V := V) n1 n2 hs hb).call rfl
 obtain ⟨ka, rfl⟩ := hva.ptr
 rw [hs] at hb
 simp only [ak] at hb
 obtain ⟨vf, ⟨H2, V2⟩, ⟨F2, sa2, fa2, s2, ⟨hvf, rfl, rfl⟩, q1, q2, q3⟩, cq⟩ := (wc (V := V1) p1 p2 (v := f) (st := st) rfl (by simp only [ak]; omega)).call rfl
 obtain ⟨kf, rfl⟩ := hvf.ptr
 have hc := VR.cells q2 hvf
 have hN := n3.trans (p3.trans q3)
 refine ly pf44_is (dh rfl) ?_
 cases f with
 | box =>
  simp only at hc
  obtain ⟨r, ⟨H3, V3⟩, ⟨F3, sa3, fa3, s3, ⟨rfl, rfl, rfl⟩, u1, u2, u3⟩, cu⟩ := (n9 (V := V2) q1 q2 hvf (by show st.length <= _; omega)).call rfl
  simp only [pf44, ↓fj, wall, simprocAttr, wH, gq, fq, Ins.av, cp, cq, hc, cu]
  exact MQ.of ⟨by rw [Ms.apply, hs], by rw [Ms.apply, hs]⟩ hN ⟨u1, u2, u3⟩
 | clo n e =>
  obtain ⟨ea, hc, he⟩ := hc
  obtain ⟨k, rfl⟩ : ∃ k : Nat, n = (k : Nat) := ⟨n.toNat, by have := hcl n e rfl; omega⟩
  obtain ⟨r, ⟨H3, V3⟩, ⟨F3, sa3, fa3, s3, ⟨rfl, hr⟩, u1, u2, u3⟩, cu⟩ := (Eu (V := V2) (x := .sl [.ptr ka 0] (.cap 1)) q1 q2 he (.inl ⟨_, rfl⟩) (VRs.one hva) (by simp)).call rfl
  obtain ⟨r2, ⟨H4, V4⟩, ⟨F4, sa4, fa4, s4, ⟨rfl, h4⟩, y1, y2, y3⟩, cy⟩ := (Cq (V := V3) k u1 u2 hr hfr).call rfl
  simp only [pf44, ↓fj, wall, simprocAttr, wH, gq, fq, Ins.av, cp, cq, hc, cu, cy, mo he, pq he, m8 he]
  obtain ⟨ea3, hc3, _⟩ := VR.cells u2 (VR.mono u3.le _ _ hvf)
  refine ⟨⟨.int (k : Nat), by simp only at hc3; rw [hc3]; rfl, by simp [lq, eqV]⟩, MQ.of ?_ (hN.trans u3) ⟨y1, y2, y3⟩⟩
  rw [Ms.apply, hs]
  simp only [ew]
  rcases h4 with ⟨h1, rfl, rfl⟩ | ⟨h1, rfl, rfl⟩
  ·rw [Ms.enter, if_pos h1]; exact ⟨rfl, rfl⟩
  ·rw [Ms.enter, if_neg (by show ¬ 65536 <= s.ia.length; exact Nat.not_le.2 h1)]; exact ⟨rfl, rfl⟩
 | ctor n nm p =>
  obtain ⟨pa, l, hc, _⟩ := hc
  simp only [pf44, ↓fj, wall, simprocAttr, wH, gq, fq, Ins.av, cp, cq, hc]
  exact MQ.of ⟨by rw [Ms.apply, hs], by rw [Ms.apply, hs]⟩ hN ⟨q1, q2, .refl _ _ _⟩
 | pair x y =>
  obtain ⟨ax, ay, t, hc, h1, h2⟩ := hc
  simp only [pf44, ↓fj, wall, simprocAttr, wH, gq, fq, Ins.av, cp, cq, hc]
  exact MQ.of ⟨by rw [Ms.apply, hs], by rw [Ms.apply, hs]⟩ hN ⟨q1, q2, .refl _ _ _⟩
end
end Go.Proofs.Eng
