/- The reference's Check. No conditions beyond those in the theorems. -/
import Derived.Test.YtflfmkkcnphdcaaGreatN8
import Derived.Test.YtflfmkkcnphdcaaGreatP1
set_option linter.all false
set_option linter.deprecated false
set_option linter.unnecessarySimpa false
set_option linter.unusedVariables false
set_option linter.unusedSimpArgs false
set_option linter.defProp false
namespace Go.Proofs.Eng
open Go Go.Proofs
set_option maxRecDepth 100000
set_option maxHeartbeats 16000000
section
variable {F : Fz} {H : List fp} {V : List Nat} {m : Nat} {sa fa : AV} {c : Cd} {s : Ms} {x : Ins}
theorem rf (i : Int) : l6 (.int i) (.int i) = true := by simp [l6, eqV]
theorem Ba (b : ByteArray) : l6 (.str b) (.str b) = true := by simp only [l6, eqV]; exact (bytes_beq _ _).2 rfl
theorem MR.a5s (hM : MR F H m sa fa c s) (hF : Fro F H) (g : fp) (l l' : List AV) : ∃ F', MR F' (H ++ [g, .cells false l, .cells false l']) m sa fa c s /\ Fro F' (H ++ [g, .cells false l, .cells false l']) /\ Nx F H (Own m sa fa) F' (H ++ [g, .cells false l, .cells false l']) (Own m sa fa) /\ F' (H.length + 1) = some l /\ F' (H.length + 2) = some l' := by
 obtain ⟨F1, h1, h2, h3, h4⟩ := hM.E9 hF g l
 obtain ⟨F2, k1, k2, k3, k4⟩ := h1.Vb h2 l'
 rw [aj] at k1 k2 k3
 exact ⟨F2, k1, k2, h3.trans k3, k3.le _ _ h4, by rw [show H.length + 2 = (H ++ [g, .cells false l]).length from by simp]; exact k4⟩
theorem MR.cut {b L k n : Nat} {Bl : List AV} {tb t2 t3 : Tl} {ea : AV} (hM : MR F H m (.bs b 0 L 1 false) fa c s) (hF : Fro F H) (hL : L = s.stack.length) (hk : k + n = L)
  (b1 : H[m]? = some (.cells false (mcs Bl tb t2 t3 c (s.now.bk : Nat) (s.now.at' : Nat) ea (.bs b 0 L 1 false) fa (s.steps : Nat) s.halted s.err m))) (b2 : LIs blX c.bl Bl) (b3 : ER F s.now.env ea) :
  MR F (H.set m (.cells false (mcs Bl tb t2 t3 c (s.now.bk : Nat) (s.now.at' : Nat) ea (.bs b 0 k 1 false) fa (s.steps : Nat) s.halted s.err m))) m (.bs b 0 k 1 false) fa c { s with stack := s.stack.drop n } /\
  Fro F (H.set m (.cells false (mcs Bl tb t2 t3 c (s.now.bk : Nat) (s.now.at' : Nat) ea (.bs b 0 k 1 false) fa (s.steps : Nat) s.halted s.err m))) /\
  Nx F H (Own m (.bs b 0 L 1 false) fa) F (H.set m (.cells false (mcs Bl tb t2 t3 c (s.now.bk : Nat) (s.now.at' : Nat) ea (.bs b 0 k 1 false) fa (s.steps : Nat) s.halted s.err m))) (Own m (.bs b 0 k 1 false) fa) := by
 have hml := fy b1
 obtain ⟨d1, d2⟩ := hM.d1 b rfl
 have hlen : (s.stack.drop n).length = k := by rw [b8]; omega
 refine hM.upd hF ⟨Bl, tb, t2, t3, ea, gse hml, b2, b3⟩ ?_ (hM.fr.jg λ k e => gsn (hM.d2 k e)) (λ k hk hn => gsn λ e => hn (.inl e)) (by simp) (λ k hk => ?_) (λ k e => ?_) hM.d2
 ·rcases hM.st with ⟨h, _⟩ | ⟨b', cs, h, h1, h2, h3⟩
  ·cases h
  cases h
  refine .inr ⟨b, cs, by show _ = AV.bs b 0 (s.stack.drop n).length 1 false; rw [hlen], (gsn d1).trans h1, by show (s.stack.drop n).length <= _; omega, ?_⟩
  show VRs F (s.stack.drop n).reverse (cs.take (s.stack.drop n).length)
  rw [<- cx n s.stack, List.reverse_append] at h3
  obtain ⟨h4, _⟩ := VRs.split h3
  rw [List.length_reverse, List.take_take] at h4
  rw [Nat.min_eq_left (by rw [cx]; omega)] at h4
  exact h4
 ·rcases hk with hk | hk | hk
  ·exact .inl (.inl hk)
  ·cases hk; exact .inl (.inr (.inl rfl))
  ·exact .inl (.inr (.inr hk))
 ·cases e; exact ⟨d1, d2⟩
theorem Hf : ∀ (n : Nat) (l : List AV), n <= l.length -> chunk 1 false n l = l.take n
 | 0, l, _ => by rw [chunk, List.take_zero]
 | n + 1, [], h => by simp at h
 | n + 1, a :: l, h => by
  rw [chunk, if_neg (by simp), List.headD_cons, List.drop_succ_cons, List.drop_zero, List.take_succ_cons, Hf n l (by simpa using h)]
theorem VRs.flat {F : Fz} : ∀ {p : List Vl} {l : List AV}, VRs F p l -> Go.Proofs.Eng.flat l = l /\ (l.all AV.one) = true /\ (l.all λ x => x.cells.length == 1 && x.cells.all gv) = true
 | [], l, h => by rw [VRs] at h; subst h; exact ⟨rfl, rfl, rfl⟩
 | v :: p, l, h => by
  rw [VRs] at h
  obtain ⟨a, l', rfl, h1, h2⟩ := h
  obtain ⟨k, rfl⟩ := h1.ptr
  obtain ⟨h3, h4, h5⟩ := VRs.flat h2
  refine ⟨by rw [l9, h3]; rfl, by rw [da, h4]; rfl, by rw [da, h5]; rfl⟩
theorem J0 {n : Nat} (hx : x.b = (n : Nat)) (hn : n <= s.stack.length) (hb : s.stack.length <= 1000000) : Op 46 x s ({ s with stack := .ctor x.a x.n (s.stack.take n).reverse :: s.stack.drop n }, 0) F H V m sa fa c := by
 intro hM hF
 obtain ⟨Bl, tb, t2, t3, ea, b1, b2, b3⟩ := hM.sw
 have hml := fy b1
 have hga := λ G : List fp => (gal (G := G) hml).trans b1
 have hgx := λ G : List fp => (show (H ++ .cells false [.int x.op, .int x.a, .int (n : Nat), .str x.n] :: G)[H.length]? = some (.cells false [.int x.op, .int x.a, .int (n : Nat), .str x.n]) from by rw [af (dh _), Nat.sub_self]; rfl)
 simp only [mcs] at hga
 refine lf pf46_is (dg rfl) ?_
 rcases hM.st with ⟨rfl, hs⟩ | ⟨b, cs, rfl, h1, h2, h3⟩
 ·have h0 : n = 0 := by rw [hs] at hn; simpa using hn
  have hw : IntKind.i64.wrap (0 - ((n : Nat) : Int)) = 0 := by rw [h0]; rfl
  have hsl : qz 1 [] .nil 0 0 none = some (.sl [] .nil) := rfl
  have h00 : (0 : Int) <= 0 /\ (0 : Int) <= 0 := ⟨Int.le_refl _, Int.le_refl _⟩
  obtain ⟨F1, n1, n2, n3, n4⟩ := hM.E9 hF (.cells false [.int x.op, .int x.a, .int (n : Nat), .str x.n]) [.int 2, .int x.a, .str x.n, .v (.pointer none), .sl [] (su (.sl [] .nil))]
  have hv : VR F1 (.ctor x.a x.n []) (.ptr (H.length + 1) 0) := by rw [VR]; exact ⟨_, _, [], rfl, n4, .inl ⟨_, rfl⟩, by rw [VRs]⟩
  obtain ⟨w1, w2, w3⟩ := n1.upd n2 (s' := s) ⟨Bl, tb, t2, t3, ea, gse (by simp; omega), b2, ER.mono n3.le _ _ b3⟩ (n1.st.jg λ b e => gsn (n1.d1 b e).1) (n1.fr.jg λ b e => gsn (n1.d2 b e)) (λ k _ hn => gsn λ e => hn (.inl e)) (by simp) (λ k h => .inl h) n1.d1 n1.d2
  obtain ⟨r, ⟨H3, V3⟩, ⟨F3, sa3, fa3, s3, ⟨rfl, rfl, rfl⟩, u1, u2, u3⟩, cu⟩ := (nc (V := V) w1 w2 hv hb).call rfl
  simp only [mcs] at cu
  simp only [pf46, ↓fh, wall, simprocAttr, wH, gq, fj, Ins.av, hga, hgx, hx, hw, hsl, h00, Int.toNat_zero, rf, Ba, cu]
  exact MQ.of ⟨by rw [h0, List.take_zero, List.drop_zero]; rfl, rfl⟩ n3 ⟨u1, u2, w3.trans u3⟩
 ·obtain ⟨L, hL⟩ : ∃ L, L = s.stack.length := ⟨_, rfl⟩
  obtain ⟨k, hk⟩ : ∃ k, k + n = L := ⟨L - n, by omega⟩
  have hbl := fy h1
  rw [<- hL] at hga b1 h2 h3 hM
  have hw : IntKind.i64.wrap (((L : Nat) : Int) - ((n : Nat) : Int)) = (k : Nat) := (jd (by unfold mg; omega)).trans (by omega)
  have hle1 : ((k : Nat) : Int) <= ((L : Nat) : Int) := by omega
  have hgb := λ G : List fp => (gal (G := G) hbl).trans h1
  have hcut2 : A5 b 0 L 1 1 false 0 k true none = some (.bs b 0 k 1 false) := by simp [A5]; omega
  have hvs : VRs F (s.stack.take n).reverse ((cs.drop k).take n) := by
   rw [<- cx n s.stack, List.reverse_append] at h3
   obtain ⟨_, h4⟩ := VRs.split h3
   rw [List.length_reverse, b8, List.drop_take, show L - (s.stack.length - n) = n from by omega, show s.stack.length - n = k from by omega] at h4
   exact h4
  by_cases h0 : n = 0
  ·obtain ⟨y, hcut, hel⟩ : ∃ y, A5 b 0 L 1 1 false k L false none = some y /\ ∀ G : List fp, ko ⟨H ++ G, V⟩ y = some [] := by
    simp only [A5]
    rw [if_pos ⟨by omega, dh _, trivial⟩]
    split
    ·refine ⟨_, rfl, λ G => ?_⟩
     rw [show L - k = 0 from by omega]
     simp only [ko, hgb]
     rw [if_pos ⟨by omega, by simp⟩, chunk]
    ·exact ⟨_, rfl, λ G => rfl⟩
   obtain ⟨F1, n1, n2, n3, n4⟩ := hM.E9 hF (.cells false [.int x.op, .int x.a, .int (n : Nat), .str x.n]) [.int 2, .int x.a, .str x.n, .v (.pointer none), .sl [] (su y)]
   have hv : VR F1 (.ctor x.a x.n (s.stack.take n).reverse) (.ptr (H.length + 1) 0) := by rw [h0, VR]; exact ⟨_, _, [], rfl, n4, .inl ⟨_, rfl⟩, by rw [List.take_zero, List.reverse_nil, VRs]⟩
   obtain ⟨w1, w2, w3⟩ := n1.cut n2 hL hk ((gal hml).trans b1) b2 (ER.mono n3.le _ _ b3)
   obtain ⟨r, ⟨H3, V3⟩, ⟨F3, sa3, fa3, s3, ⟨rfl, rfl, rfl⟩, u1, u2, u3⟩, cu⟩ := (nc (V := V) w1 w2 hv (by show (s.stack.drop n).length <= _; rw [b8]; omega)).call rfl
   simp only [mcs] at cu
   simp only [pf46, ↓fh, wall, simprocAttr, wH, gq, fj, Ins.av, hga, hgx, hgb, hx, hw, hle1, Int.le_refl, Option.map_none, hcut, hcut2, eu, rf, Ba, hel, Jz, cu]
   exact MQ.of ⟨rfl, rfl⟩ n3 ⟨u1, u2, w3.trans u3⟩
  ·have hcut : A5 b 0 L 1 1 false k L false none = some (.bs b (k * 1) n 1 false) := by
    simp only [A5]; rw [if_pos ⟨by omega, dh _, trivial⟩, if_pos (.inl (by omega))]
    simp; omega
   obtain ⟨f1, f2, f3⟩ := hvs.flat
   obtain ⟨l, hl⟩ : ∃ l, l = (cs.drop k).take n := ⟨_, rfl⟩
   rw [<- hl] at hvs f1 f2 f3
   have hll : l.length = n := by rw [hl, b7, b8]; omega
   have hel := λ G : List fp => (show ko ⟨H ++ G, V⟩ (.bs b (k * 1) n 1 false) = some l from by
    simp only [ko, hgb, Nat.mul_one]
    rw [if_pos ⟨by omega, by rw [<- hl, f2]; rfl⟩, Hf _ _ (by rw [b8]; omega), <- hl])
   have hcl := λ (s : ASt) (a : AV) => Ye (s := s) (es := 1) (ag := false) (a := a) (l := l) (λ e => h0 (by rw [<- hll, e]; rfl)) (by rw [hll]; omega) f3
   obtain ⟨F1, n1, n2, n3, n4, n5⟩ := hM.a5s hF (.cells false [.int x.op, .int x.a, .int (n : Nat), .str x.n]) l [.int 2, .int x.a, .str x.n, .v (.pointer none), .bs (H.length + 1) 0 l.length 1 false]
   have hv : VR F1 (.ctor x.a x.n (s.stack.take n).reverse) (.ptr (H.length + 2) 0) := by rw [VR]; exact ⟨_, _, l, rfl, n5, .inr ⟨_, rfl, n4⟩, VRs.mono n3.le _ _ hvs⟩
   obtain ⟨w1, w2, w3⟩ := n1.cut n2 hL hk ((gal hml).trans b1) b2 (ER.mono n3.le _ _ b3)
   obtain ⟨r, ⟨H3, V3⟩, ⟨F3, sa3, fa3, s3, ⟨rfl, rfl, rfl⟩, u1, u2, u3⟩, cu⟩ := (nc (V := V) w1 w2 hv (by show (s.stack.drop n).length <= _; rw [b8]; omega)).call rfl
   simp only [mcs] at cu
   simp only [pf46, ↓fh, wall, simprocAttr, wH, gq, fj, Ins.av, hga, hgx, hgb, hx, hw, hle1, Int.le_refl, Option.map_none, hcut, hcut2, eu, rf, Ba, hel, hcl, f1, cu]
   exact MQ.of ⟨rfl, rfl⟩ n3 ⟨u1, u2, w3.trans u3⟩
end
end Go.Proofs.Eng
namespace Go.Proofs.Eng
open Go Go.Proofs
set_option maxRecDepth 100000
set_option maxHeartbeats 16000000
section
variable {F : Fz} {H : List fp} {V : List Nat} {m : Nat} {sa fa : AV} {c : Cd} {s : Ms} {x : Ins}
theorem Cj (l : List Ins) : ((jk l).all λ x => x.cells.length == 4) = true := by
 rw [aw]; intro y hy
 obtain ⟨b, _, rfl⟩ := List.mem_map.1 hy; rfl
theorem Je {l : List Ins} {i : Nat} {y : Ins} (h : l[i]? = some y) : (jk l)[i]? = some y.av := by rw [jk, bh, h]; rfl
theorem M7 {l : List Ins} {t : Tl} {a b : Nat} (h1 : a <= b) (h2 : b <= l.length) : ∃ t', qz 4 (jk l) t a b none = some (.sl (jk ((l.take b).drop a)) t') := by
 unfold qz
 rw [if_pos ⟨h1, by rw [jc]; exact h2⟩]
 dsimp only
 split
 ·rename_i h
  refine ⟨t, ?_⟩
  rw [h.1, h.2, jc, au (dh _), List.drop_zero]
 ·exact ⟨_, by rw [jk, jk, List.map_drop, List.map_take]⟩
theorem S5 {n : Nat} {v : Vl} {st : List Vl} {l : List Ins} (hx : x.a = (n : Nat)) (hs : s.stack = v :: st) (hb : s.stack.length <= 1000000) (hfr : s.ig.length <= 1000000) (hl : c.bl[s.now.bk]? = some l) (hat : s.now.at' + n <= l.length) (hll : l.length <= 1000000000)
  (hk : ∀ k nm p, v = .ctor k nm p -> 0 <= k /\ p.length <= 1000000) (hy : ∀ y ∈ c.brs s.now n, 0 <= y.a) : Op 47 x s (s.choose c n) F H V m sa fa c := by
 intro hM hF
 obtain ⟨n1, n2, n3⟩ := hM.more hF [.cells false [.int x.op, .int (n : Nat), .int x.b, .str x.n]]
 obtain ⟨Bl, tb, t2, t3, ea, b1, b2, b3⟩ := n1.sw
 have hml := fy b1
 obtain ⟨_, ab, bl1, _, _, bl2, ⟨tl, rfl⟩⟩ := b2.at (i := s.now.bk) (by rw [b2.len]; exact (List.getElem?_eq_some_iff.1 hl).1)
 rw [hl] at bl1; cases bl1
 have hBa : (Bl.all λ x => x.cells.length == 1) = true := aw.2 λ y hy => by
  obtain ⟨q, hq⟩ := List.mem_iff_getElem?.1 hy
  obtain ⟨b, a, _, _, _, e4, ⟨t, rfl⟩⟩ := b2.at (i := q) (List.getElem?_eq_some_iff.1 hq).1
  rw [hq] at e4; cases e4; rfl
 obtain ⟨a, ⟨H1, V1⟩, ⟨F1, sa1, fa1, s1, ⟨hv, rfl, rfl⟩, p1, p2, p3⟩, cp⟩ := (wz (V := V) n1 n2 hs hb).call rfl
 obtain ⟨ka, rfl⟩ := hv.ptr
 have hc := VR.cells p2 hv
 have hw : IntKind.i64.wrap ((s.now.at' : Int) + (n : Nat)) = ((s.now.at' + n : Nat) : Int) := (jd (by unfold mg; omega)).trans (by omega)
 obtain ⟨t', hsl⟩ := M7 (l := l) (t := tl) (a := s.now.at') (b := s.now.at' + n) (by omega) hat
 have hle : (0 : Int) <= (s.now.at' : Int) /\ ((s.now.at' : Nat) : Int) <= ((s.now.at' + n : Nat) : Int) := by omega
 have hxg : (H ++ [fp.cells false [.int x.op, .int (n : Nat), .int x.b, .str x.n]])[H.length]? = some (.cells false [.int x.op, .int (n : Nat), .int x.b, .str x.n]) := gae
 have h4 := Cj l
 have hi1 : ((s.now.at' : Nat) : Int) <= ((jk l).length : Nat) := by rw [jc]; omega
 have hi2 : ((s.now.at' + n : Nat) : Int) <= ((jk l).length : Nat) := by rw [jc]; omega
 have b1o := b1
 simp only [mcs] at b1
 refine lf pf47_is (dg rfl) ?_
 have hN := n3.trans p3
 cases v with
 | box =>
  simp only at hc
  simp only [pf47, ↓fh, wall, simprocAttr, wH, gq, fj, Ins.av, b1, bl2, hBa, hx, hw, hle, hi1, hi2, h4, hsl, ff, hxg, eu, cp, hc]
  exact MQ.of ⟨by rw [Ms.choose, hs], by rw [Ms.choose, hs]⟩ hN ⟨p1, p2, .refl _ _ _⟩
 | clo k e =>
  obtain ⟨ea', hc, _⟩ := hc
  simp only [pf47, ↓fh, wall, simprocAttr, wH, gq, fj, Ins.av, b1, bl2, hBa, hx, hw, hle, hi1, hi2, h4, hsl, ff, hxg, eu, cp, hc]
  exact MQ.of ⟨by rw [Ms.choose, hs], by rw [Ms.choose, hs]⟩ hN ⟨p1, p2, .refl _ _ _⟩
 | pair y z =>
  obtain ⟨ay, az, t, hc, _⟩ := hc
  simp only [pf47, ↓fh, wall, simprocAttr, wH, gq, fj, Ins.av, b1, bl2, hBa, hx, hw, hle, hi1, hi2, h4, hsl, ff, hxg, eu, cp, hc]
  exact MQ.of ⟨by rw [Ms.choose, hs], by rw [Ms.choose, hs]⟩ hN ⟨p1, p2, .refl _ _ _⟩
 | ctor k nm p =>
  obtain ⟨pa, lp, hc, hpa, hps⟩ := hc
  obtain ⟨hk0, hpl⟩ := hk k nm p rfl
  obtain ⟨kk, rfl⟩ : ∃ kk : Nat, k = (kk : Nat) := ⟨k.toNat, by omega⟩
  have hpn := hps.len
  obtain ⟨Br, hBr⟩ : ∃ Br, Br = (l.take (s.now.at' + n)).drop s.now.at' := ⟨_, rfl⟩
  have hbrs : c.brs s.now n = Br := by
   rw [Cd.brs, Cd.blk, ck, hl, hBr, List.drop_take]
   simp
  rw [<- hBr] at hsl
  have h4b := Cj Br
  obtain ⟨Bl', tb', t2', t3', ea', c1, c2, c3⟩ := p1.sw
  have hml1 := fy c1
  have c1o := c1
  simp only [mcs] at c1
  have hout : (kk < Br.length -> ∀ y, Br[kk]? = some y -> y.b ≠ (lp.length : Nat)) -> s.choose c n = ({ s with stack := st }, 10) := by
   intro h
   rw [Ms.choose, hs]
   simp only [eu, hbrs]
   cases hq : Br[kk]? with
   | none => rfl
   | some y =>
    simp only
    rw [if_neg (by rw [<- hpn]; exact h (List.getElem?_eq_some_iff.1 hq).1 y hq)]
  rcases di kk Br.length with hlt | hge
  ·have hdec : decide (((kk : Nat) : Int) >= ((jk Br).length : Nat)) = false := by rw [jc]; simpa using hlt
   have hlt' : ((kk : Nat) : Int) < ((jk Br).length : Nat) := by rw [jc]; omega
   have hyq : Br[kk]? = some Br[kk] := aa hlt
   obtain ⟨y, hyy⟩ : ∃ y, y = Br[kk] := ⟨_, rfl⟩
   rw [<- hyy] at hyq
   have hyg := Je hyq
   have hym : y ∈ c.brs s.now n := by rw [hbrs]; exact aq hyq
   obtain ⟨ya, hya⟩ : ∃ ya : Nat, y.a = (ya : Nat) := ⟨y.a.toNat, by have := hy y hym; omega⟩
   simp only [Ins.av, hya] at hyg
   cases hne : (y.b != ((lp.length : Nat) : Int))
   ·have hyb : y.b = (p.length : Nat) := by rw [<- hpn]; simpa using hne
    obtain ⟨w1, w2, w3⟩ := p1.upd p2 (s' := { s with stack := st, now := { s.now with at' := s.now.at' + n } }) ⟨Bl', tb', t2', t3', ea', gse hml1, c2, c3⟩ (p1.st.jg λ b e => gsn (p1.d1 b e).1) (p1.fr.jg λ b e => gsn (p1.d2 b e)) (λ k _ hn => gsn λ e => hn (.inl e)) (by simp) (λ k h => .inl h) p1.d1 p1.d2
    obtain ⟨r, ⟨H3, V3⟩, ⟨F3, sa3, fa3, s3, ⟨rfl, hr⟩, u1, u2, u3⟩, cu⟩ := (Ej (V := V1) w1 w2 c3 hpa hps (by rw [hpn]; exact hpl)).call rfl
    obtain ⟨r2, ⟨H4, V4⟩, ⟨F4, sa4, fa4, s4, ⟨rfl, hr4⟩, y1, y2, y3⟩, cy⟩ := (Cq (V := V3) ya u1 u2 hr hfr).call rfl
    simp only [mcs] at cu
    have hkm : ka ≠ m := λ e => by
     rw [VR] at hv
     obtain ⟨k', _, _, e1, e2, _⟩ := hv
     cases e1
     rw [e, p1.fz m (.inl rfl)] at e2; cases e2
    have gk := λ (L : List fp) (y : fp) => gsn (H := L) (x := y) hkm
    have hxg1 : H1[H.length]? = some (.cells false [.int x.op, .int (n : Nat), .int x.b, .str x.n]) := by
     rw [p3.jg H.length (by simp) ?_]
     ·exact hxg
     ·intro h
      have := hM.lt h
      omega
    have hxm : H.length ≠ m := by have := hM.lt (.inl rfl); omega
    have gx := λ (L : List fp) (y : fp) => gsn (H := L) (x := y) hxm
    obtain ⟨pa3, l3, hc3, _⟩ := VR.cells u2 (VR.mono u3.le _ _ hv)
    have fin : MQ F1 H m sa fa c (λ v _ s' => s' = (s.choose c n).1 /\ v = .int (s.choose c n).2) r2 ⟨H4, V4⟩ := by
     refine MQ.of ?_ hN ⟨y1, y2, w3.trans (u3.trans y3)⟩
     rw [Ms.choose, hs]
     simp only [eu, hbrs, hyq]
     rw [if_pos hyb, hya, eu]
     rcases hr4 with ⟨h1, rfl, rfl⟩ | ⟨h1, rfl, rfl⟩
     ·rw [Ms.enter, if_pos h1]; exact ⟨rfl, rfl⟩
     ·rw [Ms.enter, if_neg (by show ¬ 65536 <= s.ig.length; exact Nat.not_le.2 h1)]; exact ⟨rfl, rfl⟩
    rcases hpa with ⟨tp, rfl⟩ | ⟨bp, rfl, hbp⟩
    ·simp only [pf47, ↓fh, wall, simprocAttr, wH, gq, fj, Ins.av, b1, bl2, hBa, hx, hw, hle, hi1, hi2, h4, hsl, ff, hxg, eu, cp, hc, h4b, c1, hdec, hlt', hyg, hne, gse hml1, gk, gx, hxg1, cu, cy, rf]
     exact ⟨⟨.int (kk : Nat), by rw [hc3]; rfl, rf _⟩, fin⟩
    ·simp only [pf47, ↓fh, wall, simprocAttr, wH, gq, fj, Ins.av, b1, bl2, hBa, hx, hw, hle, hi1, hi2, h4, hsl, ff, hxg, eu, cp, hc, h4b, c1, hdec, hlt', hyg, hne, gse hml1, gk, gx, hxg1, cu, cy, rf]
     exact ⟨⟨.int (kk : Nat), by rw [hc3]; rfl, rf _⟩, fin⟩
   ·have : s.choose c n = ({ s with stack := st }, 10) := hout λ _ y' hy' e => by
     rw [hyq] at hy'; cases hy'
     rw [e] at hne; simp at hne
    rcases hpa with ⟨tp, rfl⟩ | ⟨bp, rfl, hbp⟩
    ·simp only [pf47, ↓fh, wall, simprocAttr, wH, gq, fj, Ins.av, b1, bl2, hBa, hx, hw, hle, hi1, hi2, h4, hsl, ff, hxg, eu, cp, hc, h4b, c1, hdec, hlt', hyg, hne]
     exact MQ.of ⟨by rw [this], by rw [this]⟩ hN ⟨p1, p2, .refl _ _ _⟩
    ·simp only [pf47, ↓fh, wall, simprocAttr, wH, gq, fj, Ins.av, b1, bl2, hBa, hx, hw, hle, hi1, hi2, h4, hsl, ff, hxg, eu, cp, hc, h4b, c1, hdec, hlt', hyg, hne]
     exact MQ.of ⟨by rw [this], by rw [this]⟩ hN ⟨p1, p2, .refl _ _ _⟩
  ·have hdec : decide (((kk : Nat) : Int) >= ((jk Br).length : Nat)) = true := by rw [jc]; simpa using hge
   have : s.choose c n = ({ s with stack := st }, 10) := hout λ h => absurd h (by omega)
   rcases hpa with ⟨tp, rfl⟩ | ⟨bp, rfl, hbp⟩
   ·simp only [pf47, ↓fh, wall, simprocAttr, wH, gq, fj, Ins.av, b1, bl2, hBa, hx, hw, hle, hi1, hi2, h4, hsl, ff, hxg, eu, cp, hc, h4b, c1, hdec]
    exact MQ.of ⟨by rw [this], by rw [this]⟩ hN ⟨p1, p2, .refl _ _ _⟩
   ·simp only [pf47, ↓fh, wall, simprocAttr, wH, gq, fj, Ins.av, b1, bl2, hBa, hx, hw, hle, hi1, hi2, h4, hsl, ff, hxg, eu, cp, hc, h4b, c1, hdec]
    exact MQ.of ⟨by rw [this], by rw [this]⟩ hN ⟨p1, p2, .refl _ _ _⟩
end
end Go.Proofs.Eng
namespace Go.Proofs.Eng
open Go Go.Proofs
set_option maxRecDepth 100000
set_option maxHeartbeats 16000000
section
variable {F : Fz} {H : List fp} {V : List Nat} {m : Nat} {sa fa : AV} {c : Cd} {s : Ms} {x : Ins}
theorem Sq {e : List Vl} {a : AV} (h : ER F e a) : l6 a a = true := by
 cases e with
 | nil => rw [ER] at h; subst h; simp [l6, eqV]
 | cons v e => rw [ER] at h; obtain ⟨k, _, _, rfl, _⟩ := h; simp [l6]
theorem Rw.and {f : FuncId} {args : List AV} {s : ASt} {PR QR : AV -> ASt -> Prop} (h : Rw f args s PR) (k : Rw f args s QR) : Rw f args s λ v s1 => PR v s1 /\ QR v s1 := by
 obtain ⟨v, s1, h1, h2⟩ := h
 obtain ⟨w, s2, k1, k2⟩ := k
 rw [h1] at k1
 cases k1
 exact ⟨v, s1, h1, h2, k2⟩
theorem U4 {Bl : List AV} {tb t2 t3 : Tl} {ea : AV} {v : Vl} {st : List Vl} (hM : MR F H m sa fa c s) (hs : s.stack = v :: st) (hb : s.stack.length <= 1000000)
  (b1 : H[m]? = some (.cells false (mcs Bl tb t2 t3 c (s.now.bk : Nat) (s.now.at' : Nat) ea sa fa (s.steps : Nat) s.halted s.err m))) :
  Rw 91 [.ptr m 0] ⟨H, V⟩ λ _ s1 => ∃ sb, s1.H[m]? = some (.cells false (mcs Bl tb t2 t3 c (s.now.bk : Nat) (s.now.at' : Nat) ea sb fa (s.steps : Nat) s.halted s.err m)) := by
 have hml := fy b1
 simp only [mcs] at b1 ⊢
 refine lf pf91_is (dg rfl) ?_
 rcases hM.st with ⟨rfl, hn⟩ | ⟨b, cs, rfl, h1, h2, h3⟩
 ·rw [hs] at hn; cases hn
 have hl : s.stack.length = st.length + 1 := by rw [hs]; rfl
 rw [hl] at b1 h2 h3 hb
 rw [hs, List.reverse_cons] at h3
 obtain ⟨k1, k2⟩ := VRs.split h3
 rw [List.length_reverse] at k1 k2
 rw [VRs] at k2
 obtain ⟨a, l', e, k2, k3⟩ := k2
 rw [VRs] at k3; subst k3
 obtain ⟨ka, rfl⟩ := k2.ptr
 have hget : cs[st.length]? = some (.ptr ka 0) := by
  have := congrArg (λ l => l[0]?) e
  simp only [ba, bc, Nat.add_zero, bw] at this
  rw [if_pos (by omega)] at this; exact this
 have hw : IntKind.i64.wrap (((st.length + 1 : Nat) : Int) - 1) = (st.length : Nat) := (jd (by unfold mg; omega)).trans (by omega)
 have hlt1 : ((st.length : Nat) : Int) < (st.length + 1 : Nat) := by omega
 have hle1 : ((st.length : Nat) : Int) <= (st.length + 1 : Nat) := by omega
 have hhd : (cs.drop (st.length * 1)).head? = some (.ptr ka 0) := by rw [Nat.mul_one, List.head?_drop]; exact hget
 have hcut : A5 b 0 (st.length + 1) 1 1 false 0 st.length true none = some (.bs b 0 st.length 1 false) := by simp [A5]
 simp only [pf91, ↓fh, wall, simprocAttr, wH, gq, fj, b1, hl, h1, hhd, hw, hlt1, hle1, Option.map_none, hcut]
 exact ⟨_, gse hml⟩
theorem Ym {v : Vl} {st : List Vl} (hs : s.stack = v :: st) (hb : s.stack.length <= 1000000) : Op 51 x s s.bind F H V m sa fa c := by
 intro hM hF
 obtain ⟨n1, n2, n3⟩ := hM.more hF [.cells false [.int x.op, .int x.a, .int x.b, .str x.n]]
 obtain ⟨Bl, tb, t2, t3, ea, b1, b2, b3⟩ := n1.sw
 have hml := fy b1
 obtain ⟨a, ⟨H1, V1⟩, ⟨⟨F1, sa1, fa1, s1, ⟨hv, rfl, rfl⟩, p1, p2, p3⟩, sb, c1⟩, cp⟩ := ((wz (V := V) n1 n2 hs hb).and (U4 n1 hs hb b1)).call rfl
 obtain ⟨ka, rfl⟩ := hv.ptr
 obtain ⟨r, ⟨H2, V2⟩, ⟨F2, sa2, fa2, s2, ⟨rfl, hr⟩, q1, q2, q3⟩, cq⟩ := (Ej (V := V1) (x := .sl [.ptr ka 0] (.cap 1)) p1 p2 b3 (.inl ⟨_, rfl⟩) (VRs.one hv) (by simp)).call rfl
 obtain ⟨Bl2, tb2, t22, t32, ea2, d1, d2, d3⟩ := q1.sw
 have hml2 := fy d1
 obtain ⟨k1, k2, k3⟩ := q1.upd q2 (s' := { s with stack := st, now := { s.now with env := v :: s.now.env } }) ⟨Bl2, tb2, t22, t32, r, gse hml2, d2, hr⟩ (q1.st.jg λ b e => gsn (q1.d1 b e).1) (q1.fr.jg λ b e => gsn (q1.d2 b e)) (λ k _ hn => gsn λ e => hn (.inl e)) (by simp) (λ k h => .inl h) q1.d1 q1.d2
 simp only [mcs] at b1 c1 d1
 refine lf pf51_is (dg rfl) ?_
 simp only [pf51, ↓fh, wall, simprocAttr, wH, gq, fj, Ins.av, b1, c1, d1, cp, cq, a7h, mr b3, ph b3, m6 b3, mr hr, ph hr, m6 hr, Sq b3, rf]
 exact MQ.of ⟨by rw [Ms.bind, hs], by rw [Ms.bind, hs]⟩ (n3.trans (p3.trans q3)) ⟨k1, k2, k3⟩
end
end Go.Proofs.Eng
namespace Go.Proofs.Eng
open Go Go.Proofs
set_option maxRecDepth 100000
set_option maxHeartbeats 16000000
section
variable {Z : List Int} {F : Fz} {H : List fp} {V : List Nat} {m : Nat} {sa fa : AV} {c : Cd} {s : Ms} {x : Ins}
theorem a56 (hC : Ee c Z) (hc : ∀ l ∈ c.bl, l.length <= 1000000) (hst : s.stack.length <= 1000000) (hfr : s.ig.length <= 1000000) (hR : Rdy c x s) (hv : ∀ n : Nat, x.op = 0 -> x.a = (n : Nat) -> n <= 1000000) : Op (42 + x.op.toNat) x s (s.exec c x) F H V m sa fa c := by
 obtain ⟨o1, o2, o3⟩ := hR.op
 have hops : x.op = 0 \/ x.op = 1 \/ x.op = 2 \/ x.op = 3 \/ x.op = 4 \/ x.op = 5 \/ x.op = 7 \/ x.op = 8 \/ x.op = 9 \/ x.op = 10 \/ x.op = 11 \/ x.op = 12 \/ x.op = 13 \/ x.op = 14 := by omega
 rcases hops with h | h | h | h | h | h | h | h | h | h | h | h | h | h
 ·obtain ⟨n, v, ha, hn⟩ := hR.o0 h
  have e : s.exec c x = (s.push v, 0) := by rw [Ms.exec, if_pos h, ha, eu, Ms.variable, hn]
  rw [e, h]; exact Kr ha hn hst (hv n h ha)
 ·have e : s.exec c x = (s.push (.clo x.a s.now.env), 0) := by rw [Ms.exec, if_neg (by omega), if_pos h]
  rw [e, h]; exact Nn hst
 ·obtain ⟨a, f, st, hs, hcl⟩ := hR.o2 h
  have e : s.exec c x = s.apply := by rw [Ms.exec, if_neg (by omega), if_neg (by omega), if_pos h]
  rw [e, h]; exact Vu hs hst hfr hcl
 ·have e : s.exec c x = s.leave := by rw [Ms.exec, if_neg (by omega), if_neg (by omega), if_neg (by omega), if_pos h]
  rw [e, h]; exact Tw hfr
 ·obtain ⟨n, hx, hn⟩ := hR.o4 h
  have e : s.exec c x = ({ s with stack := .ctor x.a x.n (s.stack.take n).reverse :: s.stack.drop n }, 0) := by rw [Ms.exec, if_neg (by omega), if_neg (by omega), if_neg (by omega), if_neg (by omega), if_pos h, hx, eu]
  rw [e, h]; exact J0 hx hn hst
 ·obtain ⟨n, v, st, l, hx, hs, hl, hat, hk, hy⟩ := hR.o5 h
  have e : s.exec c x = s.choose c n := by rw [Ms.exec, if_neg (by omega), if_neg (by omega), if_neg (by omega), if_neg (by omega), if_neg (by omega), if_pos h, hx, eu]
  rw [e, h]; exact S5 hx hs hst hfr hl hat (by have := hc l (aq hl); omega) hk hy
 ·obtain ⟨n, b, hx, hs⟩ := hR.o7 h
  have e : s.exec c x = s.enter b [] := by
   rw [Ms.exec, if_neg (by omega), if_neg (by omega), if_neg (by omega), if_neg (by omega), if_neg (by omega), if_neg (by omega), if_pos h, hx, eu, ck, hs, Option.getD_some, eu]
  rw [e, h]; exact Qr hx hs hfr
 ·have e : s.exec c x = (s.push .box, 0) := by rw [Ms.exec, if_neg (by omega), if_neg (by omega), if_neg (by omega), if_neg (by omega), if_neg (by omega), if_neg (by omega), if_neg (by omega), if_pos h]
  rw [e, h]; exact a3k hst
 ·obtain ⟨v, st, hs⟩ := hR.o9 (.inl h)
  have e : s.exec c x = s.bind := by rw [Ms.exec, if_neg (by omega), if_neg (by omega), if_neg (by omega), if_neg (by omega), if_neg (by omega), if_neg (by omega), if_neg (by omega), if_neg (by omega), if_pos h]
  rw [e, h]; exact Ym hs hst
 ·obtain ⟨v, st, hs⟩ := hR.o10 h
  have e : s.exec c x = ({ s with now := { s.now with env := st } }, 0) := by rw [Ms.exec, if_neg (by omega), if_neg (by omega), if_neg (by omega), if_neg (by omega), if_neg (by omega), if_neg (by omega), if_neg (by omega), if_neg (by omega), if_neg (by omega), if_pos h, hs]; rfl
  rw [e, h]; exact S3 hs
 ·obtain ⟨b, a, st, hs⟩ := hR.o11 h
  have e : s.exec c x = s.pair := by rw [Ms.exec, if_neg (by omega), if_neg (by omega), if_neg (by omega), if_neg (by omega), if_neg (by omega), if_neg (by omega), if_neg (by omega), if_neg (by omega), if_neg (by omega), if_neg (by omega), if_pos h]
  rw [e, h]; exact a27 hs hst
 ·obtain ⟨v, st, hs⟩ := hR.o9 (.inr (.inl h))
  have e : s.exec c x = s.part false := by rw [Ms.exec, if_neg (by omega), if_neg (by omega), if_neg (by omega), if_neg (by omega), if_neg (by omega), if_neg (by omega), if_neg (by omega), if_neg (by omega), if_neg (by omega), if_neg (by omega), if_neg (by omega), if_pos h]
  rw [e, h]; exact Sz hs hst
 ·obtain ⟨v, st, hs⟩ := hR.o9 (.inr (.inr h))
  have e : s.exec c x = s.part true := by rw [Ms.exec, if_neg (by omega), if_neg (by omega), if_neg (by omega), if_neg (by omega), if_neg (by omega), if_neg (by omega), if_neg (by omega), if_neg (by omega), if_neg (by omega), if_neg (by omega), if_neg (by omega), if_neg (by omega), if_pos h]
  rw [e, h]; exact Qy hs hst
 ·have e : s.exec c x = (s, 30) := by rw [Ms.exec, if_neg (by omega), if_neg (by omega), if_neg (by omega), if_neg (by omega), if_neg (by omega), if_neg (by omega), if_neg (by omega), if_neg (by omega), if_neg (by omega), if_neg (by omega), if_neg (by omega), if_neg (by omega), if_neg (by omega), if_pos h]
  rw [e, h]; exact Wx
theorem Vo (hC : Ee c Z) (hsz : c.bd c.bl.length <= 400000) (hG : Good c Z s) : s.now.env.length <= 1000000 := by
 obtain ⟨k, r, ⟨t, ⟨l, h1, h2, _⟩, _, he, _, _, _, hz, _⟩, _⟩ := hG.fr
 have hlt := (List.getElem?_eq_some_iff.1 h1).1
 have h3 : Z.getD s.now.bk 0 <= c.bd c.bl.length := by
  rcases Int.lt_or_le (Z.getD s.now.bk 0) 0 with h | h
  ·have : 0 <= c.bd c.bl.length := ew _
   omega
  ·exact Int.le_trans (hC.bd _ h) (Dq c (by omega))
 have h4 : (l.length : Int) <= c.bd c.bl.length := by
  have h5 := Iz h1
  have h6 : 0 <= c.bd s.now.bk := ew _
  have h7 := Dq c (show s.now.bk + 1 <= c.bl.length by omega)
  omega
 omega
theorem O5 (hsz : c.bd c.bl.length <= 400000) {l : List Ins} (h : l ∈ c.bl) : l.length <= 400000 := by
 obtain ⟨i, hi⟩ := c7 h
 have hlt := (List.getElem?_eq_some_iff.1 hi).1
 have h5 := Iz hi
 have h6 : 0 <= c.bd i := ew _
 have h7 := Dq c (show i + 1 <= c.bl.length by omega)
 omega
theorem Oe (hC : Ee c Z) (hsz : c.bd c.bl.length <= 400000) (k : Nat) (hM : MR F H m sa fa c s) (hF : Fro F H) (hS : Safe c Z s) (hk : s.stack.length + k <= 900000) (hst : s.steps + k <= 1000000000) :
  Mw 15 [.ptr m 0, .int (k : Nat)] F H V m sa fa c λ v _ s' => s' = s.run c k /\ v = .tup [.bool (s'.halted && s'.err == 0), .int s'.err] := by
 refine lf pf15_is (dg rfl) ?_
 have hd0 : decide (((k : Nat) : Int) < 0) = false := by simp
 simp only [pf15, ↓fh, wall, simprocAttr, wH, gq, fj, hd0]
 refine iq (λ j => j) (λ j E H' V' => ∃ F' s' sa' fa', E 0 = .ptr m 0 /\ E 1 = .int (j : Nat) /\ MR F' H' m sa' fa' c s' /\ Fro F' H' /\ Nx F H (Own m sa fa) F' H' (Own m sa' fa') /\ Safe c Z s' /\ s'.run c j = s.run c k /\ s'.stack.length + j <= 900000 /\ s'.steps + j <= 1000000000) ?_ k
  ⟨F, s, sa, fa, rfl, rfl, hM, hF, .refl _ _ _, hS, rfl, hk, hst⟩
 rintro j E H' V' ⟨F', s', sa', fa', e0, e1, hM', hF', hN, hS', hr, hk', hst'⟩
 obtain ⟨Bl, tb, t2, t3, ea, b1, b2, b3⟩ := hM'.sw
 have hml := fy b1
 have b1' := b1
 simp only [mcs] at b1
 have done : ∀ {v : AV}, s' = s.run c k -> v = .tup [.bool (s'.halted && s'.err == 0), .int s'.err] -> MQ F H m sa fa c (λ v _ s' => s' = s.run c k /\ v = .tup [.bool (s'.halted && s'.err == 0), .int s'.err]) v ⟨H', V'⟩ := λ e ev => ⟨F', sa', fa', s', ⟨e, ev⟩, hM', hF', hN⟩
 cases hd : decide (((j : Nat) : Int) > 0)
 ·have h0 : j = 0 := by simp at hd; omega
  subst h0
  have hr' : s' = s.run c k := by rw [<- hr, Ms.run]
  cases hh : s'.halted <;> cases he : (s'.err == 0)
  all_goals
   rw [hh] at b1
   simp only [↓fh, wall, simprocAttr, wH, e0, e1, hd, gq, fj, b1, he]
   exact done hr' (by rw [hh, he]; rfl)
 have hj : 0 < j := by simp at hd; omega
 cases hg : s'.go
 ·have hr' : s' = s.run c k := by rw [<- hr, Kz hg]
  cases hh : s'.halted
  ·have he : (s'.err == 0) = false := by rw [Ms.go, hh] at hg; simpa using hg
   rw [hh] at b1
   simp only [↓fh, wall, simprocAttr, wH, e0, e1, hd, gq, fj, b1, he]
   exact done hr' (by rw [hh, he]; rfl)
  ·cases he : (s'.err == 0)
   all_goals
    rw [hh] at b1
    simp only [↓fh, wall, simprocAttr, wH, e0, e1, hd, gq, fj, b1, he]
    exact done hr' (by rw [hh, he]; rfl)
 have hh : s'.halted = false := by rw [Ms.go] at hg; simp at hg; exact hg.1
 have he : (s'.err == 0) = true := by rw [Ms.go] at hg; simp at hg; simp [hg.2]
 obtain ⟨l, x, x1, x2, x3, hR, hst1, hS1, st1, st2, st3⟩ := Pl hC (hS'.A2 hg) (by omega)
 have hll := O5 hsz (aq x1)
 obtain ⟨_, ab, bl1, _, _, bl2, ⟨tl, rfl⟩⟩ := b2.at (i := s'.now.bk) (by rw [b2.len]; exact (List.getElem?_eq_some_iff.1 x1).1)
 rw [x1] at bl1; cases bl1
 have hBa : (Bl.all λ x => x.cells.length == 1) = true := aw.2 λ y hy => by
  obtain ⟨q, hq⟩ := List.mem_iff_getElem?.1 hy
  obtain ⟨b, a, _, _, _, e4, ⟨t, rfl⟩⟩ := b2.at (i := q) (List.getElem?_eq_some_iff.1 hq).1
  rw [hq] at e4; cases e4; rfl
 have hxl := (List.getElem?_eq_some_iff.1 x2).1
 have hxa := Je x2
 have hi1 : ((s'.now.at' : Nat) : Int) < ((jk l).length : Nat) := by rw [jc]; omega
 have h4 := Cj l
 have hgx := λ G : List fp => (gal (G := G) hml).trans b1'
 simp only [mcs] at hgx
 rw [hh] at b1 hgx
 simp only [Ins.av] at hxa
 obtain ⟨X, hX⟩ : ∃ X, X = fp.cells false [.int x.op, .int x.a, .int x.b, .str x.n] := ⟨_, rfl⟩
 obtain ⟨n1, n2, n3⟩ := hM'.more hF' [X]
 have hml2 : m < (H' ++ [X]).length := by simp; omega
 have hw1 : IntKind.i64.wrap ((s'.now.at' : Int) + 1) = ((s'.now.at' + 1 : Nat) : Int) := (jd (by unfold mg; omega)).trans (by omega)
 have hw2 : IntKind.i64.wrap ((s'.steps : Int) + 1) = ((s'.steps + 1 : Nat) : Int) := (jd (by unfold mg; omega)).trans (by omega)
 have hw3 : IntKind.i64.wrap ((j : Int) - 1) = ((j - 1 : Nat) : Int) := (jd (by unfold mg; omega)).trans (by omega)
 obtain ⟨k1, k2, k3⟩ := n1.upd n2 (s' := s'.adv) ⟨Bl, tb, t2, t3, ea, gse hml2, b2, b3⟩ (n1.st.jg λ b e => gsn (n1.d1 b e).1) (n1.fr.jg λ b e => gsn (n1.d2 b e)) (λ k _ hn => gsn λ e => hn (.inl e)) (by simp) (λ k h => .inl h) n1.d1 n1.d2
 have jw : s'.ig.length <= 1000000 := by have := (hS'.A2 hg).cap; omega
 have henv := Vo hC hsz (hS'.A2 hg)
 have hop := a56 (V := V') hC (λ l hl => by have := O5 hsz hl; omega) (s := s'.adv) (by show s'.stack.length <= _; omega) jw hR (λ n ho hn => by
  obtain ⟨n', v, h1, h2⟩ := hR.o0 ho
  have h3 := (List.getElem?_eq_some_iff.1 h2).1
  have h4 : s'.adv.now.env.length = s'.now.env.length := rfl
  omega) k1 k2
 obtain ⟨R, hRe⟩ : ∃ R, R = s'.adv.exec c x := ⟨_, rfl⟩
 rw [<- hRe] at hop hst1
 obtain ⟨o1, o2, o3⟩ := hR.op
 have hmd : md (42 + x.op.toNat) = .raw := by
  have hops : x.op = 0 \/ x.op = 1 \/ x.op = 2 \/ x.op = 3 \/ x.op = 4 \/ x.op = 5 \/ x.op = 7 \/ x.op = 8 \/ x.op = 9 \/ x.op = 10 \/ x.op = 11 \/ x.op = 12 \/ x.op = 13 \/ x.op = 14 := by omega
  rcases hops with h | h | h | h | h | h | h | h | h | h | h | h | h | h <;> rw [h] <;> rfl
 have hlk : ((mcs Bl tb t2 t3 c (s'.now.bk : Nat) ((s'.now.at' + 1 : Nat) : Int) ea sa' fa' ((s'.steps + 1 : Nat) : Int) false s'.err m).drop (11 + x.op.toNat * 1)).head? = some (.bm (42 + x.op.toNat) [.ptr m 0]) := by
  have hops : x.op = 0 \/ x.op = 1 \/ x.op = 2 \/ x.op = 3 \/ x.op = 4 \/ x.op = 5 \/ x.op = 7 \/ x.op = 8 \/ x.op = 9 \/ x.op = 10 \/ x.op = 11 \/ x.op = 12 \/ x.op = 13 \/ x.op = 14 := by omega
  rcases hops with h | h | h | h | h | h | h | h | h | h | h | h | h | h <;> rw [h] <;> rfl
 obtain ⟨r, ⟨H3, V3⟩, ⟨F3, sa3, fa3, s3, ⟨hs3, rfl⟩, p1, p2, p3⟩, cp⟩ := hop.call hmd
 obtain ⟨Bl3, tb3, t23, t33, ea3, c1, c2, c3⟩ := p1.sw
 have hml3 := fy c1
 have hxm : H'.length ≠ m := by omega
 have gx := λ (L : List fp) (y : fp) => gsn (H := L) (x := y) hxm
 have hxg : (H' ++ [X])[H'.length]? = some X := gae
 have ho : 0 <= x.op /\ x.op < 15 := by omega
 simp only [mcs] at hlk c1
 subst hX
 simp only [mcs, Ms.adv, hh, Ins.av] at cp
 simp only [↓fh, wall, simprocAttr, wH, e0, e1, hd, gq, fj, b1, he, bl2, hBa, hi1, h4, hxa, hgx, hw1, hw2, hw3, gse hml2, List.set_set, gx, hxg, ho, hlk, cp, c1]
 obtain ⟨w1, w2, w3⟩ := p1.upd p2 (s' := { s3 with err := R.2 }) ⟨Bl3, tb3, t23, t33, ea3, gse hml3, c2, c3⟩ (p1.st.jg λ b e => gsn (p1.d1 b e).1) (p1.fr.jg λ b e => gsn (p1.d2 b e)) (λ k _ hn => gsn λ e => hn (.inl e)) (by simp) (λ k h => .inl h) p1.d1 p1.d2
 have hs4 : { s3 with err := R.2 } = s'.step c := by rw [hst1, hs3]
 refine j6 ⟨j - 1, by omega, F3, s'.step c, sa3, fa3, e0, rfl, by rw [<- hs4]; exact w1, w2, hN.trans (n3.trans (k3.trans (p3.trans w3))), hS1, ?_, by omega, by omega⟩
 rw [<- hr]
 obtain ⟨j', rfl⟩ : ∃ j', j = j' + 1 := ⟨j - 1, by omega⟩
 rw [Nat.add_sub_cancel, Ms.run, if_pos hg]
end
end Go.Proofs.Eng
namespace Go.Proofs.Eng
open Go Go.Proofs
set_option maxRecDepth 100000
set_option maxHeartbeats 16000000
theorem Q6 (k i : Int) (n : ByteArray) (s : List Int) (t1 t2 : Tl) (kas : List AV) (j : Nat) (hj : j <= j7) (hs : s.length <= j7) : Out md pfs 143 [.agg [.int k, .int i, .str n, .sl (ints s) t1, .sl kas t2], .int j] (· = .int (under k s j)) λ _ => False := by
 refine iu pf143_is (dg rfl) ?_
 cases h1 : (k == 1)
 ·cases h7 : (k == 7)
  ·cases h4 : (k == 4)
   ·simp only [pf143, ↓fh, wall, simprocAttr, h1, h7, h4]
    simp at h1 h7 h4
    simp [under, h1, h7, h4]
   ·cases hj1 : decide ((j : Int) > 0)
    ·simp only [pf143, ↓fh, wall, simprocAttr, h1, h7, h4, hj1]
     simp at h1 h7 hj1
     simp [under, h1, h7, show ¬ 1 <= j by omega]
    ·cases hj2 : decide ((j : Int) <= ((ints s).length : Int))
     ·simp only [pf143, ↓fh, wall, simprocAttr, h1, h7, h4, hj1, hj2]
      simp [gr] at h1 h7 hj1 hj2
      simp [under, h1, h7, show ¬ j <= s.length by omega]
     ·have hw : IntKind.i64.wrap ((j : Int) - 1) = ((j - 1 : Nat) : Int) := by
       simp at hj1
       rw [jd (by unfold mg; unfold j7 at hj; omega)]; omega
      simp [gr] at hj1 hj2
      obtain ⟨x, g1, g2, g3⟩ := vg (l := s) (i := j - 1) (by omega)
      have hj1' : decide ((j : Int) > 0) = true := by simp; omega
      have hj2' : decide ((j : Int) <= ((ints s).length : Int)) = true := by simp [gr]; omega
      simp only [pf143, ↓fh, wall, simprocAttr, h1, h7, h4, hj1', hj2', hw, g3, ks, ew]
      simp at h1 h7 h4
      have : s.getD (j - 1) 0 = x := by simp [List.getD, g1]
      simp only [under, h1, h7, h4, this, hj1, hj2]
      simp [show 1 <= j by omega]
  ·cases hj1 : ((j : Int) == 1)
   ·simp at h7
    subst h7
    simp only [pf143, ↓fh, wall, simprocAttr, h1, hj1]
    simp at hj1
    simp [under, show ¬ j = 1 by omega]
   ·simp only [pf143, ↓fh, wall, simprocAttr, h1, h7, hj1]
    simp at h7 hj1
    simp [under, h7, show j = 1 by omega]
 ·simp only [pf143, ↓fh, wall, simprocAttr, h1]
  simp at h1
  simp [under, h1]
theorem Cv (e : Ex) : ∀ {a}, e.Is a -> Out md pfs 63 [a] (· = .int e.size) λ _ => False := by
 induction e using Ex.ind with
 | h k i n s kids ih =>
 intro a h
 obtain ⟨t1, t2, kas, rfl, h1, h2, h3, h4, h5, h6⟩ := h.opn
 refine iu pf63_is (dg rfl) ?_
 simp only [pf63, ↓fh, wall, simprocAttr]
 refine iq (λ j => kas.length - j) (λ j E H T => ∃ acc, H = [.cells false [.int k, .int i, .str n, .sl (ints s) t1, .sl kas t2]] /\ E 1 = .ptr 0 0 /\ E 4 = .int j /\ E 3 = .int acc /\ j <= kas.length /\ Ex.xp acc (kids.drop j) = Ex.xp 1 kids) ?_ 0 ⟨1, rfl, rfl, rfl, rfl, dj _, rfl⟩
 rintro j E H T ⟨acc, rfl, e1, e4, e3, hj, hn⟩
 rcases di j kas.length with hlt | hge
 ·obtain ⟨x, c, d0, d1, d3, d4, d5, d6, d7, d8⟩ := h6.get k9 hlt
  have hdec : decide ((j : Int) < kas.length) = true := by simpa using hlt
  have hall := h6.all k9
  obtain ⟨v, rfl, hc⟩ := (ih x d3 d8).call rfl (by simp [ft, gg, lu _ d8])
  rw [d1, Ex.xp] at hn
  simp only [↓fh, wall, simprocAttr, e3, e1, e4, hdec, d4, d5, d6, d7, hall, hc]
  exact j6 ⟨j + 1, by omega, _, rfl, e1, gw (by omega), rfl, by omega, hn⟩
 ·have hdec : decide ((j : Int) < kas.length) = false := by simpa using hge
  simp only [↓fh, wall, simprocAttr, e3, e1, e4, hdec]
  rw [bt (by rw [<- h6.len]; omega)] at hn
  simp only [Ex.size, <- hn]; rfl
theorem Sv (e : Ex) : ∀ {a}, e.Is a -> Out md pfs 108 [a] (· = .int e.deep) λ _ => False := by
 induction e using Ex.ind with
 | h k i n s kids ih =>
 intro a h
 obtain ⟨t1, t2, kas, rfl, h1, h2, h3, h4, h5, h6⟩ := h.opn
 refine iu pf108_is (dg rfl) ?_
 simp only [pf108, ↓fh, wall, simprocAttr]
 refine iq (λ j => kas.length - j) (λ j E H T => ∃ acc, H = [.cells false [.int k, .int i, .str n, .sl (ints s) t1, .sl kas t2]] /\ E 1 = .ptr 0 0 /\ E 4 = .int j /\ E 3 = .int acc /\ j <= kas.length /\ Ex.Bv acc (kids.drop j) = Ex.Bv 0 kids) ?_ 0 ⟨0, rfl, rfl, rfl, rfl, dj _, rfl⟩
 rintro j E H T ⟨acc, rfl, e1, e4, e3, hj, hn⟩
 rcases di j kas.length with hlt | hge
 ·obtain ⟨x, c, d0, d1, d3, d4, d5, d6, d7, d8⟩ := h6.get k9 hlt
  have hdec : decide ((j : Int) < kas.length) = true := by simpa using hlt
  have hall := h6.all k9
  obtain ⟨v, rfl, hc⟩ := (ih x d3 d8).call rfl (by simp [ft, gg, lu _ d8])
  rw [d1, Ex.Bv] at hn
  simp only [↓fh, wall, simprocAttr, e3, e1, e4, hdec, d4, d5, d6, d7, hall, hc]
  exact j6 ⟨j + 1, by omega, _, rfl, e1, gw (by omega), rfl, by omega, hn⟩
 ·have hdec : decide ((j : Int) < kas.length) = false := by simpa using hge
  simp only [↓fh, wall, simprocAttr, e3, e1, e4, hdec]
  rw [bt (by rw [<- h6.len]; omega)] at hn
  simp only [Ex.deep, <- hn]; rfl
theorem Q7 {k i : Int} {n : ByteArray} {s : List Int} {t1 t2 : Tl} {kas : List AV} (hs : s.length <= j7) : Out md pfs 170 [.agg [.int k, .int i, .str n, .sl (ints s) t1, .sl kas t2]] (λ v => ∃ lo hi ok, v = .tup [.int lo, .int hi, .bool ok] /\ ok = (decide (0 <= k) && decide (k < 12)) /\ (ok = true -> (k = 3 /\ lo = 0 /\ hi = 4096) \/ (k = 4 /\ lo = w64 (s.length + 1) /\ hi = w64 (s.length + 1)) \/ (k ≠ 3 /\ k ≠ 4 /\ lo = kn k /\ hi = kn k))) λ _ => False := by
 refine iu pf170_is (dg rfl) ?_
 have hw : IntKind.i64.wrap (((ints s).length : Int) + 1) = w64 (s.length + 1) := by rw [gr]
 by_cases hk : 0 <= k /\ k < 12
 ·have : k = 0 \/ k = 1 \/ k = 2 \/ k = 3 \/ k = 4 \/ k = 5 \/ k = 6 \/ k = 7 \/ k = 8 \/ k = 9 \/ k = 10 \/ k = 11 := by omega
  rcases this with rfl | rfl | rfl | rfl | rfl | rfl | rfl | rfl | rfl | rfl | rfl | rfl
  all_goals
   simp only [pf170, ↓fh, wall, simprocAttr, hw]
   refine ⟨_, _, _, rfl, by decide, λ _ => ?_⟩
   simp [kn]
 ·have h0 : (k == 0) = false := by simp; omega
  have h1 : (k == 1) = false := by simp; omega
  have h2 : (k == 2) = false := by simp; omega
  have h3 : (k == 3) = false := by simp; omega
  have h4 : (k == 4) = false := by simp; omega
  have h5 : (k == 5) = false := by simp; omega
  have h6 : (k == 6) = false := by simp; omega
  have h7 : (k == 7) = false := by simp; omega
  have h8 : (k == 8) = false := by simp; omega
  have h9 : (k == 9) = false := by simp; omega
  have h10 : (k == 10) = false := by simp; omega
  have h11 : (k == 11) = false := by simp; omega
  simp only [pf170, ↓fh, wall, simprocAttr, h0, h1, h2, h3, h4, h5, h6, h7, h8, h9, h10, h11]
  refine ⟨_, _, _, rfl, ?_, λ h => by cases h⟩
  symm; simp; omega
theorem K6 {e : Ex} {a : AV} (h : e.Is a) : Out md pfs 142 [a] (· = .bool e.fm) λ _ => False := by
 obtain ⟨k, i, n, s, kids⟩ := e
 obtain ⟨t1, t2, kas, rfl, h1, h2, h3, h4, h5, h6⟩ := h.opn
 refine iu pf142_is (dg rfl) ?_
 have hlen := h6.len
 have ez : fmB k i n s kids.length = (Ex.mk k i n s kids).fm := rfl
 rw [<- hlen] at ez
 obtain ⟨v, ⟨lo, hi, ok, rfl, hok, hlh⟩, cs⟩ := (Q7 (k := k) (i := i) (n := n) (t1 := t1) (t2 := t2) (kas := kas) h4).call rfl (by simp [ft, gg, lu _ h])
 cases ok
 ·simp only [pf142, ↓fh, wall, simprocAttr, cs]
  rw [<- ez]
  refine sm ?_
  simp only [fmB]
  rw [<- hok]; rfl
 have hF := a3j (i := i) (n := n) (l := kas.length) hok (hlh rfl)
 rw [hF] at ez
 clear hF hlh hok
 cases c1 : decide ((kas.length : Int) < lo)
 ·cases c2 : decide ((kas.length : Int) > hi)
  ·cases c3 : decide ((s.length : Int) > 32)
   ·simp only [pf142, ↓fh, wall, simprocAttr, cs, c1, c2, c3, gr]
    rw [c1, c2, c3] at ez
    simp only [dz, Bool.true_and] at ez
    refine iq (λ j => s.length - j) (λ j E H T => H = [.cells false [.int k, .int i, .str n, .sl (ints s) t1, .sl kas t2]] /\ E 1 = .ptr 0 0 /\ E 6 = .int j /\ j <= s.length /\ (s.take j).any nz = false) ?_ 0 ⟨rfl, rfl, rfl, dj _, rfl⟩
    rintro j E H T ⟨rfl, e1, e6, hj, hn⟩
    rcases di j s.length with hlt | hge
    ·obtain ⟨x, d0, d1, d2⟩ := vg hlt
     have hdec : decide ((j : Int) < s.length) = true := by simpa using hlt
     cases b1 : decide (x < 0)
     ·cases b2 : decide (x > 64)
      ·simp only [↓fh, wall, simprocAttr, e1, e6, hdec, gr, ks, d2, b1, b2]
       exact j6 ⟨j + 1, by omega, rfl, e1, gw (by omega), by omega, by rw [bj, d0]; simp only [List.any_append, hn, Option.toList_some, List.any_cons, List.any_nil, nz, b1, b2]; rfl⟩
      ·simp only [↓fh, wall, simprocAttr, e1, e6, hdec, gr, ks, d2, b1, b2]
       have : s.any nz = true := c9.2 ⟨x, aq d0, by simp only [nz, b1, b2]; rfl⟩
       rw [<- ez, this]; rfl
     ·simp only [↓fh, wall, simprocAttr, e1, e6, hdec, gr, ks, d2, b1]
      have : s.any nz = true := c9.2 ⟨x, aq d0, by simp only [nz, b1]; rfl⟩
      rw [<- ez, this]; rfl
    ·have hdec : decide ((j : Int) < s.length) = false := by simpa using hge
     rw [au hge] at hn
     rw [hn] at ez
     simp only [dz, Bool.true_and] at ez
     by_cases k3 : k = 3
     ·subst k3
      cases s0 : decide ((s.length : Int) > 0) <;> cases hi : decide (i < 0) <;> cases i32 : decide (i < 32)
      all_goals
       simp only [↓fh, wall, simprocAttr, e1, e6, hdec, gr, s0, hi, i32]
       rw [<- ez, s0, hi, i32]
       simp
     ·have x3 : (k == 3) = false := by simpa using k3
      rw [if_neg k3, x3] at ez
      by_cases k5 : k = 5
      ·subst k5
       cases s0 : decide ((s.length : Int) > 0) <;> cases hi : decide (i < 0) <;> cases xi : (i == 0)
       all_goals
        simp only [↓fh, wall, simprocAttr, e1, e6, hdec, gr, s0, hi, xi]
        rw [<- ez, s0, hi, xi]
        simp
      ·have x5 : (k == 5) = false := by simpa using k5
       rw [x5] at ez
       cases hn0 : (n.size == 0)
       ·simp only [↓fh, wall, simprocAttr, e1, e6, hdec, gr, x3, x5, hn0]
        rw [<- ez, hn0]; rfl
       ·rw [hn0] at ez
        cases x4 : (k != 4)
        ·have x0 : (k == 0) = false := by simp at x4 ⊢; omega
         cases hi : decide (i < 0) <;> cases xi : (i == 0)
         all_goals
          simp only [↓fh, wall, simprocAttr, e1, e6, hdec, gr, x3, x5, x4, hn0, x0, hi, xi]
          rw [<- ez, x4, hi, xi, x0]
          simp
        ·cases s0 : decide ((s.length : Int) > 0) <;> cases hi : decide (i < 0) <;> cases xi : (i == 0) <;> cases x0 : (k == 0)
         all_goals
          simp only [↓fh, wall, simprocAttr, e1, e6, hdec, gr, x3, x5, x4, hn0, x0, s0, hi, xi]
          rw [<- ez, x4, hi, xi, x0, s0]
          simp
   ·simp only [pf142, ↓fh, wall, simprocAttr, cs, c1, c2, c3, gr]
    rw [<- ez, c1, c2, c3]; rfl
  ·simp only [pf142, ↓fh, wall, simprocAttr, cs, c1, c2]
   rw [<- ez, c1, c2]; rfl
 ·simp only [pf142, ↓fh, wall, simprocAttr, cs, c1]
  rw [<- ez, c1]; rfl
theorem N3 {p : Pr} {a : AV} (h : p.Is a) (n : ByteArray) : Out md pfs 116 [a, .str n] (λ v => (∃ e a, uj p.gs n = some e /\ v = .tup [a, .bool true] /\ e.Is a) \/ (uj p.gs n = none /\ v = .tup [X4, .bool false])) λ _ => False := by
 have hp := vv h
 obtain ⟨gas, tg, c, rfl, h1, h2, h3, h4, h5, h6, h7, h8, h9, h10⟩ := h
 refine iu pf116_is (dg rfl) ?_
 simp only [pf116, ↓fh, wall, simprocAttr, h5]
 refine iq (λ j => gas.length - j) (λ j E H T => H = [.cells false (.sl gas tg :: c), .cells false [.int 0, .int 0, .str ⟨#[]⟩, .sl [] .nil, .sl [] .nil]] /\ E 1 = .str n /\ E 2 = .ptr 0 0 /\ E 4 = .ptr 1 0 /\ E 6 = .int j /\ j <= gas.length /\ uj (p.gs.drop j) n = uj p.gs n) ?_ 0 ⟨rfl, rfl, rfl, rfl, rfl, dj _, rfl⟩
 rintro j E H T ⟨rfl, e1, e2, e4, e6, hj, hn⟩
 rcases di j gas.length with hlt | hge
 ·obtain ⟨g, c', d0, d1, d3, d4, ⟨c2, e, hns, hg⟩⟩ := h3.at hlt
  subst e
  obtain ⟨c3, e, b1, b2⟩ := k9.cells hg
  cases e
  have b3 : c2.take 5 = c2 := au (by omega)
  have hdec : decide ((j : Int) < gas.length) = true := by simpa using hlt
  rw [d1, uj] at hn
  cases hx : decide (g.1 = n)
  ·simp only [↓fh, wall, simprocAttr, e1, e2, e4, e6, hdec, d4, h10, og, hx, b1, b2, b3]
   rw [if_neg (by simpa using hx)] at hn
   exact j6 ⟨j + 1, by omega, rfl, e1, e2, e4, gw (by omega), by omega, hn⟩
  ·simp only [↓fh, wall, simprocAttr, e1, e2, e4, e6, hdec, d4, h10, og, hx, b1, b2, b3, lu _ hg]
   rw [if_pos (by simpa using hx)] at hn
   exact .inl ⟨_, _, hn.symm, rfl, hg⟩
 ·have hdec : decide ((j : Int) < gas.length) = false := by simpa using hge
  rw [bt (by rw [<- h3.len]; omega)] at hn
  simp only [↓fh, wall, simprocAttr, e1, e2, e4, e6, hdec]
  exact .inr ⟨hn.symm, rfl⟩
theorem Ns {p : Pr} {pa : AV} (hp : p.Is pa) (e : Ex) : ∀ {a v}, e.Is a -> Out md pfs 107 [pa, a, .int v] (· = .int (e.err p.gl v)) λ _ => False := by
 obtain ⟨gas, tg, c, rfl, h1, h2, h3, h4, h5, h6, h7, h8, h9, h10⟩ := id hp
 induction e using Ex.ind with
 | h k i n s kids ih =>
 intro a v h
 obtain ⟨t1, t2, kas, rfl, g1, g2, g3, g4, g5, g6⟩ := h.opn
 refine iu pf107_is (dg rfl) ?_
 obtain ⟨_, rfl, cf⟩ := (K6 h).call rfl (by simp [ft, gg, lu _ h])
 obtain ⟨_, rfl, cn⟩ := (De n g3.2).call rfl (by simp [ft, gg, ku])
 obtain ⟨w, hw, cg⟩ := (N3 hp n).call rfl (by simp [ft, gg, ku, vv hp])
 have hw' : ∃ cg5, w = .tup [.agg cg5, .bool (p.gl n)] /\ cg5.length = 5 /\ cg5.all gv = true := by
  rcases hw with ⟨e, a, q1, rfl, q2⟩ | ⟨q1, rfl⟩
  ·obtain ⟨c5, rfl, l1, l2⟩ := k9.cells q2
   exact ⟨c5, by simp [Pr.gl, q1], l1, l2⟩
  ·exact ⟨[.int 0, .int 0, .str ⟨#[]⟩, .sl [] .nil, .sl [] .nil], by simp [Pr.gl, q1, X4], rfl, rfl⟩
 obtain ⟨cg5, rfl, w1, w2⟩ := hw'
 simp only [Ex.err]
 rw [show fmB k i n s kids.length = Ex.fm (.mk k i n s kids) from rfl]
 cases hf : (Ex.fm (.mk k i n s kids))
 ·simp only [pf107, ↓fh, wall, simprocAttr, h5, h6, h7, cf, hf]
 ·rw [if_neg (by decide)]
  have hnb : qi k = (k == 3 || k == 5) := rfl
  obtain ⟨gb, hgb⟩ : ∃ b, p.gl n = b := ⟨_, rfl⟩
  obtain ⟨nm, hnm⟩ : ∃ b, isName n = b := ⟨_, rfl⟩
  obtain ⟨iv, hiv⟩ : ∃ b, decide (i >= v) = b := ⟨_, rfl⟩
  rw [hnm, hgb, hiv]
  rw [hgb] at cg
  rw [hnm] at cn
  by_cases hN : qi k = true /\ nm = false
  ·rw [if_pos hN]
   obtain ⟨hN, rfl⟩ := hN
   cases x3 : (k == 3) <;> cases x5 : (k == 5)
   ·rw [hnb, x3, x5] at hN; cases hN
   all_goals simp only [pf107, ↓fh, wall, simprocAttr, h5, h6, h7, cf, hf, cn, x3, x5]
  rw [if_neg hN]
  by_cases hS : k = 0 /\ iv = true
  ·rw [if_pos hS]
   obtain ⟨rfl, rfl⟩ := hS
   simp only [pf107, ↓fh, wall, simprocAttr, h5, h6, h7, cf, hf, cn, hiv]
  rw [if_neg hS]
  by_cases hG : k = 5 /\ gb = false
  ·rw [if_pos hG]
   obtain ⟨rfl, rfl⟩ := hG
   have : nm = true := by cases nm; exact absurd ⟨rfl, rfl⟩ hN; rfl
   subst this
   simp only [pf107, ↓fh, wall, simprocAttr, h5, h6, h7, cf, hf, cn, cg, w1, w2]
  rw [if_neg hG]
  have key : ∀ x3 x5 x0 : Bool, (k == 3) = x3 -> (k == 5) = x5 -> (k == 0) = x0 -> ((x3 = true \/ x5 = true) -> nm = true) -> (x0 = true -> iv = false) -> (x5 = true -> gb = true) -> W (run md pfs) md pf107.body ⟨tmE pf107.nt (tw [.agg (.sl gas tg :: c), .agg [.int k, .int i, .str n, .sl (ints s) t1, .sl kas t2], .int v]), [], ⟨[], []⟩⟩ (RQ pf107.res (· = .int (zn p.gl k s v 0 kids)) λ _ => False) () := by
   intro x3 x5 x0 hx3 hx5 hx0 a1 a2 a3
   cases x3 <;> cases x5 <;> cases x0
   all_goals try (exfalso; simp at hx3 hx5 hx0; omega)
   all_goals first | (have b1 := a1 (.inl rfl); subst b1) | (have b1 := a1 (.inr rfl); subst b1) | skip
   all_goals try (have b2 := a2 rfl; subst b2)
   all_goals try (have b3 := a3 rfl; subst b3)
   all_goals
    simp only [pf107, ↓fh, wall, simprocAttr, h5, h6, h7, cf, hf, cn, cg, w1, w2, hx3, hx5, hx0, hiv]
    refine iq (λ j => kas.length - j) (λ j E H T => ∃ x, H = [.cells false (.sl gas tg :: c), .cells false [.int k, .int i, .str n, .sl (ints s) t1, .sl kas t2], x] /\ E 2 = .int v /\ E 3 = .ptr 0 0 /\ E 4 = .ptr 1 0 /\ E 9 = .int j /\ j <= kas.length /\ zn p.gl k s v j (kids.drop j) = zn p.gl k s v 0 kids) ?_ 0 ⟨_, rfl, rfl, rfl, rfl, rfl, dj _, rfl⟩
    rintro j E H T ⟨x, rfl, e2, e3, e4, e9, hj, hn⟩
    rcases di j kas.length with hlt | hge
    ·obtain ⟨y, c2, d0, d1, d3, d4, d5, d6, d7, d8⟩ := g6.get k9 hlt
     have hdec : decide ((j : Int) < kas.length) = true := by simpa using hlt
     have hall := g6.all k9
     obtain ⟨_, rfl, cb⟩ := (Q6 k i n s t1 t2 kas j (by omega) g4).call rfl (by simp [ft, gg, ku, lu _ h])
     obtain ⟨_, rfl, cr⟩ := (ih y d3 (v := w64 (v + under k s j)) d8).call rfl (by simp [ft, gg, ku, vv hp, lu _ d8])
     rw [d1, zn] at hn
     cases hz : (Ex.err p.gl (w64 (v + under k s j)) y != 0)
     ·simp only [↓fh, wall, simprocAttr, h5, h6, h7, e2, e3, e4, e9, hdec, d4, d5, d6, d7, hall, cb, cr, hz]
      rw [if_pos (by simpa using hz)] at hn
      exact j6 ⟨j + 1, by omega, _, rfl, e2, e3, e4, gw (by omega), by omega, hn⟩
     ·simp only [↓fh, wall, simprocAttr, h5, h6, h7, e2, e3, e4, e9, hdec, d4, d5, d6, d7, hall, cb, cr, hz]
      rw [if_neg (by simpa using hz)] at hn
      rw [<- hn]
    ·have hdec : decide ((j : Int) < kas.length) = false := by simpa using hge
     rw [bt (by rw [<- g6.len]; omega)] at hn
     simp only [↓fh, wall, simprocAttr, e2, e3, e4, e9, hdec]
     rw [<- hn]; rfl
  refine key _ _ _ rfl rfl rfl ?_ ?_ ?_
  ·intro h; cases nm
   ·exact absurd ⟨by rw [hnb]; simpa using h, rfl⟩ hN
   ·rfl
  ·intro h; cases iv
   ·rfl
   ·exact absurd ⟨by simpa using h, rfl⟩ hS
  ·intro h; cases gb
   ·exact absurd ⟨by simpa using h, rfl⟩ hG
   ·rfl
theorem Eo {p : Pr} {pa : AV} (hp : p.Is pa) {e : Ex} {a : AV} (h : e.Is a) : Out md pfs 65 [pa, a] (· = .int (e.whole p.gl)) λ _ => False := by
 obtain ⟨_, rfl, c1⟩ := (Ns hp e (v := 0) h).call rfl (by simp [ft, gg, ku, vv hp, lu _ h])
 obtain ⟨_, rfl, c2⟩ := (Cv e h).call rfl (by simp [ft, gg, ku, lu _ h])
 obtain ⟨_, rfl, c3⟩ := (Sv e h).call rfl (by simp [ft, gg, ku, lu _ h])
 obtain ⟨gas, tg, c, rfl, h1, h2, h3, h4, h5, h6, h7, h8, h9, h10⟩ := id hp
 obtain ⟨c', rfl, l1, l2⟩ := k9.cells h
 have l3 : c'.take 5 = c' := au (by omega)
 refine iu pf65_is (dg rfl) ?_
 simp only [Ex.whole]
 cases b1 : (e.err p.gl 0 != 0)
 ·cases b2 : decide (e.size > 4096)
  ·cases b3 : decide (e.deep > 200)
   all_goals simp only [pf65, ↓fh, wall, simprocAttr, h5, h6, l1, l3, c1, c2, c3, b1, b2, b3]
  ·simp only [pf65, ↓fh, wall, simprocAttr, h5, h6, l1, l3, c1, c2, c3, b1, b2]
 ·simp only [pf65, ↓fh, wall, simprocAttr, h5, h6, l1, l3, c1, c2, c3, b1]
theorem Mr {p : Pr} {pa : AV} (hp : p.Is pa) : Out md pfs 18 [pa] (· = .int p.check) λ _ => False := by
 obtain ⟨gas, tg, c, rfl, h1, h2, h3, h4, h5, h6, h7, h8, h9, h10⟩ := id hp
 refine iu pf18_is (dg rfl) ?_
 have hl := h3.len
 simp only [Pr.check]
 rw [<- hl]
 cases b0 : decide ((gas.length : Int) > 1000)
 ·simp only [pf18, ↓fh, wall, simprocAttr, h5, b0]
  refine iq (λ j => gas.length - j) (λ j E H T => H = [.cells false (.sl gas tg :: c)] /\ E 1 = .ptr 0 0 /\ E 3 = .int j /\ j <= gas.length /\ p.go (p.gs.take j) (p.gs.drop j) = p.go [] p.gs) ?_ 0 ⟨rfl, rfl, rfl, dj _, rfl⟩
  rintro j E H T ⟨rfl, e1, e3, hj, hn⟩
  rcases di j gas.length with hlt | hge
  ·obtain ⟨g, _, d0, d1, d3, d4, ⟨c2, rfl, hns, hg⟩⟩ := h3.at hlt
   obtain ⟨c3, e, b1, b2⟩ := k9.cells hg
   cases e
   have b3 : c2.take 5 = c2 := au (by omega)
   have hdec : decide ((j : Int) < gas.length) = true := by simpa using hlt
   rw [d1, Pr.go] at hn
   obtain ⟨_, rfl, cn⟩ := (De g.1 hns).call rfl (by simp [ft, gg, ku])
   obtain ⟨_, rfl, cw⟩ := (Eo hp hg).call rfl (by simp [ft, gg, ku, vv hp, lu _ hg])
   cases nm : isName g.1
   ·simp only [↓fh, wall, simprocAttr, e1, e3, hdec, d4, h10, cn, nm]
    rw [<- hn, if_pos nm]
   ·rw [if_neg (by rw [nm]; decide)] at hn
    simp only [↓fh, wall, simprocAttr, e1, e3, hdec, d4, h10, cn, nm]
    refine iq (λ m => j - m) (λ m E H T => H = [.cells false (.sl gas tg :: c)] /\ E 1 = .ptr 0 0 /\ E 3 = .int j /\ E 4 = .int m /\ m <= j /\ ((p.gs.take m).any λ x => decide (x.1 = g.1)) = false) ?_ 0 ⟨rfl, e1, e3, rfl, dj _, rfl⟩
    rintro m E H T ⟨rfl, e1, e3, e4, hm, hm2⟩
    rcases di m j with hlt2 | hge2
    ·obtain ⟨g2, _, q0, q1, q3, q4, ⟨c4, rfl, hns2, hg2⟩⟩ := h3.at (i := m) (by omega)
     have hdec2 : decide ((m : Int) < j) = true := by simpa using hlt2
     cases hx : decide (g2.1 = g.1)
     ·simp only [↓fh, wall, simprocAttr, e1, e3, e4, hdec2, d4, q4, h10, og, hx]
      exact j6 ⟨m + 1, by omega, rfl, e1, e3, gw (by omega), by omega, by rw [bj, q0]; simp [List.any_append, hm2, hx]⟩
     ·simp only [↓fh, wall, simprocAttr, e1, e3, e4, hdec2, d4, q4, h10, og, hx]
      have : ((p.gs.take j).any λ x => decide (x.1 = g.1)) = true := by
       refine c9.2 ⟨g2, ?_, hx⟩
       refine aq (i := m) ?_
       rw [List.getElem?_take_of_lt hlt2]; exact q0
      rw [<- hn, if_pos this]
    ·have hmj : m = j := by omega
     subst hmj
     have hdec2 : decide ((m : Int) < m) = false := by simp
     rw [hm2] at hn
     rw [if_neg (by decide)] at hn
     cases hz : (g.2.whole p.gl != 0)
     ·simp only [↓fh, wall, simprocAttr, h5, h6, e1, e3, e4, hdec2, d4, h10, b1, b3, cw, hz]
      rw [if_neg (by rw [hz]; decide)] at hn
      exact j6 ⟨m + 1, by omega, rfl, e1, gw (by omega), by omega, by rw [bj, d0]; exact hn⟩
     ·simp only [↓fh, wall, simprocAttr, h5, h6, e1, e3, e4, hdec2, d4, h10, b1, b3, cw, hz]
      rw [if_pos hz] at hn
      rw [<- hn]
  ·have hdec : decide ((j : Int) < gas.length) = false := by simpa using hge
   rw [bt (by rw [<- h3.len]; omega)] at hn
   obtain ⟨_, rfl, cw⟩ := (Eo hp h4).call rfl (by simp [ft, gg, ku, vv hp, lu _ h4])
   simp only [↓fh, wall, simprocAttr, h5, h6, e1, e3, hdec, cw]
   rw [<- hn]; rfl
 ·simp only [pf18, ↓fh, wall, simprocAttr, b0]
end Go.Proofs.Eng
