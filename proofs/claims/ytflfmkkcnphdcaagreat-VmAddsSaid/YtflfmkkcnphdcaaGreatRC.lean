/- The reference's Check. No conditions beyond those in the theorems. -/
import Derived.Test.YtflfmkkcnphdcaaGreatN8
import Derived.Test.YtflfmkkcnphdcaaGreatP1
set_option linter.all false
set_option linter.deprecated false
set_option linter.unnecessarySimpa false
set_option linter.unusedVariables false
set_option linter.unusedSimpArgs false
set_option linter.defProp false
namespace Go.Proofs.Eng
open Go Go.Proofs
set_option maxRecDepth 100000
set_option maxHeartbeats 16000000
section
variable {F : Fz} {H : List fp} {V : List Nat} {m : Nat} {sa fa : AV} {c : Cd} {s : Ms} {x : Ins}
theorem rb (i : Int) : lq (.int i) (.int i) = true := by simp [lq, eqV]
theorem Bj (b : ByteArray) : lq (.str b) (.str b) = true := by simp only [lq, eqV]; exact (bytes_beq _ _).2 rfl
theorem MR.a6e (hM : MR F H m sa fa c s) (hF : Fro F H) (g : fp) (l l' : List AV) : ∃ F', MR F' (H ++ [g, .cells false l, .cells false l']) m sa fa c s /\ Fro F' (H ++ [g, .cells false l, .cells false l']) /\ Nx F H (Own m sa fa) F' (H ++ [g, .cells false l, .cells false l']) (Own m sa fa) /\ F' (H.length + 1) = some l /\ F' (H.length + 2) = some l' := by
 obtain ⟨F1, h1, h2, h3, h4⟩ := hM.Fx hF g l
 obtain ⟨F2, k1, k2, k3, k4⟩ := h1.Sr h2 l'
 rw [aj] at k1 k2 k3
 exact ⟨F2, k1, k2, h3.trans k3, k3.le _ _ h4, by rw [show H.length + 2 = (H ++ [g, .cells false l]).length from by simp]; exact k4⟩
theorem MR.cut {b L k n : Nat} {Bl : List AV} {tb t2 t3 : Tl} {ea : AV} (hM : MR F H m (.bs b 0 L 1 false) fa c s) (hF : Fro F H) (hL : L = s.stack.length) (hk : k + n = L)
  (b1 : H[m]? = some (.cells false (mcs Bl tb t2 t3 c (s.now.bk : Nat) (s.now.at' : Nat) ea (.bs b 0 L 1 false) fa (s.steps : Nat) s.halted s.err m))) (b2 : LIs blX c.bl Bl) (b3 : ER F s.now.env ea) :
  MR F (H.set m (.cells false (mcs Bl tb t2 t3 c (s.now.bk : Nat) (s.now.at' : Nat) ea (.bs b 0 k 1 false) fa (s.steps : Nat) s.halted s.err m))) m (.bs b 0 k 1 false) fa c { s with stack := s.stack.drop n } /\
  Fro F (H.set m (.cells false (mcs Bl tb t2 t3 c (s.now.bk : Nat) (s.now.at' : Nat) ea (.bs b 0 k 1 false) fa (s.steps : Nat) s.halted s.err m))) /\
  Nx F H (Own m (.bs b 0 L 1 false) fa) F (H.set m (.cells false (mcs Bl tb t2 t3 c (s.now.bk : Nat) (s.now.at' : Nat) ea (.bs b 0 k 1 false) fa (s.steps : Nat) s.halted s.err m))) (Own m (.bs b 0 k 1 false) fa) := by
 have hml := fy b1
 obtain ⟨d1, d2⟩ := hM.d1 b rfl
 have hlen : (s.stack.drop n).length = k := by rw [b8]; omega
 refine hM.upd hF ⟨Bl, tb, t2, t3, ea, gse hml, b2, b3⟩ ?_ (hM.fr.jd λ k e => gsn (hM.d2 k e)) (λ k hk hn => gsn λ e => hn (.inl e)) (by simp) (λ k hk => ?_) (λ k e => ?_) hM.d2
 ·rcases hM.st with ⟨h, _⟩ | ⟨b', cs, h, h1, h2, h3⟩
  ·cases h
  cases h
  refine .inr ⟨b, cs, by show _ = AV.bs b 0 (s.stack.drop n).length 1 false; rw [hlen], (gsn d1).trans h1, by show (s.stack.drop n).length <= _; omega, ?_⟩
  show VRs F (s.stack.drop n).reverse (cs.take (s.stack.drop n).length)
  rw [<- cx n s.stack, List.reverse_append] at h3
  obtain ⟨h4, _⟩ := VRs.split h3
  rw [List.length_reverse, List.take_take] at h4
  rw [Nat.min_eq_left (by rw [cx]; omega)] at h4
  exact h4
 ·rcases hk with hk | hk | hk
  ·exact .inl (.inl hk)
  ·cases hk; exact .inl (.inr (.inl rfl))
  ·exact .inl (.inr (.inr hk))
 ·cases e; exact ⟨d1, d2⟩
theorem Gs : ∀ (n : Nat) (l : List AV), n <= l.length -> chunk 1 false n l = l.take n
 | 0, l, _ => by rw [chunk, List.take_zero]
 | n + 1, [], h => by simp at h
 | n + 1, a :: l, h => by
  rw [chunk, if_neg (by simp), List.headD_cons, List.drop_succ_cons, List.drop_zero, List.take_succ_cons, Gs n l (by simpa using h)]
theorem VRs.flat {F : Fz} : ∀ {p : List Vl} {l : List AV}, VRs F p l -> Go.Proofs.Eng.flat l = l /\ (l.all AV.one) = true /\ (l.all λ x => x.cells.length == 1 && x.cells.all gv) = true
 | [], l, h => by rw [VRs] at h; subst h; exact ⟨rfl, rfl, rfl⟩
 | v :: p, l, h => by
  rw [VRs] at h
  obtain ⟨a, l', rfl, h1, h2⟩ := h
  obtain ⟨k, rfl⟩ := h1.ptr
  obtain ⟨h3, h4, h5⟩ := VRs.flat h2
  refine ⟨by rw [l7, h3]; rfl, by rw [db, h4]; rfl, by rw [db, h5]; rfl⟩
theorem Iu {n : Nat} (hx : x.b = (n : Nat)) (hn : n <= s.stack.length) (hb : s.stack.length <= 1000000) : Op 46 x s ({ s with stack := .ctor x.a x.n (s.stack.take n).reverse :: s.stack.drop n }, 0) F H V m sa fa c := by
 intro hM hF
 obtain ⟨Bl, tb, t2, t3, ea, b1, b2, b3⟩ := hM.uc
 have hml := fy b1
 have hga := λ G : List fp => (gal (G := G) hml).trans b1
 have hgx := λ G : List fp => (show (H ++ .cells false [.int x.op, .int x.a, .int (n : Nat), .str x.n] :: G)[H.length]? = some (.cells false [.int x.op, .int x.a, .int (n : Nat), .str x.n]) from by rw [af (di _), Nat.sub_self]; rfl)
 simp only [mcs] at hga
 refine ly pf46_is (dh rfl) ?_
 rcases hM.st with ⟨rfl, hs⟩ | ⟨b, cs, rfl, h1, h2, h3⟩
 ·have h0 : n = 0 := by rw [hs] at hn; simpa using hn
  have hw : IntKind.i64.wrap (0 - ((n : Nat) : Int)) = 0 := by rw [h0]; rfl
  have hsl : r6 1 [] .nil 0 0 none = some (.sl [] .nil) := rfl
  have h00 : (0 : Int) <= 0 /\ (0 : Int) <= 0 := ⟨Int.le_refl _, Int.le_refl _⟩
  obtain ⟨F1, n1, n2, n3, n4⟩ := hM.Fx hF (.cells false [.int x.op, .int x.a, .int (n : Nat), .str x.n]) [.int 2, .int x.a, .str x.n, .v (.pointer none), .sl [] (sv (.sl [] .nil))]
  have hv : VR F1 (.ctor x.a x.n []) (.ptr (H.length + 1) 0) := by rw [VR]; exact ⟨_, _, [], rfl, n4, .inl ⟨_, rfl⟩, by rw [VRs]⟩
  obtain ⟨w1, w2, w3⟩ := n1.upd n2 (s' := s) ⟨Bl, tb, t2, t3, ea, gse (by simp; omega), b2, ER.mono n3.le _ _ b3⟩ (n1.st.jd λ b e => gsn (n1.d1 b e).1) (n1.fr.jd λ b e => gsn (n1.d2 b e)) (λ k _ hn => gsn λ e => hn (.inl e)) (by simp) (λ k h => .inl h) n1.d1 n1.d2
  obtain ⟨r, ⟨H3, V3⟩, ⟨F3, sa3, fa3, s3, ⟨rfl, rfl, rfl⟩, u1, u2, u3⟩, cu⟩ := (n9 (V := V) w1 w2 hv hb).call rfl
  simp only [mcs] at cu
  simp only [pf46, ↓fj, wall, simprocAttr, wH, gq, fq, Ins.av, hga, hgx, hx, hw, hsl, h00, Int.toNat_zero, rb, Bj, cu]
  exact MQ.of ⟨by rw [h0, List.take_zero, List.drop_zero]; rfl, rfl⟩ n3 ⟨u1, u2, w3.trans u3⟩
 ·obtain ⟨L, hL⟩ : ∃ L, L = s.stack.length := ⟨_, rfl⟩
  obtain ⟨k, hk⟩ : ∃ k, k + n = L := ⟨L - n, by omega⟩
  have hbl := fy h1
  rw [<- hL] at hga b1 h2 h3 hM
  have hw : IntKind.i64.wrap (((L : Nat) : Int) - ((n : Nat) : Int)) = (k : Nat) := (je (by unfold m7; omega)).trans (by omega)
  have hle1 : ((k : Nat) : Int) <= ((L : Nat) : Int) := by omega
  have hgb := λ G : List fp => (gal (G := G) hbl).trans h1
  have hcut2 : A7 b 0 L 1 1 false 0 k true none = some (.bs b 0 k 1 false) := by simp [A7]; omega
  have hvs : VRs F (s.stack.take n).reverse ((cs.drop k).take n) := by
   rw [<- cx n s.stack, List.reverse_append] at h3
   obtain ⟨_, h4⟩ := VRs.split h3
   rw [List.length_reverse, b8, List.drop_take, show L - (s.stack.length - n) = n from by omega, show s.stack.length - n = k from by omega] at h4
   exact h4
  by_cases h0 : n = 0
  ·obtain ⟨y, hcut, hel⟩ : ∃ y, A7 b 0 L 1 1 false k L false none = some y /\ ∀ G : List fp, kq ⟨H ++ G, V⟩ y = some [] := by
    simp only [A7]
    rw [if_pos ⟨by omega, di _, trivial⟩]
    split
    ·refine ⟨_, rfl, λ G => ?_⟩
     rw [show L - k = 0 from by omega]
     simp only [kq, hgb]
     rw [if_pos ⟨by omega, by simp⟩, chunk]
    ·exact ⟨_, rfl, λ G => rfl⟩
   obtain ⟨F1, n1, n2, n3, n4⟩ := hM.Fx hF (.cells false [.int x.op, .int x.a, .int (n : Nat), .str x.n]) [.int 2, .int x.a, .str x.n, .v (.pointer none), .sl [] (sv y)]
   have hv : VR F1 (.ctor x.a x.n (s.stack.take n).reverse) (.ptr (H.length + 1) 0) := by rw [h0, VR]; exact ⟨_, _, [], rfl, n4, .inl ⟨_, rfl⟩, by rw [List.take_zero, List.reverse_nil, VRs]⟩
   obtain ⟨w1, w2, w3⟩ := n1.cut n2 hL hk ((gal hml).trans b1) b2 (ER.mono n3.le _ _ b3)
   obtain ⟨r, ⟨H3, V3⟩, ⟨F3, sa3, fa3, s3, ⟨rfl, rfl, rfl⟩, u1, u2, u3⟩, cu⟩ := (n9 (V := V) w1 w2 hv (by show (s.stack.drop n).length <= _; rw [b8]; omega)).call rfl
   simp only [mcs] at cu
   simp only [pf46, ↓fj, wall, simprocAttr, wH, gq, fq, Ins.av, hga, hgx, hgb, hx, hw, hle1, Int.le_refl, Option.map_none, hcut, hcut2, ew, rb, Bj, hel, Lv, cu]
   exact MQ.of ⟨rfl, rfl⟩ n3 ⟨u1, u2, w3.trans u3⟩
  ·have hcut : A7 b 0 L 1 1 false k L false none = some (.bs b (k * 1) n 1 false) := by
    simp only [A7]; rw [if_pos ⟨by omega, di _, trivial⟩, if_pos (.inl (by omega))]
    simp; omega
   obtain ⟨f1, f2, f3⟩ := hvs.flat
   obtain ⟨l, hl⟩ : ∃ l, l = (cs.drop k).take n := ⟨_, rfl⟩
   rw [<- hl] at hvs f1 f2 f3
   have hll : l.length = n := by rw [hl, b7, b8]; omega
   have hel := λ G : List fp => (show kq ⟨H ++ G, V⟩ (.bs b (k * 1) n 1 false) = some l from by
    simp only [kq, hgb, Nat.mul_one]
    rw [if_pos ⟨by omega, by rw [<- hl, f2]; rfl⟩, Gs _ _ (by rw [b8]; omega), <- hl])
   have hcl := λ (s : ASt) (a : AV) => Yf (s := s) (es := 1) (ag := false) (a := a) (l := l) (λ e => h0 (by rw [<- hll, e]; rfl)) (by rw [hll]; omega) f3
   obtain ⟨F1, n1, n2, n3, n4, n5⟩ := hM.a6e hF (.cells false [.int x.op, .int x.a, .int (n : Nat), .str x.n]) l [.int 2, .int x.a, .str x.n, .v (.pointer none), .bs (H.length + 1) 0 l.length 1 false]
   have hv : VR F1 (.ctor x.a x.n (s.stack.take n).reverse) (.ptr (H.length + 2) 0) := by rw [VR]; exact ⟨_, _, l, rfl, n5, .inr ⟨_, rfl, n4⟩, VRs.mono n3.le _ _ hvs⟩
   obtain ⟨w1, w2, w3⟩ := n1.cut n2 hL hk ((gal hml).trans b1) b2 (ER.mono n3.le _ _ b3)
   obtain ⟨r, ⟨H3, V3⟩, ⟨F3, sa3, fa3, s3, ⟨rfl, rfl, rfl⟩, u1, u2, u3⟩, cu⟩ := (n9 (V := V) w1 w2 hv (by show (s.stack.drop n).length <= _; rw [b8]; omega)).call rfl
   simp only [mcs] at cu
   simp only [pf46, ↓fj, wall, simprocAttr, wH, gq, fq, Ins.av, hga, hgx, hgb, hx, hw, hle1, Int.le_refl, Option.map_none, hcut, hcut2, ew, rb, Bj, hel, hcl, f1, cu]
   exact MQ.of ⟨rfl, rfl⟩ n3 ⟨u1, u2, w3.trans u3⟩
end
end Go.Proofs.Eng
namespace Go.Proofs.Eng
open Go Go.Proofs
set_option maxRecDepth 100000
set_option maxHeartbeats 16000000
section
variable {F : Fz} {H : List fp} {V : List Nat} {m : Nat} {sa fa : AV} {c : Cd} {s : Ms} {x : Ins}
theorem Ci (l : List Ins) : ((jj l).all λ x => x.cells.length == 4) = true := by
 rw [aw]; intro y hy
 obtain ⟨b, _, rfl⟩ := List.mem_map.1 hy; rfl
theorem Jh {l : List Ins} {i : Nat} {y : Ins} (h : l[i]? = some y) : (jj l)[i]? = some y.av := by rw [jj, bh, h]; rfl
theorem Ma {l : List Ins} {t : Tl} {a b : Nat} (h1 : a <= b) (h2 : b <= l.length) : ∃ t', r6 4 (jj l) t a b none = some (.sl (jj ((l.take b).drop a)) t') := by
 unfold r6
 rw [if_pos ⟨h1, by rw [jb]; exact h2⟩]
 dsimp only
 split
 ·rename_i h
  refine ⟨t, ?_⟩
  rw [h.1, h.2, jb, au (di _), List.drop_zero]
 ·exact ⟨_, by rw [jj, jj, List.map_drop, List.map_take]⟩
theorem Ri {n : Nat} {v : Vl} {st : List Vl} {l : List Ins} (hx : x.a = (n : Nat)) (hs : s.stack = v :: st) (hb : s.stack.length <= 1000000) (hfr : s.ia.length <= 1000000) (hl : c.bl[s.now.bk]? = some l) (hat : s.now.at' + n <= l.length) (hll : l.length <= 1000000000)
  (hk : ∀ k nm p, v = .ctor k nm p -> 0 <= k /\ p.length <= 1000000) (hy : ∀ y ∈ c.brs s.now n, 0 <= y.a) : Op 47 x s (s.choose c n) F H V m sa fa c := by
 intro hM hF
 obtain ⟨n1, n2, n3⟩ := hM.more hF [.cells false [.int x.op, .int (n : Nat), .int x.b, .str x.n]]
 obtain ⟨Bl, tb, t2, t3, ea, b1, b2, b3⟩ := n1.uc
 have hml := fy b1
 obtain ⟨_, ab, bl1, _, _, bl2, ⟨tl, rfl⟩⟩ := b2.at (i := s.now.bk) (by rw [b2.len]; exact (List.getElem?_eq_some_iff.1 hl).1)
 rw [hl] at bl1; cases bl1
 have hBa : (Bl.all λ x => x.cells.length == 1) = true := aw.2 λ y hy => by
  obtain ⟨q, hq⟩ := List.mem_iff_getElem?.1 hy
  obtain ⟨b, a, _, _, _, e4, ⟨t, rfl⟩⟩ := b2.at (i := q) (List.getElem?_eq_some_iff.1 hq).1
  rw [hq] at e4; cases e4; rfl
 obtain ⟨a, ⟨H1, V1⟩, ⟨F1, sa1, fa1, s1, ⟨hv, rfl, rfl⟩, p1, p2, p3⟩, cp⟩ := (wc (V := V) n1 n2 hs hb).call rfl
 obtain ⟨ka, rfl⟩ := hv.ptr
 have hc := VR.cells p2 hv
 have hw : IntKind.i64.wrap ((s.now.at' : Int) + (n : Nat)) = ((s.now.at' + n : Nat) : Int) := (je (by unfold m7; omega)).trans (by omega)
 obtain ⟨t', hsl⟩ := Ma (l := l) (t := tl) (a := s.now.at') (b := s.now.at' + n) (by omega) hat
 have hle : (0 : Int) <= (s.now.at' : Int) /\ ((s.now.at' : Nat) : Int) <= ((s.now.at' + n : Nat) : Int) := by omega
 have hxg : (H ++ [fp.cells false [.int x.op, .int (n : Nat), .int x.b, .str x.n]])[H.length]? = some (.cells false [.int x.op, .int (n : Nat), .int x.b, .str x.n]) := gae
 have h4 := Ci l
 have hi1 : ((s.now.at' : Nat) : Int) <= ((jj l).length : Nat) := by rw [jb]; omega
 have hi2 : ((s.now.at' + n : Nat) : Int) <= ((jj l).length : Nat) := by rw [jb]; omega
 have b1o := b1
 simp only [mcs] at b1
 refine ly pf47_is (dh rfl) ?_
 have hN := n3.trans p3
 cases v with
 | box =>
  simp only at hc
  simp only [pf47, ↓fj, wall, simprocAttr, wH, gq, fq, Ins.av, b1, bl2, hBa, hx, hw, hle, hi1, hi2, h4, hsl, fg, hxg, ew, cp, hc]
  exact MQ.of ⟨by rw [Ms.choose, hs], by rw [Ms.choose, hs]⟩ hN ⟨p1, p2, .refl _ _ _⟩
 | clo k e =>
  obtain ⟨ea', hc, _⟩ := hc
  simp only [pf47, ↓fj, wall, simprocAttr, wH, gq, fq, Ins.av, b1, bl2, hBa, hx, hw, hle, hi1, hi2, h4, hsl, fg, hxg, ew, cp, hc]
  exact MQ.of ⟨by rw [Ms.choose, hs], by rw [Ms.choose, hs]⟩ hN ⟨p1, p2, .refl _ _ _⟩
 | pair y z =>
  obtain ⟨ay, az, t, hc, _⟩ := hc
  simp only [pf47, ↓fj, wall, simprocAttr, wH, gq, fq, Ins.av, b1, bl2, hBa, hx, hw, hle, hi1, hi2, h4, hsl, fg, hxg, ew, cp, hc]
  exact MQ.of ⟨by rw [Ms.choose, hs], by rw [Ms.choose, hs]⟩ hN ⟨p1, p2, .refl _ _ _⟩
 | ctor k nm p =>
  obtain ⟨pa, lp, hc, hpa, hps⟩ := hc
  obtain ⟨hk0, hpl⟩ := hk k nm p rfl
  obtain ⟨kk, rfl⟩ : ∃ kk : Nat, k = (kk : Nat) := ⟨k.toNat, by omega⟩
  have hpn := hps.len
  obtain ⟨Br, hBr⟩ : ∃ Br, Br = (l.take (s.now.at' + n)).drop s.now.at' := ⟨_, rfl⟩
  have hbrs : c.brs s.now n = Br := by
   rw [Cd.brs, Cd.blk, cw, hl, hBr, List.drop_take]
   simp
  rw [<- hBr] at hsl
  have h4b := Ci Br
  obtain ⟨Bl', tb', t2', t3', ea', c1, c2, c3⟩ := p1.uc
  have hml1 := fy c1
  have c1o := c1
  simp only [mcs] at c1
  have hout : (kk < Br.length -> ∀ y, Br[kk]? = some y -> y.b ≠ (lp.length : Nat)) -> s.choose c n = ({ s with stack := st }, 10) := by
   intro h
   rw [Ms.choose, hs]
   simp only [ew, hbrs]
   cases hq : Br[kk]? with
   | none => rfl
   | some y =>
    simp only
    rw [if_neg (by rw [<- hpn]; exact h (List.getElem?_eq_some_iff.1 hq).1 y hq)]
  rcases dj kk Br.length with hlt | hge
  ·have hdec : decide (((kk : Nat) : Int) >= ((jj Br).length : Nat)) = false := by rw [jb]; simpa using hlt
   have hlt' : ((kk : Nat) : Int) < ((jj Br).length : Nat) := by rw [jb]; omega
   have hyq : Br[kk]? = some Br[kk] := aa hlt
   obtain ⟨y, hyy⟩ : ∃ y, y = Br[kk] := ⟨_, rfl⟩
   rw [<- hyy] at hyq
   have hyg := Jh hyq
   have hym : y ∈ c.brs s.now n := by rw [hbrs]; exact aq hyq
   obtain ⟨ya, hya⟩ : ∃ ya : Nat, y.a = (ya : Nat) := ⟨y.a.toNat, by have := hy y hym; omega⟩
   simp only [Ins.av, hya] at hyg
   cases hne : (y.b != ((lp.length : Nat) : Int))
   ·have hyb : y.b = (p.length : Nat) := by rw [<- hpn]; simpa using hne
    obtain ⟨w1, w2, w3⟩ := p1.upd p2 (s' := { s with stack := st, now := { s.now with at' := s.now.at' + n } }) ⟨Bl', tb', t2', t3', ea', gse hml1, c2, c3⟩ (p1.st.jd λ b e => gsn (p1.d1 b e).1) (p1.fr.jd λ b e => gsn (p1.d2 b e)) (λ k _ hn => gsn λ e => hn (.inl e)) (by simp) (λ k h => .inl h) p1.d1 p1.d2
    obtain ⟨r, ⟨H3, V3⟩, ⟨F3, sa3, fa3, s3, ⟨rfl, hr⟩, u1, u2, u3⟩, cu⟩ := (Eu (V := V1) w1 w2 c3 hpa hps (by rw [hpn]; exact hpl)).call rfl
    obtain ⟨r2, ⟨H4, V4⟩, ⟨F4, sa4, fa4, s4, ⟨rfl, hr4⟩, y1, y2, y3⟩, cy⟩ := (Cq (V := V3) ya u1 u2 hr hfr).call rfl
    simp only [mcs] at cu
    have hkm : ka ≠ m := λ e => by
     rw [VR] at hv
     obtain ⟨k', _, _, e1, e2, _⟩ := hv
     cases e1
     rw [e, p1.fz m (.inl rfl)] at e2; cases e2
    have gk := λ (L : List fp) (y : fp) => gsn (H := L) (x := y) hkm
    have hxg1 : H1[H.length]? = some (.cells false [.int x.op, .int (n : Nat), .int x.b, .str x.n]) := by
     rw [p3.jd H.length (by simp) ?_]
     ·exact hxg
     ·intro h
      have := hM.lt h
      omega
    have hxm : H.length ≠ m := by have := hM.lt (.inl rfl); omega
    have gx := λ (L : List fp) (y : fp) => gsn (H := L) (x := y) hxm
    obtain ⟨pa3, l3, hc3, _⟩ := VR.cells u2 (VR.mono u3.le _ _ hv)
    have fin : MQ F1 H m sa fa c (λ v _ s' => s' = (s.choose c n).1 /\ v = .int (s.choose c n).2) r2 ⟨H4, V4⟩ := by
     refine MQ.of ?_ hN ⟨y1, y2, w3.trans (u3.trans y3)⟩
     rw [Ms.choose, hs]
     simp only [ew, hbrs, hyq]
     rw [if_pos hyb, hya, ew]
     rcases hr4 with ⟨h1, rfl, rfl⟩ | ⟨h1, rfl, rfl⟩
     ·rw [Ms.enter, if_pos h1]; exact ⟨rfl, rfl⟩
     ·rw [Ms.enter, if_neg (by show ¬ 65536 <= s.ia.length; exact Nat.not_le.2 h1)]; exact ⟨rfl, rfl⟩
    rcases hpa with ⟨tp, rfl⟩ | ⟨bp, rfl, hbp⟩
    ·simp only [pf47, ↓fj, wall, simprocAttr, wH, gq, fq, Ins.av, b1, bl2, hBa, hx, hw, hle, hi1, hi2, h4, hsl, fg, hxg, ew, cp, hc, h4b, c1, hdec, hlt', hyg, hne, gse hml1, gk, gx, hxg1, cu, cy, rb]
     exact ⟨⟨.int (kk : Nat), by rw [hc3]; rfl, rb _⟩, fin⟩
    ·simp only [pf47, ↓fj, wall, simprocAttr, wH, gq, fq, Ins.av, b1, bl2, hBa, hx, hw, hle, hi1, hi2, h4, hsl, fg, hxg, ew, cp, hc, h4b, c1, hdec, hlt', hyg, hne, gse hml1, gk, gx, hxg1, cu, cy, rb]
     exact ⟨⟨.int (kk : Nat), by rw [hc3]; rfl, rb _⟩, fin⟩
   ·have : s.choose c n = ({ s with stack := st }, 10) := hout λ _ y' hy' e => by
     rw [hyq] at hy'; cases hy'
     rw [e] at hne; simp at hne
    rcases hpa with ⟨tp, rfl⟩ | ⟨bp, rfl, hbp⟩
    ·simp only [pf47, ↓fj, wall, simprocAttr, wH, gq, fq, Ins.av, b1, bl2, hBa, hx, hw, hle, hi1, hi2, h4, hsl, fg, hxg, ew, cp, hc, h4b, c1, hdec, hlt', hyg, hne]
     exact MQ.of ⟨by rw [this], by rw [this]⟩ hN ⟨p1, p2, .refl _ _ _⟩
    ·simp only [pf47, ↓fj, wall, simprocAttr, wH, gq, fq, Ins.av, b1, bl2, hBa, hx, hw, hle, hi1, hi2, h4, hsl, fg, hxg, ew, cp, hc, h4b, c1, hdec, hlt', hyg, hne]
     exact MQ.of ⟨by rw [this], by rw [this]⟩ hN ⟨p1, p2, .refl _ _ _⟩
  ·have hdec : decide (((kk : Nat) : Int) >= ((jj Br).length : Nat)) = true := by rw [jb]; simpa using hge
   have : s.choose c n = ({ s with stack := st }, 10) := hout λ h => absurd h (by omega)
   rcases hpa with ⟨tp, rfl⟩ | ⟨bp, rfl, hbp⟩
   ·simp only [pf47, ↓fj, wall, simprocAttr, wH, gq, fq, Ins.av, b1, bl2, hBa, hx, hw, hle, hi1, hi2, h4, hsl, fg, hxg, ew, cp, hc, h4b, c1, hdec]
    exact MQ.of ⟨by rw [this], by rw [this]⟩ hN ⟨p1, p2, .refl _ _ _⟩
   ·simp only [pf47, ↓fj, wall, simprocAttr, wH, gq, fq, Ins.av, b1, bl2, hBa, hx, hw, hle, hi1, hi2, h4, hsl, fg, hxg, ew, cp, hc, h4b, c1, hdec]
    exact MQ.of ⟨by rw [this], by rw [this]⟩ hN ⟨p1, p2, .refl _ _ _⟩
end
end Go.Proofs.Eng
namespace Go.Proofs.Eng
open Go Go.Proofs
set_option maxRecDepth 100000
set_option maxHeartbeats 16000000
section
variable {F : Fz} {H : List fp} {V : List Nat} {m : Nat} {sa fa : AV} {c : Cd} {s : Ms} {x : Ins}
theorem Ss {e : List Vl} {a : AV} (h : ER F e a) : lq a a = true := by
 cases e with
 | nil => rw [ER] at h; subst h; simp [lq, eqV]
 | cons v e => rw [ER] at h; obtain ⟨k, _, _, rfl, _⟩ := h; simp [lq]
theorem Rw.and {f : FuncId} {args : List AV} {s : ASt} {PR QR : AV -> ASt -> Prop} (h : Rw f args s PR) (k : Rw f args s QR) : Rw f args s λ v s1 => PR v s1 /\ QR v s1 := by
 obtain ⟨v, s1, h1, h2⟩ := h
 obtain ⟨w, s2, k1, k2⟩ := k
 rw [h1] at k1
 cases k1
 exact ⟨v, s1, h1, h2, k2⟩
theorem Tf {Bl : List AV} {tb t2 t3 : Tl} {ea : AV} {v : Vl} {st : List Vl} (hM : MR F H m sa fa c s) (hs : s.stack = v :: st) (hb : s.stack.length <= 1000000)
  (b1 : H[m]? = some (.cells false (mcs Bl tb t2 t3 c (s.now.bk : Nat) (s.now.at' : Nat) ea sa fa (s.steps : Nat) s.halted s.err m))) :
  Rw 91 [.ptr m 0] ⟨H, V⟩ λ _ s1 => ∃ sb, s1.H[m]? = some (.cells false (mcs Bl tb t2 t3 c (s.now.bk : Nat) (s.now.at' : Nat) ea sb fa (s.steps : Nat) s.halted s.err m)) := by
 have hml := fy b1
 simp only [mcs] at b1 ⊢
 refine ly pf91_is (dh rfl) ?_
 rcases hM.st with ⟨rfl, hn⟩ | ⟨b, cs, rfl, h1, h2, h3⟩
 ·rw [hs] at hn; cases hn
 have hl : s.stack.length = st.length + 1 := by rw [hs]; rfl
 rw [hl] at b1 h2 h3 hb
 rw [hs, List.reverse_cons] at h3
 obtain ⟨k1, k2⟩ := VRs.split h3
 rw [List.length_reverse] at k1 k2
 rw [VRs] at k2
 obtain ⟨a, l', e, k2, k3⟩ := k2
 rw [VRs] at k3; subst k3
 obtain ⟨ka, rfl⟩ := k2.ptr
 have hget : cs[st.length]? = some (.ptr ka 0) := by
  have := congrArg (λ l => l[0]?) e
  simp only [ba, bc, Nat.add_zero, bw] at this
  rw [if_pos (by omega)] at this; exact this
 have hw : IntKind.i64.wrap (((st.length + 1 : Nat) : Int) - 1) = (st.length : Nat) := (je (by unfold m7; omega)).trans (by omega)
 have hlt1 : ((st.length : Nat) : Int) < (st.length + 1 : Nat) := by omega
 have hle1 : ((st.length : Nat) : Int) <= (st.length + 1 : Nat) := by omega
 have hhd : (cs.drop (st.length * 1)).head? = some (.ptr ka 0) := by rw [Nat.mul_one, List.head?_drop]; exact hget
 have hcut : A7 b 0 (st.length + 1) 1 1 false 0 st.length true none = some (.bs b 0 st.length 1 false) := by simp [A7]
 simp only [pf91, ↓fj, wall, simprocAttr, wH, gq, fq, b1, hl, h1, hhd, hw, hlt1, hle1, Option.map_none, hcut]
 exact ⟨_, gse hml⟩
theorem a2f {v : Vl} {st : List Vl} (hs : s.stack = v :: st) (hb : s.stack.length <= 1000000) : Op 51 x s s.bind F H V m sa fa c := by
 intro hM hF
 obtain ⟨n1, n2, n3⟩ := hM.more hF [.cells false [.int x.op, .int x.a, .int x.b, .str x.n]]
 obtain ⟨Bl, tb, t2, t3, ea, b1, b2, b3⟩ := n1.uc
 have hml := fy b1
 obtain ⟨a, ⟨H1, V1⟩, ⟨⟨F1, sa1, fa1, s1, ⟨hv, rfl, rfl⟩, p1, p2, p3⟩, sb, c1⟩, cp⟩ := ((wc (V := V) n1 n2 hs hb).and (Tf n1 hs hb b1)).call rfl
 obtain ⟨ka, rfl⟩ := hv.ptr
 obtain ⟨r, ⟨H2, V2⟩, ⟨F2, sa2, fa2, s2, ⟨rfl, hr⟩, q1, q2, q3⟩, cq⟩ := (Eu (V := V1) (x := .sl [.ptr ka 0] (.cap 1)) p1 p2 b3 (.inl ⟨_, rfl⟩) (VRs.one hv) (by simp)).call rfl
 obtain ⟨Bl2, tb2, t22, t32, ea2, d1, d2, d3⟩ := q1.uc
 have hml2 := fy d1
 obtain ⟨k1, k2, k3⟩ := q1.upd q2 (s' := { s with stack := st, now := { s.now with env := v :: s.now.env } }) ⟨Bl2, tb2, t22, t32, r, gse hml2, d2, hr⟩ (q1.st.jd λ b e => gsn (q1.d1 b e).1) (q1.fr.jd λ b e => gsn (q1.d2 b e)) (λ k _ hn => gsn λ e => hn (.inl e)) (by simp) (λ k h => .inl h) q1.d1 q1.d2
 simp only [mcs] at b1 c1 d1
 refine ly pf51_is (dh rfl) ?_
 simp only [pf51, ↓fj, wall, simprocAttr, wH, gq, fq, Ins.av, b1, c1, d1, cp, cq, a7a, mo b3, pq b3, m8 b3, mo hr, pq hr, m8 hr, Ss b3, rb]
 exact MQ.of ⟨by rw [Ms.bind, hs], by rw [Ms.bind, hs]⟩ (n3.trans (p3.trans q3)) ⟨k1, k2, k3⟩
end
end Go.Proofs.Eng
namespace Go.Proofs.Eng
open Go Go.Proofs
set_option maxRecDepth 100000
set_option maxHeartbeats 16000000
section
variable {Z : List Int} {F : Fz} {H : List fp} {V : List Nat} {m : Nat} {sa fa : AV} {c : Cd} {s : Ms} {x : Ins}
theorem a4j (hC : F0 c Z) (hc : ∀ l ∈ c.bl, l.length <= 1000000) (hst : s.stack.length <= 1000000) (hfr : s.ia.length <= 1000000) (hR : Rdy c x s) (hv : ∀ n : Nat, x.op = 0 -> x.a = (n : Nat) -> n <= 1000000) : Op (42 + x.op.toNat) x s (s.exec c x) F H V m sa fa c := by
 obtain ⟨o1, o2, o3⟩ := hR.op
 have hops : x.op = 0 \/ x.op = 1 \/ x.op = 2 \/ x.op = 3 \/ x.op = 4 \/ x.op = 5 \/ x.op = 7 \/ x.op = 8 \/ x.op = 9 \/ x.op = 10 \/ x.op = 11 \/ x.op = 12 \/ x.op = 13 \/ x.op = 14 := by omega
 rcases hops with h | h | h | h | h | h | h | h | h | h | h | h | h | h
 ·obtain ⟨n, v, ha, hn⟩ := hR.o0 h
  have e : s.exec c x = (s.push v, 0) := by rw [Ms.exec, if_pos h, ha, ew, Ms.variable, hn]
  rw [e, h]; exact Kb ha hn hst (hv n h ha)
 ·have e : s.exec c x = (s.push (.clo x.a s.now.env), 0) := by rw [Ms.exec, if_neg (by omega), if_pos h]
  rw [e, h]; exact Ni hst
 ·obtain ⟨a, f, st, hs, hcl⟩ := hR.o2 h
  have e : s.exec c x = s.apply := by rw [Ms.exec, if_neg (by omega), if_neg (by omega), if_pos h]
  rw [e, h]; exact Ue hs hst hfr hcl
 ·have e : s.exec c x = s.leave := by rw [Ms.exec, if_neg (by omega), if_neg (by omega), if_neg (by omega), if_pos h]
  rw [e, h]; exact Ve hfr
 ·obtain ⟨n, hx, hn⟩ := hR.o4 h
  have e : s.exec c x = ({ s with stack := .ctor x.a x.n (s.stack.take n).reverse :: s.stack.drop n }, 0) := by rw [Ms.exec, if_neg (by omega), if_neg (by omega), if_neg (by omega), if_neg (by omega), if_pos h, hx, ew]
  rw [e, h]; exact Iu hx hn hst
 ·obtain ⟨n, v, st, l, hx, hs, hl, hat, hk, hy⟩ := hR.o5 h
  have e : s.exec c x = s.choose c n := by rw [Ms.exec, if_neg (by omega), if_neg (by omega), if_neg (by omega), if_neg (by omega), if_neg (by omega), if_pos h, hx, ew]
  rw [e, h]; exact Ri hx hs hst hfr hl hat (by have := hc l (aq hl); omega) hk hy
 ·obtain ⟨n, b, hx, hs⟩ := hR.o7 h
  have e : s.exec c x = s.enter b [] := by
   rw [Ms.exec, if_neg (by omega), if_neg (by omega), if_neg (by omega), if_neg (by omega), if_neg (by omega), if_neg (by omega), if_pos h, hx, ew, cw, hs, Option.getD_some, ew]
  rw [e, h]; exact Rd hx hs hfr
 ·have e : s.exec c x = (s.push .box, 0) := by rw [Ms.exec, if_neg (by omega), if_neg (by omega), if_neg (by omega), if_neg (by omega), if_neg (by omega), if_neg (by omega), if_neg (by omega), if_pos h]
  rw [e, h]; exact a3a hst
 ·obtain ⟨v, st, hs⟩ := hR.o9 (.inl h)
  have e : s.exec c x = s.bind := by rw [Ms.exec, if_neg (by omega), if_neg (by omega), if_neg (by omega), if_neg (by omega), if_neg (by omega), if_neg (by omega), if_neg (by omega), if_neg (by omega), if_pos h]
  rw [e, h]; exact a2f hs hst
 ·obtain ⟨v, st, hs⟩ := hR.o10 h
  have e : s.exec c x = ({ s with now := { s.now with env := st } }, 0) := by rw [Ms.exec, if_neg (by omega), if_neg (by omega), if_neg (by omega), if_neg (by omega), if_neg (by omega), if_neg (by omega), if_neg (by omega), if_neg (by omega), if_neg (by omega), if_pos h, hs]; rfl
  rw [e, h]; exact Rs hs
 ·obtain ⟨b, a, st, hs⟩ := hR.o11 h
  have e : s.exec c x = s.pair := by rw [Ms.exec, if_neg (by omega), if_neg (by omega), if_neg (by omega), if_neg (by omega), if_neg (by omega), if_neg (by omega), if_neg (by omega), if_neg (by omega), if_neg (by omega), if_neg (by omega), if_pos h]
  rw [e, h]; exact Z8 hs hst
 ·obtain ⟨v, st, hs⟩ := hR.o9 (.inr (.inl h))
  have e : s.exec c x = s.part false := by rw [Ms.exec, if_neg (by omega), if_neg (by omega), if_neg (by omega), if_neg (by omega), if_neg (by omega), if_neg (by omega), if_neg (by omega), if_neg (by omega), if_neg (by omega), if_neg (by omega), if_neg (by omega), if_pos h]
  rw [e, h]; exact U1 hs hst
 ·obtain ⟨v, st, hs⟩ := hR.o9 (.inr (.inr h))
  have e : s.exec c x = s.part true := by rw [Ms.exec, if_neg (by omega), if_neg (by omega), if_neg (by omega), if_neg (by omega), if_neg (by omega), if_neg (by omega), if_neg (by omega), if_neg (by omega), if_neg (by omega), if_neg (by omega), if_neg (by omega), if_neg (by omega), if_pos h]
  rw [e, h]; exact Qm hs hst
 ·have e : s.exec c x = (s, 30) := by rw [Ms.exec, if_neg (by omega), if_neg (by omega), if_neg (by omega), if_neg (by omega), if_neg (by omega), if_neg (by omega), if_neg (by omega), if_neg (by omega), if_neg (by omega), if_neg (by omega), if_neg (by omega), if_neg (by omega), if_neg (by omega), if_pos h]
  rw [e, h]; exact Wo
theorem Ti (hC : F0 c Z) (hsz : c.bd c.bl.length <= 400000) (hG : Good c Z s) : s.now.env.length <= 1000000 := by
 obtain ⟨k, r, ⟨t, ⟨l, h1, h2, _⟩, _, he, _, _, _, hz, _⟩, _⟩ := hG.fr
 have hlt := (List.getElem?_eq_some_iff.1 h1).1
 have h3 : Z.getD s.now.bk 0 <= c.bd c.bl.length := by
  rcases Int.lt_or_le (Z.getD s.now.bk 0) 0 with h | h
  ·have : 0 <= c.bd c.bl.length := fc _
   omega
  ·exact Int.le_trans (hC.bd _ h) (E9 c (by omega))
 have h4 : (l.length : Int) <= c.bd c.bl.length := by
  have h5 := Iy h1
  have h6 : 0 <= c.bd s.now.bk := fc _
  have h7 := E9 c (show s.now.bk + 1 <= c.bl.length by omega)
  omega
 omega
theorem Pq (hsz : c.bd c.bl.length <= 400000) {l : List Ins} (h : l ∈ c.bl) : l.length <= 400000 := by
 obtain ⟨i, hi⟩ := c7 h
 have hlt := (List.getElem?_eq_some_iff.1 hi).1
 have h5 := Iy hi
 have h6 : 0 <= c.bd i := fc _
 have h7 := E9 c (show i + 1 <= c.bl.length by omega)
 omega
theorem Zl (hC : F0 c Z) (hsz : c.bd c.bl.length <= 400000) (k : Nat) (hM : MR F H m sa fa c s) (hF : Fro F H) (hS : Safe c Z s) (hk : s.stack.length + k <= 900000) (hst : s.steps + k <= 1000000000) :
  Mw 15 [.ptr m 0, .int (k : Nat)] F H V m sa fa c λ v _ s' => s' = s.run c k /\ v = .tup [.bool (s'.halted && s'.err == 0), .int s'.err] := by
 refine ly pf15_is (dh rfl) ?_
 have hd0 : decide (((k : Nat) : Int) < 0) = false := by simp
 simp only [pf15, ↓fj, wall, simprocAttr, wH, gq, fq, hd0]
 refine j6 (λ j => j) (λ j E H' V' => ∃ F' s' sa' fa', E 0 = .ptr m 0 /\ E 1 = .int (j : Nat) /\ MR F' H' m sa' fa' c s' /\ Fro F' H' /\ Nx F H (Own m sa fa) F' H' (Own m sa' fa') /\ Safe c Z s' /\ s'.run c j = s.run c k /\ s'.stack.length + j <= 900000 /\ s'.steps + j <= 1000000000) ?_ k
  ⟨F, s, sa, fa, rfl, rfl, hM, hF, .refl _ _ _, hS, rfl, hk, hst⟩
 rintro j E H' V' ⟨F', s', sa', fa', e0, e1, hM', hF', hN, hS', hr, hk', hst'⟩
 obtain ⟨Bl, tb, t2, t3, ea, b1, b2, b3⟩ := hM'.uc
 have hml := fy b1
 have b1' := b1
 simp only [mcs] at b1
 have done : ∀ {v : AV}, s' = s.run c k -> v = .tup [.bool (s'.halted && s'.err == 0), .int s'.err] -> MQ F H m sa fa c (λ v _ s' => s' = s.run c k /\ v = .tup [.bool (s'.halted && s'.err == 0), .int s'.err]) v ⟨H', V'⟩ := λ e ev => ⟨F', sa', fa', s', ⟨e, ev⟩, hM', hF', hN⟩
 cases hd : decide (((j : Nat) : Int) > 0)
 ·have h0 : j = 0 := by simp at hd; omega
  subst h0
  have hr' : s' = s.run c k := by rw [<- hr, Ms.run]
  cases hh : s'.halted <;> cases he : (s'.err == 0)
  all_goals
   rw [hh] at b1
   simp only [↓fj, wall, simprocAttr, wH, e0, e1, hd, gq, fq, b1, he]
   exact done hr' (by rw [hh, he]; rfl)
 have hj : 0 < j := by simp at hd; omega
 cases hg : s'.go
 ·have hr' : s' = s.run c k := by rw [<- hr, Jk hg]
  cases hh : s'.halted
  ·have he : (s'.err == 0) = false := by rw [Ms.go, hh] at hg; simpa using hg
   rw [hh] at b1
   simp only [↓fj, wall, simprocAttr, wH, e0, e1, hd, gq, fq, b1, he]
   exact done hr' (by rw [hh, he]; rfl)
  ·cases he : (s'.err == 0)
   all_goals
    rw [hh] at b1
    simp only [↓fj, wall, simprocAttr, wH, e0, e1, hd, gq, fq, b1, he]
    exact done hr' (by rw [hh, he]; rfl)
 have hh : s'.halted = false := by rw [Ms.go] at hg; simp at hg; exact hg.1
 have he : (s'.err == 0) = true := by rw [Ms.go] at hg; simp at hg; simp [hg.2]
 obtain ⟨l, x, x1, x2, x3, hR, hst1, hS1, st1, st2, st3⟩ := Of hC (hS'.Ar hg) (by omega)
 have hll := Pq hsz (aq x1)
 obtain ⟨_, ab, bl1, _, _, bl2, ⟨tl, rfl⟩⟩ := b2.at (i := s'.now.bk) (by rw [b2.len]; exact (List.getElem?_eq_some_iff.1 x1).1)
 rw [x1] at bl1; cases bl1
 have hBa : (Bl.all λ x => x.cells.length == 1) = true := aw.2 λ y hy => by
  obtain ⟨q, hq⟩ := List.mem_iff_getElem?.1 hy
  obtain ⟨b, a, _, _, _, e4, ⟨t, rfl⟩⟩ := b2.at (i := q) (List.getElem?_eq_some_iff.1 hq).1
  rw [hq] at e4; cases e4; rfl
 have hxl := (List.getElem?_eq_some_iff.1 x2).1
 have hxa := Jh x2
 have hi1 : ((s'.now.at' : Nat) : Int) < ((jj l).length : Nat) := by rw [jb]; omega
 have h4 := Ci l
 have hgx := λ G : List fp => (gal (G := G) hml).trans b1'
 simp only [mcs] at hgx
 rw [hh] at b1 hgx
 simp only [Ins.av] at hxa
 obtain ⟨X, hX⟩ : ∃ X, X = fp.cells false [.int x.op, .int x.a, .int x.b, .str x.n] := ⟨_, rfl⟩
 obtain ⟨n1, n2, n3⟩ := hM'.more hF' [X]
 have hml2 : m < (H' ++ [X]).length := by simp; omega
 have hw1 : IntKind.i64.wrap ((s'.now.at' : Int) + 1) = ((s'.now.at' + 1 : Nat) : Int) := (je (by unfold m7; omega)).trans (by omega)
 have hw2 : IntKind.i64.wrap ((s'.steps : Int) + 1) = ((s'.steps + 1 : Nat) : Int) := (je (by unfold m7; omega)).trans (by omega)
 have hw3 : IntKind.i64.wrap ((j : Int) - 1) = ((j - 1 : Nat) : Int) := (je (by unfold m7; omega)).trans (by omega)
 obtain ⟨k1, k2, k3⟩ := n1.upd n2 (s' := s'.adv) ⟨Bl, tb, t2, t3, ea, gse hml2, b2, b3⟩ (n1.st.jd λ b e => gsn (n1.d1 b e).1) (n1.fr.jd λ b e => gsn (n1.d2 b e)) (λ k _ hn => gsn λ e => hn (.inl e)) (by simp) (λ k h => .inl h) n1.d1 n1.d2
 have jy : s'.ia.length <= 1000000 := by have := (hS'.Ar hg).cap; omega
 have henv := Ti hC hsz (hS'.Ar hg)
 have hop := a4j (V := V') hC (λ l hl => by have := Pq hsz hl; omega) (s := s'.adv) (by show s'.stack.length <= _; omega) jy hR (λ n ho hn => by
  obtain ⟨n', v, h1, h2⟩ := hR.o0 ho
  have h3 := (List.getElem?_eq_some_iff.1 h2).1
  have h4 : s'.adv.now.env.length = s'.now.env.length := rfl
  omega) k1 k2
 obtain ⟨R, hRe⟩ : ∃ R, R = s'.adv.exec c x := ⟨_, rfl⟩
 rw [<- hRe] at hop hst1
 obtain ⟨o1, o2, o3⟩ := hR.op
 have hmd : md (42 + x.op.toNat) = .raw := by
  have hops : x.op = 0 \/ x.op = 1 \/ x.op = 2 \/ x.op = 3 \/ x.op = 4 \/ x.op = 5 \/ x.op = 7 \/ x.op = 8 \/ x.op = 9 \/ x.op = 10 \/ x.op = 11 \/ x.op = 12 \/ x.op = 13 \/ x.op = 14 := by omega
  rcases hops with h | h | h | h | h | h | h | h | h | h | h | h | h | h <;> rw [h] <;> rfl
 have hlk : ((mcs Bl tb t2 t3 c (s'.now.bk : Nat) ((s'.now.at' + 1 : Nat) : Int) ea sa' fa' ((s'.steps + 1 : Nat) : Int) false s'.err m).drop (11 + x.op.toNat * 1)).head? = some (.bm (42 + x.op.toNat) [.ptr m 0]) := by
  have hops : x.op = 0 \/ x.op = 1 \/ x.op = 2 \/ x.op = 3 \/ x.op = 4 \/ x.op = 5 \/ x.op = 7 \/ x.op = 8 \/ x.op = 9 \/ x.op = 10 \/ x.op = 11 \/ x.op = 12 \/ x.op = 13 \/ x.op = 14 := by omega
  rcases hops with h | h | h | h | h | h | h | h | h | h | h | h | h | h <;> rw [h] <;> rfl
 obtain ⟨r, ⟨H3, V3⟩, ⟨F3, sa3, fa3, s3, ⟨hs3, rfl⟩, p1, p2, p3⟩, cp⟩ := hop.call hmd
 obtain ⟨Bl3, tb3, t23, t33, ea3, c1, c2, c3⟩ := p1.uc
 have hml3 := fy c1
 have hxm : H'.length ≠ m := by omega
 have gx := λ (L : List fp) (y : fp) => gsn (H := L) (x := y) hxm
 have hxg : (H' ++ [X])[H'.length]? = some X := gae
 have ho : 0 <= x.op /\ x.op < 15 := by omega
 simp only [mcs] at hlk c1
 subst hX
 simp only [mcs, Ms.adv, hh, Ins.av] at cp
 simp only [↓fj, wall, simprocAttr, wH, e0, e1, hd, gq, fq, b1, he, bl2, hBa, hi1, h4, hxa, hgx, hw1, hw2, hw3, gse hml2, List.set_set, gx, hxg, ho, hlk, cp, c1]
 obtain ⟨w1, w2, w3⟩ := p1.upd p2 (s' := { s3 with err := R.2 }) ⟨Bl3, tb3, t23, t33, ea3, gse hml3, c2, c3⟩ (p1.st.jd λ b e => gsn (p1.d1 b e).1) (p1.fr.jd λ b e => gsn (p1.d2 b e)) (λ k _ hn => gsn λ e => hn (.inl e)) (by simp) (λ k h => .inl h) p1.d1 p1.d2
 have hs4 : { s3 with err := R.2 } = s'.step c := by rw [hst1, hs3]
 refine jm ⟨j - 1, by omega, F3, s'.step c, sa3, fa3, e0, rfl, by rw [<- hs4]; exact w1, w2, hN.trans (n3.trans (k3.trans (p3.trans w3))), hS1, ?_, by omega, by omega⟩
 rw [<- hr]
 obtain ⟨j', rfl⟩ : ∃ j', j = j' + 1 := ⟨j - 1, by omega⟩
 rw [Nat.add_sub_cancel, Ms.run, if_pos hg]
end
end Go.Proofs.Eng
namespace Go.Proofs.Eng
open Go Go.Proofs
set_option maxRecDepth 100000
set_option maxHeartbeats 16000000
end Go.Proofs.Eng
