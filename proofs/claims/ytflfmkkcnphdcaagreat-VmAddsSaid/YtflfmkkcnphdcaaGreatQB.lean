/- The law of the program that adds. No conditions beyond those in the theorems. -/
import Derived.Test.YtflfmkkcnphdcaaGreatNS
set_option linter.all false
set_option linter.deprecated false
set_option linter.unnecessarySimpa false
set_option linter.unusedVariables false
set_option linter.unusedSimpArgs false
set_option linter.defProp false
namespace Go.Proofs.Eng
open Go Go.Proofs
set_option maxRecDepth 100000
set_option maxHeartbeats 16000000
theorem in0 : m7 0 := by unfold m7; omega
theorem in1 : m7 1 := by unfold m7; omega
theorem jo {n : Nat} (h : n <= 1000) : n <= jh := by unfold jh; omega
theorem a2s {i : Int} (hi : m7 i) : Out md pfs 24 [.int i] (λ v => (eV i).Is v) λ _ => False := by
 refine iy pf24_is (dh rfl) ?_
 simp only [pf24, ↓fj, wall, simprocAttr, wH]
 exact Ex.Is.mk (s := []) rfl rfl ⟨hi, jo (by decide)⟩ (jo (by decide)) (jo (by decide)) trivial
theorem E6 {f g : Ex} {a b : AV} (hf : f.Is a) (hg : g.Is b) : Out md pfs 25 [a, b] (λ v => (eA f g).Is v) λ _ => False := by
 have hf' := hf
 have hg' := hg
 obtain ⟨k, i, n, s, kids⟩ := f
 obtain ⟨k', i', n', s', kids'⟩ := g
 obtain ⟨t1, t2, kas, rfl, _⟩ := hf'.opn
 obtain ⟨u1, u2, kbs, rfl, _⟩ := hg'.opn
 refine iy pf25_is (dh rfl) ?_
 simp only [pf25, ↓fj, wall, simprocAttr, wH]
 have hI := Ex.Is.mk (k := 2) (i := 0) (n := ⟨#[]⟩) (s := []) (kids := [.mk k i n s kids, .mk k' i' n' s' kids']) (t1 := .nil) (t2 := .cap 2) (kas := [_, _]) rfl rfl ⟨in0, jo (by decide)⟩ (jo (by decide)) (jo (by simp)) ⟨hf, hg, trivial⟩
 exact ⟨_, iu (qe _ hI), hI⟩
theorem O6 {f : Ex} {a : AV} (hf : f.Is a) : Out md pfs 26 [a] (λ v => (eF f).Is v) λ _ => False := by
 have hf' := hf
 obtain ⟨k, i, n, s, kids⟩ := f
 obtain ⟨t1, t2, kas, rfl, _⟩ := hf'.opn
 refine iy pf26_is (dh rfl) ?_
 simp only [pf26, ↓fj, wall, simprocAttr, wH]
 have hI := Ex.Is.mk (k := 1) (i := 0) (n := ⟨#[]⟩) (s := []) (kids := [.mk k i n s kids]) (t1 := .nil) (t2 := .cap 1) (kas := [_]) rfl rfl ⟨in0, jo (by decide)⟩ (jo (by decide)) (jo (by simp)) ⟨hf, trivial⟩
 exact ⟨_, iu (qe _ hI), hI⟩
theorem Uk : Out md pfs 36 [] (λ v => (uy 0).Is v) λ _ => False := by
 refine iy pf36_is (dh rfl) ?_
 simp only [pf36, ↓fj, wall, simprocAttr, wH]
 exact Ex.Is.mk (s := []) rfl rfl ⟨in0, jo (by decide)⟩ (jo (by decide)) (jo (by decide)) trivial
theorem Ev {x : Nat} (hx : x <= 1000) : Out md pfs 27 [.int (x : Nat)] (λ v => (uy x).Is v) λ _ => False := by
 obtain ⟨z, hz, cz⟩ := Uk.call rfl rfl
 have hz' := hz
 rw [uy] at hz'
 obtain ⟨t1, t2, kas, rfl, _⟩ := hz'.opn
 have hlb : jh = 9223372036854775807 := rfl
 refine iy pf27_is (dh rfl) ?_
 simp only [pf27, ↓fj, wall, simprocAttr, wH, cz]
 refine j6 (λ j => x - j) (λ j E H T => ∃ a G, j <= x /\ (uy j).Is (.agg a) /\ E 0 = .int (x : Nat) /\ E 2 = .ptr 0 0 /\ E 3 = .ptr 1 0 /\ E 4 = .int (j : Nat) /\ H = .cells false [.int 0, .int 0, .str ⟨#[]⟩, .sl [] .nil, .sl [] .nil] :: .cells false a :: G) ?_ 0 ⟨_, _, dk _, hz, rfl, rfl, rfl, rfl, rfl⟩
 rintro j E _ T ⟨a, G, hj, ha, e0, e2, e3, e4, rfl⟩
 obtain ⟨k, i, nm, s, kids, hq⟩ : ∃ k i nm s kids, uy j = .mk k i nm s kids := by cases uy j; exact ⟨_, _, _, _, _, rfl⟩
 have ha' := ha
 rw [hq] at ha'
 obtain ⟨t1, t2, kas, e, _⟩ := ha'.opn
 cases e
 rcases dj j x with hlt | hge
 ·have hdec : decide ((j : Int) < (x : Nat)) = true := by simpa using hlt
  simp only [↓fj, wall, simprocAttr, wH, e0, e2, e3, e4, hdec]
  have hI := Ex.Is.mk (k := 3) (i := 1) (n := nmS) (s := []) (kids := [uy j]) (t1 := .nil) (t2 := .cap 1) (kas := [_]) rfl rfl ⟨in1, jo (by decide)⟩ (jo (by decide)) (jo (by simp)) ⟨ha, trivial⟩
  exact jm ⟨j + 1, by omega, _, _, by omega, hI, e0, e2, e3, iw (by omega), rfl⟩
 ·have hdec : decide ((j : Int) < (x : Nat)) = false := by simpa using hge
  obtain rfl : j = x := by omega
  simp only [↓fj, wall, simprocAttr, wH, e0, e2, e3, e4, hdec]
  exact ⟨_, iu (qe _ ha), ha⟩
theorem Ex.Is.Qe {e : Ex} {a : AV} (h : e.Is a) : ∃ (k i : Int) (n : ByteArray) (s : List Int) (t1 : Tl) (kas : List AV) (t2 : Tl), a = .agg [.int k, .int i, .str n, .sl (ints s) t1, .sl kas t2] := by
 obtain ⟨k, i, n, s, kids⟩ := e
 obtain ⟨t1, t2, kas, rfl, _⟩ := h.opn
 exact ⟨k, i, n, s, t1, kas, t2, rfl⟩
theorem a2o {e : Ex} {a : AV} (h : e.Is a) : gg [a] = true := by simp [ga, gu, qe _ h]
theorem Px {e f : Ex} {a b : AV} (h : e.Is a) (k : f.Is b) : gg [a, b] = true := by simp [ga, gu, qe _ h, qe _ k]
theorem Tq {a b : Nat} (ha : a < 256) (hb : b < 256) : Out md pfs 7 [.v (.int .u8 (a : Nat)), .v (.int .u8 (b : Nat))] (· = .bool true) λ _ => False := by
 obtain ⟨x, hx⟩ : ∃ x, x = a % 40 := ⟨_, rfl⟩
 obtain ⟨y, hy⟩ : ∃ y, y = b % 40 := ⟨_, rfl⟩
 have hx4 : x < 40 := by omega
 have hy4 : y < 40 := by omega
 have ta : ((a : Nat) : Int).tmod 40 = ((x : Nat) : Int) := by rw [Int.tmod_eq_emod_of_nonneg (by omega)]; omega
 have tb : ((b : Nat) : Int).tmod 40 = ((y : Nat) : Int) := by rw [Int.tmod_eq_emod_of_nonneg (by omega)]; omega
 have wx : IntKind.i64.wrap ((x : Nat) : Int) = (x : Nat) := je (by unfold m7; omega)
 have wy : IntKind.i64.wrap ((y : Nat) : Int) = (y : Nat) := je (by unfold m7; omega)
 obtain ⟨_, rfl, ca⟩ := R8.call rfl rfl
 obtain ⟨_, h0, c0⟩ := (a2s in0).call rfl rfl
 obtain ⟨_, h1, c1⟩ := (a2s in1).call rfl rfl
 have hG : eG.Is (.agg [.int 5, .int 0, .str nmP, .sl [] .nil, .sl [] .nil]) := Ex.Is.mk (s := []) rfl rfl ⟨in0, jo (by decide)⟩ (jo (by decide)) (jo (by decide)) trivial
 obtain ⟨_, hA, cA⟩ := (E6 hG h0).call rfl (Px hG h0)
 obtain ⟨_, hB, cB⟩ := (E6 hA h1).call rfl (Px hA h1)
 obtain ⟨k0, i0, n0, s0, t0, l0, u0, rfl⟩ := h0.Qe
 obtain ⟨k1, i1, n1, s1, t1, l1, u1, rfl⟩ := h1.Qe
 obtain ⟨kB, iB, nB, sB, tB, lB, uB, rfl⟩ := hB.Qe
 have hM : a2u.Is (.agg [.int 3, .int 1, .str nmS, .sl [] .nil, .sl [_] (.cap 1)]) := Ex.Is.mk (s := []) rfl rfl ⟨in1, jo (by decide)⟩ (jo (by decide)) (jo (by simp)) ⟨hB, trivial⟩
 have hC : a33.Is (.agg [.int 4, .int 0, .str ⟨#[]⟩, .sl [.int 0, .int 1] (.cap 2), .sl [_, _, _] (.cap 3)]) := Ex.Is.mk (s := [0, 1]) rfl rfl ⟨in0, jo (by decide)⟩ (jo (by decide)) (jo (by simp)) ⟨h1, h0, hM, trivial⟩
 obtain ⟨_, hF1, cF1⟩ := (O6 hC).call rfl (a2o hC)
 obtain ⟨_, hF2, cF2⟩ := (O6 hF1).call rfl (a2o hF1)
 obtain ⟨_, hX, cX⟩ := (Ev (x := x) (by omega)).call rfl rfl
 obtain ⟨_, hY, cY⟩ := (Ev (x := y) (by omega)).call rfl rfl
 obtain ⟨_, hM1, cM1⟩ := (E6 hG hX).call rfl (Px hG hX)
 obtain ⟨_, hM2, cM2⟩ := (E6 hM1 hY).call rfl (Px hM1 hY)
 obtain ⟨kF, iF, nF, sF, tF, lF, uF, rfl⟩ := hF2.Qe
 obtain ⟨kM, iM, nM, sM, tM, lM, uM, rfl⟩ := hM2.Qe
 have hp : (zr x y).Is (.agg (.sl [.agg (.str nmP :: [.int kF, .int iF, .str nF, .sl (ints sF) tF, .sl lF uF])] (.cap 1) :: [.int kM, .int iM, .str nM, .sl (ints sM) tM, .sl lM uM])) := by
  have q1 := qe _ hM2
  have q2 := qe _ hF2
  rw [lu] at q1 q2
  exact ⟨_, _, _, rfl, rfl, jo (by simp), ⟨⟨_, rfl, jo (by decide), hF2⟩, trivial⟩, hM2, rfl, rfl, rfl, q1, by simp [ga, gu, lu, mg] at q2 ⊢; simp [q2], rfl⟩
 have hfw := Yc hx4 hy4
 have hck := Rz hx4 hy4
 obtain ⟨hP, b1, b2, b3, b4, b5, b6⟩ := Pv hfw hck
 obtain ⟨Z, hZ⟩ := Kj b3
 have hsz : (lf (zr x y)).bd (lf (zr x y)).bl.length <= 400000 := by rw [a6k]; omega
 obtain ⟨_, ⟨J1, V1⟩, ⟨m, rfl, _, _, hMm⟩, cm⟩ := (Kk hp hfw hck [.cells false [.int kB, .int iB, .str nB, .sl (ints sB) tB, .sl lB uB], .cells false [.int 3, .int 1, .str nmS, .sl [] .nil, .sl [.agg [.int kB, .int iB, .str nB, .sl (ints sB) tB, .sl lB uB]] (.cap 1)], .cells false [.int kF, .int iF, .str nF, .sl (ints sF) tF, .sl lF uF],
  .cells false [.sl [.agg [.str nmP, .int kF, .int iF, .str nF, .sl (ints sF) tF, .sl lF uF]] (.cap 1), .int kM, .int iM, .str nM, .sl (ints sM) tM, .sl lM uM]] []).call rfl
 obtain ⟨_, ⟨J2, V2⟩, ⟨F2, sa2, fa2, s2, ⟨hs2, rfl⟩, hMr, hFr, _⟩, cr⟩ := (Zl (V := V1) hZ hsz 100000 hMm (λ _ _ h => by cases h) (Ew hZ) (by decide) (by decide)).call rfl
 obtain ⟨q1, _, _, q4⟩ := Lu hZ 100000 (Ew hZ) (by decide)
 rw [<- hs2] at q1 q4
 obtain ⟨kk, hrun⟩ := a02 hx4 hy4
 rw [hrun] at hs2
 have hcnt := Tp (n := x + y) (by omega)
 have hE : s2.C7 = 0 := by rw [hs2, Ms.C7, if_pos ⟨rfl, rfl⟩]; simp only []; rw [hcnt, if_neg (by omega), if_neg (by omega)]
 have hT : s2.Jj = nd (x + y) := by rw [Ms.Jj, if_pos hE, hs2]; exact Oo _
 obtain ⟨_, ⟨J3, V3⟩, ⟨hA3, d, rfl, hd⟩, cd⟩ := (Nk (V := V2) hMr hFr q1 (by rw [hs2]; simp)).call rfl
 rw [hT] at hd
 rw [hE] at cd
 obtain ⟨hM3, hF3⟩ := hMr.ap hFr hA3
 have hbool : (s2.halted && s2.err == 0) = true := by rw [hs2]; rfl
 have herr : s2.err = 0 := by rw [hs2]
 rw [hbool, herr, show ((100000 : Nat) : Int) = 100000 from rfl] at cr
 obtain ⟨c9, das9, t9, rfl, _⟩ := hd.two
 refine iy pf7_is (dh rfl) ?_
 simp only [pf7, ↓fj, wall, simprocAttr, wH, ta, tb, wx, wy, c0, c1, cA, cB, cF1, cF2, cX, cY, cM1, cM2, ca, cm, cr, cd]
 refine j6 (λ j => x + y - j) (λ j E H T => ∃ cc das t, j <= x + y /\ E 5 = .int (x : Nat) /\ E 6 = .int (y : Nat) /\ E 12 = .ptr m 0 /\ E 13 = .bool true /\ E 14 = .int 0 /\ E 15 = .ptr J3.length 0 /\ E 16 = .int 0 /\ E 17 = .int (j : Nat) /\ H = J3 ++ [.cells false [.str cc, .sl das t]] /\ T = V3 /\ (nd (x + y - j)).R (.agg [.str cc, .sl das t])) ?_ 0
  ⟨_, _, _, dk _, rfl, rfl, rfl, rfl, rfl, rfl, rfl, rfl, rfl, rfl, hd⟩
 rintro j E _ T9 ⟨cc, das, t, hj, e5, e6, e12, e13, e14, e15, e16, e17, rfl, rfl, hR⟩
 rcases dj j (x + y) with hlt | hge
 ·obtain ⟨n, hn⟩ : ∃ n, x + y - j = n + 1 := ⟨x + y - j - 1, by omega⟩
  rw [hn, nd, Dt.R] at hR
  obtain ⟨_, _, e, hl, _⟩ := hR
  cases e
  rw [Dt.RL] at hl
  obtain ⟨a1, l', rfl, hR1, hl⟩ := hl
  rw [Dt.RL] at hl
  subst hl
  obtain ⟨c2, das2, u2, rfl, _⟩ := hR1.two
  have h200 : decide ((j : Int) < 200) = true := by simp; omega
  simp only [↓fj, wall, simprocAttr, wH, e5, e6, e12, e13, e14, e15, e16, e17, h200]
  exact jm ⟨j + 1, by omega, _, _, _, by omega, e5, e6, e12, e13, e14, e15, e16, iw (by unfold jh; omega), rfl, rfl, by rw [show x + y - (j + 1) = n from by omega]; exact hR1⟩
 ·obtain rfl : j = x + y := by omega
  rw [Nat.sub_self, nd, Dt.R] at hR
  obtain ⟨_, _, e, hl, _⟩ := hR
  cases e
  rw [Dt.RL] at hl
  subst hl
  have hzs : (nmZ.toList == nmS.toList) = false := by decide +kernel
  have hzz : (nmZ.toList == nmZ.toList) = true := by decide +kernel
  have hw : IntKind.i64.wrap (((x : Nat) : Int) + ((y : Nat) : Int)) = ((x + y : Nat) : Int) := (je (by unfold m7; omega)).trans (by omega)
  obtain ⟨hM4, _⟩ := hM3.ap hF3 (Ap.app J3 T9 [.cells false [.str nmZ, .sl [] t]])
  obtain ⟨_, _, ⟨rfl, rfl⟩, cD⟩ := (S6 (V := T9) hM4).call rfl
  have hfr : s2.ia.length = 0 := by rw [hs2]; rfl
  rw [hfr] at cD
  simp only [↓fj, wall, simprocAttr, wH, e5, e6, e12, e13, e14, e15, e16, e17, hzs, hzz, hw, ca, cD]
end Go.Proofs.Eng
