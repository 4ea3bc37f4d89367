/- The law of machines that stop. No conditions beyond those in the theorems. -/
import Derived.Test.YtflfmkkcnphdcaaGreatRC
import Derived.Test.YtflfmkkcnphdcaaGreatN8
import Derived.Test.YtflfmkkcnphdcaaGreatPf57
set_option linter.all false
set_option linter.deprecated false
set_option linter.unnecessarySimpa false
set_option linter.unusedVariables false
set_option linter.unusedSimpArgs false
set_option linter.defProp false
namespace Go.Proofs.Eng
open Go Go.Proofs
set_option maxRecDepth 100000
set_option maxHeartbeats 16000000
section
variable {F : Fz} {H : List fp} {V : List Nat} {m : Nat} {sa fa : AV} {c : Cd} {s : Ms}
theorem G9 (hM : MR F H m sa fa c s) : Rw 22 [.ptr m 0] ⟨H, V⟩ fun v s1 => s1 = ⟨H, V⟩ ∧ v = .int (s.gz.length : Nat) := by
 obtain ⟨Bl, tb, t2, t3, ea, b1, b2, b3⟩ := hM.uv
 simp only [mcs] at b1
 refine m7 pf22_is (dg rfl) ?_
 rcases hM.fr with ⟨rfl, hn⟩ | ⟨b, cs, rfl, h1, h2, h3⟩
 ·simp only [pf22, ↓fh, wall, simprocAttr, wH, ia, fx, b1]
  rw [hn]; rfl
 ·simp only [pf22, ↓fh, wall, simprocAttr, wH, ia, fx, b1]
theorem F7 (hM : MR F H m sa fa c s) : Rw 21 [.ptr m 0] ⟨H, V⟩ fun v s1 => s1 = ⟨H, V⟩ ∧ v = .int (s.steps : Nat) := by
 obtain ⟨Bl, tb, t2, t3, ea, b1, _⟩ := hM.uv
 exact R6 b1
theorem Mm {i : Int} (hi : i < 0) (H : List fp) (V : List Nat) (m : Nat) : Rw 15 [.ptr m 0, .int i] ⟨H, V⟩ fun v s1 => s1 = ⟨H, V⟩ ∧ v = .tup [.bool false, .int 2] := by
 refine m7 pf15_is (dg rfl) ?_
 have hd0 : decide (i < 0) = true := by simpa using hi
 simp only [pf15, ↓fh, wall, simprocAttr, wH, ia, fx, hd0]
theorem Kt {p : Pr} {pa : AV} (hp : p.Is pa) (hf : p.Mb = true) (hc : p.check = 0) (H : List fp) (V : List Nat) :
  Rw 19 [pa] ⟨H, V⟩ fun v s1 => ∃ m, v = .ptr m 0 ∧ H.length <= m ∧ Ap H V s1.H s1.T ∧ MR (fun _ => none) s1.H m (.sl [] .nil) (.sl [] .nil) (m4 p) Ms.start := by
 obtain ⟨hP, b1, b2, b3, b4, b5, b6⟩ := Ny hf hc
 obtain ⟨Z, hC⟩ := Ja b3
 have jv : xl = 1073741824 := rfl
 obtain ⟨_, hv, cc⟩ := (Km hp (B := 12800) fun _ => ⟨hP, by omega, by omega⟩).call rfl (by simp [fq, ga, w8 hp])
 rcases hv with ⟨h, _⟩ | ⟨_, a, rfl, ha⟩
 ·exact absurd hc h
 obtain ⟨gas, tg, cp, rfl, h1, h2, h3, h4, h5, h6, h7, h8, h9, h10⟩ := id hp
 obtain ⟨Bs, t1, t2, t3, rfl, g1, g2, g3, g4, g5, g6, g7⟩ := id ha
 refine m7 pf19_is (dg rfl) ?_
 obtain ⟨_, ⟨H1, V1⟩, ⟨_, _, hs, hAp, hw⟩, cn⟩ := (Wz ha b4 hC.names (by omega) (by omega) (by omega) (by omega) (H ++ [.cells false (.sl gas tg :: cp), .cells false [.sl Bs t1, .sl (nmA (m4 p).gl) t2, .sl (ints (m4 p).st) t3]]) V).call rfl
 cases hs
 rcases hw with ⟨h, _⟩ | ⟨_, m, Bl, tb, u2, u3, hm, rfl, hb, hx⟩
 ·exact absurd b3 h
 simp only [pf19, ↓fh, wall, simprocAttr, wH, ia, fx, h5, h6, h7, cc, cn]
 have hx6 : cp.take 5 = cp := h6
 refine ⟨m, rfl, by simp at hm; omega, (Ap.app H V _).trans hAp, ⟨⟨Bl, tb, u2, u3, _, hb, hx, by rw [Ms.start, ER]⟩, .inl ⟨rfl, rfl⟩, .inl ⟨rfl, rfl⟩, fun _ _ => rfl, fun _ h => (by cases h), fun _ h => (by cases h)⟩⟩
theorem Dt {p : Pr} {pa : AV} (hp : p.Is pa) (hs : szL p.es <= 1048576) : Out md pfs 17 [pa] (· = .bool p.Mb) fun _ => False := by
 obtain ⟨gas, tg, c, rfl, h1, h2, h3, h4, h5, h6, h7, h8, h9, h10⟩ := id hp
 have hl := h3.len
 have hm : p.main.sz <= 1048576 := by have := Dx (l := p.es) (e := p.main) (by simp [Pr.es]); omega
 obtain ⟨_, rfl, cm⟩ := (C2 p.main h4).call rfl (by simp [fq, ga, ll _ h4])
 rw [O3 _ hm] at cm
 refine ir pf17_is (dg rfl) ?_
 have hlb : j9 = 9223372036854775807 := rfl
 have hszs : szL p.es = p.main.sz + szL (p.gs.map (·.2)) := rfl
 have nz : ∀ i : Nat, szL ((p.gs.take i).map (·.2)) <= szL (p.gs.map (·.2)) := fun i => by
  have h := congrArg (fun l : List Gl => szL (l.map (·.2))) (cx i p.gs)
  simp only [List.map_append, mv] at h
  omega
 simp only [pf17, ↓fh, wall, simprocAttr, wH, h5, h6, h7, cm]
 refine iy (fun i => gas.length - i) (fun i E H T => H = [.cells false (.sl gas tg :: c)] ∧ E 1 = .ptr 0 0 ∧ E 4 = .int (i : Nat) ∧ E 3 = .int ((p.main.sz + szL ((p.gs.take i).map (·.2)) : Nat) : Int) ∧ i <= gas.length ∧ i <= 20) ?_ 0 ⟨rfl, rfl, rfl, by rw [List.take_zero]; rfl, dj _, dj _⟩
 rintro i E _ T ⟨rfl, e1, e4, e3, hi, h20⟩
 have fin : (gas.length <= i ∨ i = 20) -> (decide ((gas.length : Int) <= 12) && decide (((p.main.sz + szL ((p.gs.take i).map (·.2)) : Nat) : Int) <= 200)) = p.Mb := fun h => by
  rw [Pr.Mb, hszs]
  rcases h with h | h
  ·rw [au (by omega)]
   congr 1 <;> rw [decide_eq_decide] <;> omega
  ·have e1 : decide ((gas.length : Int) <= 12) = false := by simp; omega
   have e2 : decide (p.gs.length <= 12) = false := by simp; omega
   rw [e1, e2, ei, ei]
 rcases di i gas.length with hlt | hge
 ·have hdec : decide ((i : Int) < gas.length) = true := by simpa using hlt
  rcases di i 20 with h8' | h8'
  ·have hd8 : decide ((i : Int) < 20) = true := by simp; omega
   obtain ⟨g, _, d0, d1, d3, d4, ⟨c2, rfl, hns, hg⟩⟩ := h3.at hlt
   obtain ⟨c3, e, q1, q2⟩ := kc.cells hg
   cases e
   have q3 : c2.take 5 = c2 := au (by omega)
   have hsg : g.2.sz <= szL (p.gs.map (·.2)) := Dx (List.mem_map_of_mem (f := (·.2)) d3)
   obtain ⟨_, rfl, cs⟩ := (C2 g.2 hg).call rfl (by simp [fq, ga, ll _ hg])
   rw [O3 _ (by omega)] at cs
   have hp' := nz i
   have hw : IntKind.i64.wrap (((p.main.sz + szL ((p.gs.take i).map (·.2)) : Nat) : Int) + ((g.2.sz : Nat) : Int)) = ((p.main.sz + szL ((p.gs.take (i + 1)).map (·.2)) : Nat) : Int) := by
    rw [bj, d0, List.map_append, mv]
    simp only [Option.toList, bq, List.map_nil, szL]
    rw [jf (by unfold mh; omega)]; omega
   simp only [↓fh, wall, simprocAttr, wH, e1, e3, e4, hdec, hd8, d4, h10, q1, q2, q3, cs, hw]
   exact je ⟨i + 1, by omega, rfl, e1, il (by omega), rfl, by omega, by omega⟩
  ·have hd8 : decide ((i : Int) < 20) = false := by simp; omega
   rw [<- fin (.inr (by omega))]
   cases q1 : decide ((gas.length : Int) <= 12) <;> simp only [↓fh, wall, simprocAttr, wH, e1, e3, e4, hdec, hd8, q1, ei, Bool.true_and]
 ·have hdec : decide ((i : Int) < gas.length) = false := by simpa using hge
  rw [<- fin (.inl (by omega))]
  cases q1 : decide ((gas.length : Int) <= 12) <;> simp only [↓fh, wall, simprocAttr, wH, e1, e3, e4, hdec, q1, ei, Bool.true_and]
end
end Go.Proofs.Eng
namespace Go.Proofs.Eng
open Go Go.Proofs Go.RowKit
set_option maxRecDepth 100000
def Nq : Option (jr × ASt) -> Bool
 | some (.ret (.v (.bool true)), _) => true
 | _ => false
theorem Pp : Nq (qg md pfs 200 11 [] ⟨[], []⟩) = true := by kernel_rfl
theorem P7 : Out md pfs 11 [] (· = .bool true) fun _ => False := by
 have h := Pp
 cases hc : qg md pfs 200 11 [] ⟨[], []⟩ with
 | none => rw [hc] at h; cases h
 | some r =>
  obtain ⟨o, s⟩ := r
  rw [hc] at h
  unfold Nq at h
  split at h
  ·rename_i s' e
   simp only [fc, fe] at e
   obtain ⟨rfl, rfl⟩ := e
   exact ⟨_, _, .ret (.bool true), Vn hc, rfl, rfl⟩
  ·cases h
end Go.Proofs.Eng
namespace Go.Proofs.Eng
open Go Go.Proofs
set_option maxRecDepth 100000
set_option maxHeartbeats 16000000
theorem Qo {p : Pr} {pa : AV} (hp : p.Is pa) (hs : szL p.es <= 1048576) {i j : Int} (hi : 0 <= i) (hi2 : i < 256) (hj : 0 <= j) (hj2 : j < 256) : Out md pfs 5 [pa, .v (.int .u8 i), .v (.int .u8 j)] (· = .bool true) fun _ => False := by
 obtain ⟨a, rfl⟩ := Int.eq_ofNat_of_zero_le hi
 obtain ⟨b, rfl⟩ := Int.eq_ofNat_of_zero_le hj
 have hpu : fy [pa] = true := by simp [fq, ga, w8 hp]
 obtain ⟨_, rfl, cf⟩ := (Dt hp hs).call rfl hpu
 obtain ⟨_, rfl, cc⟩ := (N1 hp).call rfl hpu
 obtain ⟨_, rfl, ca⟩ := P7.call rfl rfl
 obtain ⟨gas, tg, cp, rfl, h1, h2, h3, h4, h5, h6, h7, h8, h9, h10⟩ := id hp
 refine ir pf5_is (dg rfl) ?_
 cases hf : p.Mb
 ·rw [hf] at cf
  simp only [pf5, ↓fh, wall, simprocAttr, wH, h5, h6, h7, cf, ca]
 rw [hf] at cf
 cases hz : (p.check == 0)
 ·have hne : (p.check != 0) = true := by simp [bne, hz]
  simp only [pf5, ↓fh, wall, simprocAttr, wH, h5, h6, h7, cf, cc, ca, hne]
 have hz' : p.check = 0 := by simpa using hz
 rw [hz'] at cc
 obtain ⟨hP, b1, b2, b3, b4, b5, b6⟩ := Ny hf hz'
 obtain ⟨Z, hC⟩ := Ja b3
 have hsz : (m4 p).bd (m4 p).bl.length <= 400000 := by rw [a1t]; omega
 obtain ⟨_, ⟨H1, V1⟩, ⟨m, rfl, _, _, hM⟩, cm⟩ := (Kt hp hf hz' [.cells false (.sl gas tg :: cp)] []).call rfl
 obtain ⟨_, ⟨H2, V2⟩, ⟨F2, sa2, fa2, s2, ⟨hs2, rfl⟩, hM2, hF2, _⟩, cr⟩ := (Nt (V := V1) hC hsz a hM (fun _ _ h => by cases h) (F0 hC) (by show 0 + a <= _; omega) (by show 0 + a <= _; omega)).call rfl
 obtain ⟨q1, q2, q3, q4⟩ := Er hC a (F0 hC) (by show 0 + a <= _; omega)
 rw [<- hs2] at q1 q2 q3 q4
 rw [show Ms.start.steps = 0 from rfl, dk] at q2 q3
 rw [show Ms.start.stack.length = 0 from rfl, dk] at q4
 obtain ⟨_, _, ⟨rfl, rfl⟩, cs⟩ := (F7 (V := V2) hM2).call rfl
 obtain ⟨_, _, ⟨rfl, rfl⟩, cd⟩ := (G9 (V := V2) hM2).call rfl
 have hwn : IntKind.i64.wrap (-1 - ((b : Nat) : Int)) = -1 - ((b : Nat) : Int) := jf (by unfold mh; omega)
 obtain ⟨_, _, ⟨rfl, rfl⟩, cn⟩ := (Mm (i := -1 - ((b : Nat) : Int)) (by omega) H2 V2 m).call rfl
 obtain ⟨_, ⟨H3, V3⟩, ⟨F3, sa3, fa3, s3, ⟨hs3, rfl⟩, hM3, hF3, _⟩, ct⟩ := (Nt (V := V2) hC hsz b hM2 hF2 q1 (by omega) (by omega)).call rfl
 obtain ⟨r1, r2, r3, r4⟩ := Er hC b q1 (by omega)
 rw [<- hs3] at r1 r2 r3 r4
 obtain ⟨_, _, ⟨rfl, rfl⟩, cs3⟩ := (F7 (V := V3) hM3).call rfl
 obtain ⟨_, _, ⟨rfl, rfl⟩, cd3⟩ := (G9 (V := V3) hM3).call rfl
 have hwa : IntKind.i64.wrap ((a : Nat) : Int) = (a : Nat) := jf (by unfold mh; omega)
 have hwb : IntKind.i64.wrap ((b : Nat) : Int) = (b : Nat) := jf (by unfold mh; omega)
 have hws : IntKind.i64.wrap (((s2.steps : Nat) : Int) + ((b : Nat) : Int)) = ((s2.steps + b : Nat) : Int) := (jf (by unfold mh; omega)).trans (by omega)
 cases hg : s2.go
 ·have e : s3 = s2 := by rw [hs3, K8 hg]
  subst e
  have hle : decide (((s3.steps : Nat) : Int) <= ((a : Nat) : Int)) = true := by simpa using q2
  cases hh : s3.halted <;> cases he : (s3.err == 0)
  ·simp only [hh, he, ei, Bool.and_true, ej] at cr ct
   simp only [pf5, ↓fh, wall, simprocAttr, wH, h5, h6, h7, cf, cc, ca, cm, cr, cs, cd, cn, ct, cs3, cd3, hwa, hwb, hwn, he, hle]
  ·rw [Ms.go, hh, he] at hg; cases hg
  ·simp only [hh, he, ei, Bool.and_true, ej] at cr ct
   simp only [pf5, ↓fh, wall, simprocAttr, wH, h5, h6, h7, cf, cc, ca, cm, cr, cs, cd, cn, ct, cs3, cd3, hwa, hwb, hwn, he, hle]
  ·simp only [hh, he, ei, Bool.and_true, ej] at cr ct
   simp only [pf5, ↓fh, wall, simprocAttr, wH, h5, h6, h7, cf, cc, ca, cm, cr, cs, cd, cn, ct, cs3, cd3, hwa, hwb, hwn, he, hle]
 ·have hh : s2.halted = false := by rw [Ms.go] at hg; simp at hg; exact hg.1
  have he : (s2.err == 0) = true := by rw [Ms.go] at hg; simp at hg; simp [hg.2]
  have hq : (((s2.steps : Nat) : Int) == ((a : Nat) : Int)) = true := by have := q3 hg; simp; omega
  have hle : decide (((s3.steps : Nat) : Int) <= ((s2.steps + b : Nat) : Int)) = true := by simp; omega
  cases h3h : s3.halted <;> cases h3e : (s3.err == 0)
  ·have hne : (s3.err != 0) = true := by simp [bne, h3e]
   simp only [hh, he, h3h, h3e, ei, Bool.and_true, ej] at cr ct
   simp only [pf5, ↓fh, wall, simprocAttr, wH, h5, h6, h7, cf, cc, ca, cm, cr, cs, cd, cn, ct, cs3, cd3, hwa, hwb, hwn, hws, he, hq, hle, h3e, hne]
  ·have hne : (s3.err != 0) = false := by simp [bne, h3e]
   have hq3 : (((s3.steps : Nat) : Int) == ((s2.steps + b : Nat) : Int)) = true := by have := r3 (by rw [Ms.go, h3h, h3e]; rfl); simp; omega
   simp only [hh, he, h3h, h3e, ei, Bool.and_true, ej] at cr ct
   simp only [pf5, ↓fh, wall, simprocAttr, wH, h5, h6, h7, cf, cc, ca, cm, cr, cs, cd, cn, ct, cs3, cd3, hwa, hwb, hwn, hws, he, hq, hle, h3e, hne, hq3]
  ·have hne : (s3.err != 0) = true := by simp [bne, h3e]
   simp only [hh, he, h3h, h3e, ei, Bool.and_true, ej] at cr ct
   simp only [pf5, ↓fh, wall, simprocAttr, wH, h5, h6, h7, cf, cc, ca, cm, cr, cs, cd, cn, ct, cs3, cd3, hwa, hwb, hwn, hws, he, hq, hle, h3e, hne]
  ·simp only [hh, he, h3h, h3e, ei, Bool.and_true, ej] at cr ct
   simp only [pf5, ↓fh, wall, simprocAttr, wH, h5, h6, h7, cf, cc, ca, cm, cr, cs, cd, cn, ct, cs3, cd3, hwa, hwb, hwn, hws, he, hq, hle, h3e]
end Go.Proofs.Eng
