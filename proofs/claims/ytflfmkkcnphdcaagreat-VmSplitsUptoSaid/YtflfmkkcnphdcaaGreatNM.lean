/- vm.New. No conditions beyond those in the theorems. -/
import Derived.Test.YtflfmkkcnphdcaaGreatK4
import Derived.Test.YtflfmkkcnphdcaaGreatG5
import Derived.Test.YtflfmkkcnphdcaaGreatG4
import Derived.Test.YtflfmkkcnphdcaaGreatRows
set_option linter.all false
set_option linter.deprecated false
set_option linter.unnecessarySimpa false
set_option linter.unusedVariables false
set_option linter.unusedSimpArgs false
set_option linter.defProp false
namespace Go.Proofs.Eng
open Go Go.Proofs
set_option maxRecDepth 100000
set_option maxHeartbeats 16000000
theorem Jr {S : List Int} {b : Nat} (h : b < S.length) : (ints S)[b]? = some (.int (S.getD b 0)) := by
 have := aa h
 rw [ints, bh, List.getD, this]; rfl
theorem Fx {S : List Int} {b : Nat} {v : Int} (h : b < S.length) : (ints S).take b ++ .v (.int .i64 v) :: (ints S).drop (b + 1) = ints (S.set b v) := by
 simp only [ints, List.map_set]
 rw [List.set_eq_take_append_cons_drop, if_pos (by simpa using h)]
section
variable {ki si q : Nat} {Bs : List AV} {t1 t2 t3 : Tl} {c : Cd} {S : List Int} {H : List fp} {V : List Nat}
theorem Ky (h : KS ki si Bs t1 t2 t3 c S H) {n : Nat} {env st bi br : Int} (hq : H[q]? = some (.cells false [.int n, .int env, .int st, .int bi, .int br])) {b : Int} {m : Int} (h0 : 0 <= b) (h1 : b < c.bl.length) (hw : mg (env + m)) :
  Sh md pfs 168 [.ptr ki 0, .ptr q 0, .int b, .int m] ⟨H, V⟩ (λ v s => match yc n S b (env + m) with | .error e => v = .int e /\ s = ⟨H, V⟩ | .ok S' => v = .int 0 /\ s = ⟨H.set si (.cells false (ints S')), V⟩) λ _ _ => False := by
 obtain ⟨b, rfl⟩ : ∃ k : Nat, b = k := ⟨b.toNat, by omega⟩
 have hk := h.k
 have hs := h.s
 have hlt : b < S.length := by rw [h.sl]; omega
 have hb : (List.drop b (ints S)).head? = some (.int (S.getD b 0)) := by rw [List.head?_drop]; exact Jr hlt
 have hbs : (b : Int) < ((ints S).length : Nat) := by rw [gr]; omega
 have hset := Fx (v := env + m) hlt
 have hlb : (b : Int) < c.bl.length := h1
 rw [yc]
 simp only [eu]
 cases d1 : decide (S.getD b 0 >= 0)
 ·rw [if_neg (by simpa using d1)]
  cases d2 : decide ((b : Int) <= (n : Nat))
  ·rw [if_neg (by simpa using d2)]
   refine jz pf168_is (dg rfl) ?_
   simp only [pf168, ↓fh, wall, simprocAttr, wH, hk, hs, hq, Nat.mul_one, hb, hbs, hlb, d1, d2, hset, jd hw]
   rw [gr]; omega
  ·rw [if_pos (by simpa using d2)]
   refine jz pf168_is (dg rfl) ?_
   simp only [pf168, ↓fh, wall, simprocAttr, wH, hk, hs, hq, Nat.mul_one, hb, hbs, hlb, d1, d2]
 ·rw [if_pos (by simpa using d1)]
  refine jz pf168_is (dg rfl) ?_
  simp only [pf168, ↓fh, wall, simprocAttr, wH, hk, hs, hq, Nat.mul_one, hb, hbs, hlb, d1]
theorem KS.enter (h : KS ki si Bs t1 t2 t3 c S H) {S' : List Int} (hl : S'.length = S.length) : KS ki si Bs t1 t2 t3 c S' (H.set si (.cells false (ints S'))) :=
 ⟨pn h.k h.ne.symm, by rw [b9, if_pos rfl, if_pos (fy h.s)], hl.trans h.sl, h.ne, h.bl, h.p1, h.gl⟩
theorem Si (h : KS ki si Bs t1 t2 t3 c S H) {n : Nat} {env st bi br : Int} (hq : H[q]? = some (.cells false [.int n, .int env, .int st, .int bi, .int br])) (x : Ins) (h0 : x.op = 1 \/ x.op = 6 -> 0 <= x.a /\ x.a < c.bl.length) (hw1 : mg (env + 1)) (hw : x.op = 6 -> mg (env + x.b)) :
  Sh md pfs 140 [.ptr ki 0, .ptr q 0, x.av] ⟨H, V⟩ (λ v s => match sx n x ⟨S, env, st, bi, br⟩ with | .error e => v = .int e /\ ∃ G, s = ⟨H ++ G, V⟩ | .ok S' => v = .int 0 /\ S'.length = S.length /\ ∃ G, s = ⟨(H ++ G).set si (.cells false (ints S')), V⟩) λ _ _ => False := by
 obtain ⟨op, a, b, nm⟩ := x
 simp only at h0 hw
 have hA := h.app [.cells false [.int op, .int a, .int b, .str nm]]
 have hqA := gz hq [fp.cells false [.int op, .int a, .int b, .str nm]]
 have hop : op = 1 \/ op = 6 \/ op = 0 \/ ((op == 1) = false /\ (op == 6) = false /\ (op == 0) = false) := by
  simp only [beq_eq_false_iff_ne]; omega
 have hsS : (H ++ [fp.cells false [.int op, .int a, .int b, .str nm]]).set si (.cells false (ints S)) = H ++ [fp.cells false [.int op, .int a, .int b, .str nm]] := by
  apply List.ext_getElem?
  intro k
  by_cases hk : si = k
  ·subst hk; rw [b9, if_pos rfl, if_pos (fy hA.s)]; exact hA.s.symm
  ·rw [b9, if_neg hk]
 have hent : ∀ {b' m S'}, yc n S b' m = .ok S' -> S'.length = S.length := λ {b' m S'} e => by
  unfold yc at e
  split at e
  ·cases e
  ·split at e
   ·cases e
   ·cases e; simp
 rw [sx]
 rcases hop with rfl | rfl | rfl | ⟨o1, o6, o0⟩
 ·rw [if_pos rfl]
  obtain ⟨v, s, hp, hc⟩ := (Ky (V := V) hA hqA (h0 (.inl rfl)).1 (h0 (.inl rfl)).2 hw1).sy rfl
  simp only
  refine jz pf140_is (dg rfl) ?_
  cases he : yc n S a (env + 1) with
  | error e =>
   rw [he] at hp
   obtain ⟨rfl, rfl⟩ := hp
   simp only [pf140, Ins.av, ↓fh, wall, simprocAttr, wH, hc]
   exact ⟨_, rfl⟩
  | ok S' =>
   rw [he] at hp
   obtain ⟨rfl, rfl⟩ := hp
   simp only [pf140, Ins.av, ↓fh, wall, simprocAttr, wH, hc]
   exact ⟨hent he, _, rfl⟩
 ·rw [if_neg (by simp), if_pos rfl]
  obtain ⟨v, s, hp, hc⟩ := (Ky (V := V) hA hqA (h0 (.inr rfl)).1 (h0 (.inr rfl)).2 (hw rfl)).sy rfl
  simp only
  refine jz pf140_is (dg rfl) ?_
  cases he : yc n S a (env + b) with
  | error e =>
   rw [he] at hp
   obtain ⟨rfl, rfl⟩ := hp
   simp only [pf140, Ins.av, ↓fh, wall, simprocAttr, wH, hc]
   exact ⟨_, rfl⟩
  | ok S' =>
   rw [he] at hp
   obtain ⟨rfl, rfl⟩ := hp
   simp only [pf140, Ins.av, ↓fh, wall, simprocAttr, wH, hc]
   exact ⟨hent he, _, rfl⟩
 ·rw [if_neg (by simp), if_neg (by simp)]
  cases d : decide (a >= env)
  ·rw [if_neg (by simpa using d)]
   refine jz pf140_is (dg rfl) ?_
   simp only [pf140, Ins.av, ↓fh, wall, simprocAttr, wH, hqA, d]
   exact ⟨_, by rw [hsS]⟩
  ·rw [if_pos (by simpa using d)]
   refine jz pf140_is (dg rfl) ?_
   simp only [pf140, Ins.av, ↓fh, wall, simprocAttr, wH, hqA, d]
   exact ⟨_, rfl⟩
 ·rw [if_neg (by simpa using o1), if_neg (by simpa using o6), if_neg (by rintro ⟨h, _⟩; exact ne_of_beq_false o0 h)]
  refine jz pf140_is (dg rfl) ?_
  simp only [pf140, Ins.av, ↓fh, wall, simprocAttr, wH, o1, o6, o0]
  exact ⟨_, by rw [hsS]⟩
theorem Nf {n : Nat} {env st bi br : Int} (hq : H[q]? = some (.cells false [.int n, .int env, .int st, .int bi, .int br])) (x : Ins) (rest : List Ins) (h0 : 0 <= x.op) (h1 : x.op <= 14) (hb : 0 <= x.b) (hst : 0 <= st /\ st <= B62) (hbi : 0 <= bi /\ bi <= B62) (hen : -B62 <= env /\ env <= B62) (hbr : 0 <= br /\ br <= B62) :
  Sh md pfs 141 [.ptr q 0, x.av, .bool rest.isEmpty] ⟨H, V⟩ (λ v s => match Bm x rest S ⟨S, env, st, bi, br⟩ with | .error e => v = .int e /\ ∃ H', s = ⟨H', V⟩ | .ok t => v = .int 0 /\ t.S = S /\ ∃ G, s = ⟨(H ++ G).set q (.cells false [.int n, .int t.env, .int t.stack, .int t.binds, .int t.br]), V⟩) λ _ _ => False := by
 obtain ⟨op, a, b, nm⟩ := x
 simp only at h0 h1 hb
 have hB : B62 = 4611686018427387904 := rfl
 have hqA := gz hq [fp.cells false [.int op, .int a, .int b, .str nm]]
 obtain ⟨_, rfl, ce⟩ := (Nr ⟨op, a, b, nm⟩ h0 h1).call rfl (by simp [ft, gg, ku, Ins.av, m5])
 simp only [Ins.av] at ce
 have hpp : 0 <= jo ⟨op, a, b, nm⟩ /\ 0 <= ja ⟨op, a, b, nm⟩ /\ ja ⟨op, a, b, nm⟩ <= 1 := by
  refine ⟨?_, ?_, ?_⟩
  ·unfold jo; simp only; split
   ·omega
   ·split
    ·exact hb
    ·split <;> omega
  ·unfold ja; split <;> omega
  ·unfold ja; split <;> omega
 obtain ⟨po, hpo⟩ : ∃ po, po = jo ⟨op, a, b, nm⟩ := ⟨_, rfl⟩
 obtain ⟨pu, hpu⟩ : ∃ pu, pu = ja ⟨op, a, b, nm⟩ := ⟨_, rfl⟩
 rw [<- hpo, <- hpu] at ce hpp
 have hex : Bm ⟨op, a, b, nm⟩ rest S ⟨S, env, st, bi, br⟩ = if st < po \/ op = 10 /\ bi = 0 then .error 27 else if (op == 3) != rest.isEmpty then .error 3 else if op = 3 /\ (st - po + pu ≠ 1 \/ jx ⟨op, a, b, nm⟩ bi ≠ 0) then .error 27 else .ok ⟨S, jx ⟨op, a, b, nm⟩ env, st - po + pu, jx ⟨op, a, b, nm⟩ bi, brI ⟨op, a, b, nm⟩ br⟩ := by rw [hpo, hpu]; rfl
 rw [hex]
 clear hex
 have hqs : ∀ Y, ((H ++ [fp.cells false [.int op, .int a, .int b, .str nm]]).set q Y)[q]? = some Y := λ Y => by rw [b9, if_pos rfl, if_pos (fy hqA)]
 have hlq := fy hq
 have hxs : ∀ Y, ((H ++ [fp.cells false [.int op, .int a, .int b, .str nm]]).set q Y)[H.length]? = some (fp.cells false [.int op, .int a, .int b, .str nm]) := λ Y => by rw [b9, if_neg (by omega)]; simp
 have SS : ∀ (Y Z : fp), ((H ++ [fp.cells false [.int op, .int a, .int b, .str nm]]).set q Y).set q Z = (H ++ [fp.cells false [.int op, .int a, .int b, .str nm]]).set q Z := λ Y Z => List.set_set ..
 have hm : (if br - 1 > 0 then br - 1 else 0) = max 0 (br - 1) := by split <;> omega
 have w1 : IntKind.i64.wrap (br - 1) = br - 1 := jd (by unfold mg; omega)
 obtain ⟨l, hl⟩ : ∃ l, l = rest.isEmpty := ⟨_, rfl⟩
 rw [<- hl]
 refine jz pf141_is (dg rfl) ?_
 cases d1 : decide (st < po)
 case true =>
  rw [if_pos (.inl (by simpa using d1))]
  cases h5 : (op == 5)
  all_goals
   simp only [pf141, Ins.av, ↓fh, wall, simprocAttr, wH, hqA, hqs, hxs, hm, w1, ce, d1, h5, SS, show ((false : Bool) == true) = false from rfl, show ((true : Bool) == false) = false from rfl, dy, dz]
   exact ⟨_, rfl⟩
 have d1' : ¬ st < po := by simpa using d1
 have w2 : IntKind.i64.wrap (pu - po) = pu - po := jd (by unfold mg; omega)
 have w3 : IntKind.i64.wrap (st + (pu - po)) = st - po + pu := by rw [jd (by unfold mg; omega)]; omega
 have hop : op = 5 \/ op = 9 \/ op = 10 \/ op = 3 \/ ((op == 5) = false /\ (op == 9) = false /\ (op == 10) = false /\ (op == 3) = false) := by
  simp only [beq_eq_false_iff_ne]; omega
 generalize hz : st - po + pu = z at w3
 rcases hop with rfl | rfl | rfl | rfl | ⟨o5, o9, o10, o3⟩
 ·rw [if_neg (by omega)]
  cases l
  ·rw [if_neg (by decide), if_neg (by omega)]
   simp only [pf141, Ins.av, ↓fh, wall, simprocAttr, wH, hqA, hqs, hxs, hm, w1, w2, w3, ce, d1, SS, show ((false : Bool) == true) = false from rfl, show ((true : Bool) == false) = false from rfl, dy, dz]
   first | exact ⟨_, rfl⟩ | exact ⟨trivial, _, rfl⟩
  ·rw [if_pos (by decide)]
   simp only [pf141, Ins.av, ↓fh, wall, simprocAttr, wH, hqA, hqs, hxs, hm, w1, w2, w3, ce, d1, SS, show ((false : Bool) == true) = false from rfl, show ((true : Bool) == false) = false from rfl, dy, dz]
   exact ⟨_, rfl⟩
 ·have w4 : IntKind.i64.wrap (env + 1) = env + 1 := jd (by unfold mg; omega)
  have w5 : IntKind.i64.wrap (bi + 1) = bi + 1 := jd (by unfold mg; omega)
  rw [if_neg (by omega)]
  cases l
  ·rw [if_neg (by decide), if_neg (by omega)]
   simp only [pf141, Ins.av, ↓fh, wall, simprocAttr, wH, hqA, hqs, hxs, hm, w1, w2, w3, w4, w5, ce, d1, SS, show ((false : Bool) == true) = false from rfl, show ((true : Bool) == false) = false from rfl, dy, dz]
   first | exact ⟨_, rfl⟩ | exact ⟨trivial, _, rfl⟩
  ·rw [if_pos (by decide)]
   simp only [pf141, Ins.av, ↓fh, wall, simprocAttr, wH, hqA, hqs, hxs, hm, w1, w2, w3, w4, w5, ce, d1, SS, show ((false : Bool) == true) = false from rfl, show ((true : Bool) == false) = false from rfl, dy, dz]
   exact ⟨_, rfl⟩
 ·have w4 : IntKind.i64.wrap (env - 1) = env - 1 := jd (by unfold mg; omega)
  have w5 : IntKind.i64.wrap (bi - 1) = bi - 1 := jd (by unfold mg; omega)
  cases d2 : (bi == 0)
  ·have d2' := ne_of_beq_false d2
   rw [if_neg (by omega)]
   cases l
   ·rw [if_neg (by decide), if_neg (by omega)]
    simp only [pf141, Ins.av, ↓fh, wall, simprocAttr, wH, hqA, hqs, hxs, hm, w1, w2, w3, w4, w5, ce, d1, d2, SS, show ((false : Bool) == true) = false from rfl, show ((true : Bool) == false) = false from rfl, dy, dz]
    first | exact ⟨_, rfl⟩ | exact ⟨trivial, _, rfl⟩
   ·rw [if_pos (by decide)]
    simp only [pf141, Ins.av, ↓fh, wall, simprocAttr, wH, hqA, hqs, hxs, hm, w1, w2, w3, w4, w5, ce, d1, d2, SS, show ((false : Bool) == true) = false from rfl, show ((true : Bool) == false) = false from rfl, dy, dz]
    exact ⟨_, rfl⟩
  ·have d2' := eq_of_beq d2
   rw [if_pos (.inr ⟨rfl, d2'⟩)]
   simp only [pf141, Ins.av, ↓fh, wall, simprocAttr, wH, hqA, hqs, hxs, hm, w1, w2, w3, ce, d1, d2, SS, show ((false : Bool) == true) = false from rfl, show ((true : Bool) == false) = false from rfl, dy, dz]
   exact ⟨_, rfl⟩
 ·rw [if_neg (by omega)]
  cases l
  ·rw [if_pos (by decide)]
   simp only [pf141, Ins.av, ↓fh, wall, simprocAttr, wH, hqA, hqs, hxs, hm, w1, w2, w3, ce, d1, SS, show ((false : Bool) == true) = false from rfl, show ((true : Bool) == false) = false from rfl, dy, dz]
   exact ⟨_, rfl⟩
  ·rw [if_neg (by decide)]
   cases d3 : (z != 1)
   ·cases d4 : (bi != 0)
    ·have e3 : z = 1 := by simpa [bne] using d3
     have e4 : bi = 0 := by simpa [bne] using d4
     rw [if_neg (λ h => h.2.elim (λ h => h e3) λ h => h e4)]
     simp only [pf141, Ins.av, ↓fh, wall, simprocAttr, wH, hqA, hqs, hxs, hm, w1, w2, w3, ce, d1, d3, d4, SS, show ((false : Bool) == true) = false from rfl, show ((true : Bool) == false) = false from rfl, dy, dz]
     first | exact ⟨_, rfl⟩ | exact ⟨trivial, _, rfl⟩
    ·have e4 : bi ≠ 0 := by simpa [bne] using d4
     rw [if_pos ⟨rfl, .inr e4⟩]
     simp only [pf141, Ins.av, ↓fh, wall, simprocAttr, wH, hqA, hqs, hxs, hm, w1, w2, w3, ce, d1, d3, d4, SS, show ((false : Bool) == true) = false from rfl, show ((true : Bool) == false) = false from rfl, dy, dz]
     exact ⟨_, rfl⟩
   ·have e3 : z ≠ 1 := by simpa [bne] using d3
    rw [if_pos ⟨rfl, .inl e3⟩]
    simp only [pf141, Ins.av, ↓fh, wall, simprocAttr, wH, hqA, hqs, hxs, hm, w1, w2, w3, ce, d1, d3, SS, show ((false : Bool) == true) = false from rfl, show ((true : Bool) == false) = false from rfl, dy, dz]
    exact ⟨_, rfl⟩
 ·have e10 := ne_of_beq_false o10
  have e3 := ne_of_beq_false o3
  have e9 := ne_of_beq_false o9
  have e5 := ne_of_beq_false o5
  have E1 : ∀ v, jx ⟨op, a, b, nm⟩ v = v := λ v => by simp only [jx, if_neg e9, if_neg e10]
  have E2 : brI ⟨op, a, b, nm⟩ br = max 0 (br - 1) := by simp only [brI, if_neg e5]
  rw [if_neg (λ h => h.elim d1' λ h => e10 h.1), o3, E1, E1, E2]
  cases l
  ·rw [if_neg (by decide), if_neg (by rintro ⟨h, _⟩; exact e3 h)]
   simp only [pf141, Ins.av, ↓fh, wall, simprocAttr, wH, hqA, hqs, hxs, hm, w1, w2, w3, ce, d1, o5, o9, o10, o3, SS, show ((false : Bool) == true) = false from rfl, show ((true : Bool) == false) = false from rfl, dy, dz]
   first | exact ⟨_, rfl⟩ | exact ⟨trivial, _, rfl⟩
  ·rw [if_pos (by decide)]
   simp only [pf141, Ins.av, ↓fh, wall, simprocAttr, wH, hqA, hqs, hxs, hm, w1, w2, w3, ce, d1, o5, o9, o10, o3, SS, show ((false : Bool) == true) = false from rfl, show ((true : Bool) == false) = false from rfl, dy, dz]
   exact ⟨_, rfl⟩
end
end Go.Proofs.Eng
namespace Go.Proofs.Eng
open Go Go.Proofs
set_option maxRecDepth 100000
set_option maxHeartbeats 16000000
theorem Oo {nb ng : Nat} {x : Ins} {rest : List Ins} {br : Int} (h : mz nb ng x rest br = 0) : (0 <= x.op /\ x.op <= 14 /\ 0 <= x.a /\ 0 <= x.b) /\ (x.op = 1 \/ x.op = 6 -> x.a < nb) /\ (x.op = 6 -> x.b <= 64) /\ (x.op = 5 -> x.a <= 32) := by
 unfold mz at h
 split at h
 ·omega
 rename_i h1
 split at h
 ·omega
 split at h
 ·omega
 rename_i h3
 have h1 : so x rest br = true := by simpa using h1
 simp only [so, dw, decide_eq_true_eq] at h1
 obtain ⟨⟨⟨⟨⟨⟨⟨⟨a1, a2⟩, a3⟩, a4⟩, _⟩, _⟩, _⟩, _⟩, a5⟩ := h1
 simp only [me, ed, dw, beq_iff_eq, decide_eq_true_eq, not_or, not_and, Int.not_le, Int.not_lt] at h3
 obtain ⟨⟨⟨_, h6⟩, h16⟩, _⟩ := h3
 refine ⟨⟨a1, a2, a3, a4⟩, λ h => h16 h, λ h => h6 h, λ h => ?_⟩
 have h5 : (x.op != 5) = false := by simp [h]
 rw [h5, Bool.false_or, A3] at a5
 simp only [dw, decide_eq_true_eq] at a5
 exact a5.1.1
theorem N9 {nb ng n : Nat} {x : Ins} {rest : List Ins} {t : Sk} {e : Int} (h : stp nb ng n x rest t = .error e) : e ≠ 0 := by
 unfold stp at h
 split at h
 ·rename_i h1
  simp only [Except.error.injEq] at h; rw [<- h]; exact h1
 ·split at h
  ·rename_i h2
   simp only [Except.error.injEq] at h; subst h
   unfold sx yc at h2
   repeat' split at h2
   all_goals first | (simp only [Except.error.injEq] at h2; subst h2; decide) | cases h2
  ·unfold Bm at h
   repeat' split at h
   all_goals first | (simp only [Except.error.injEq] at h; subst h; decide) | cases h
theorem Pt {nb ng n : Nat} {suf : List Ins} : ∀ {l : List Ins} {t : Sk} {e : Int}, l7 nb ng n suf l t = .error e -> e ≠ 0
 | [], t, e, h => by cases h
 | x :: l, t, e, h => by
  rw [l7] at h
  split at h
  ·rename_i e' h1
   simp only [Except.error.injEq] at h; subst h
   exact N9 h1
  ·exact Pt h
def SB (W : Int) (S : List Int) : Prop := ∀ s ∈ S, s <= W
theorem SB.mono {W W' : Int} {S : List Int} (h : SB W S) (hw : W <= W') : SB W' S := λ s hs => Int.le_trans (h s hs) hw
theorem SB.set {W : Int} {S : List Int} (h : SB W S) {k : Nat} {v : Int} (hv : v <= W) : SB W (S.set k v) := λ s hs => by
 rcases List.mem_or_eq_of_mem_set hs with h' | rfl
 ·exact h s h'
 ·exact hv
structure Bd (W : Int) (e0 : Int) (j : Nat) (t : Sk) : Prop where
 st : 0 <= t.stack /\ t.stack <= j
 bi : 0 <= t.binds /\ t.binds <= j
 en : t.env = e0 + t.binds
 br : 0 <= t.br /\ t.br <= 32
 sb : SB (W + 64 + j) t.S
theorem Bd.step {W e0 : Int} {j nb ng n : Nat} {x : Ins} {rest : List Ins} {t t' : Sk} (h : Bd W e0 j t) (h0 : 0 <= e0) (h1 : e0 <= W) (hs : stp nb ng n x rest t = .ok t') : Bd W e0 (j + 1) t' := by
 unfold stp at hs
 split at hs
 ·cases hs
 rename_i hf
 obtain ⟨⟨f1, f2, f3, f4⟩, f5, f6, f7⟩ := Oo (by simpa using hf)
 split at hs
 ·cases hs
 rename_i S' hr
 obtain ⟨⟨s1, s2⟩, ⟨b1, b2⟩, he, ⟨r1, r2⟩, hsb⟩ := h
 have hS' : SB (W + 64 + (j + 1 : Nat)) S' := by
  unfold sx at hr
  have hsb' := hsb.mono (W' := W + 64 + (j + 1 : Nat)) (by omega)
  have hent : ∀ {b m}, yc n t.S b m = .ok S' -> m <= W + 64 + (j + 1 : Nat) -> SB (W + 64 + (j + 1 : Nat)) S' := λ {b m} e hm => by
   unfold yc at e
   split at e
   ·cases e
   ·split at e
    ·cases e
    ·cases e; exact hsb'.set hm
  split at hr
  ·exact hent hr (by omega)
  ·split at hr
   ·rename_i h6
    have := f6 h6
    exact hent hr (by omega)
   ·split at hr
    ·cases hr
    ·cases hr; exact hsb'
 unfold Bm at hs
 split at hs
 ·cases hs
 rename_i g1
 split at hs
 ·cases hs
 split at hs
 ·cases hs
 simp only [Except.ok.injEq] at hs
 subst hs
 have g2 : ¬ t.stack < jo x := λ h => g1 (.inl h)
 have g3 : ¬ (x.op = 10 /\ t.binds = 0) := λ h => g1 (.inr h)
 have hp : 0 <= jo x := by unfold jo; repeat' split <;> omega
 have hq : 0 <= ja x /\ ja x <= 1 := by unfold ja; split <;> omega
 refine ⟨⟨by simp only; omega, by simp only; omega⟩, ?_, ?_, ?_, hS'⟩
 ·simp only [jx]
  split
  ·omega
  ·split
   ·rename_i h10
    have : t.binds ≠ 0 := λ h => g3 ⟨h10, h⟩
    omega
   ·omega
 ·simp only [jx]
  split
  ·omega
  ·split <;> omega
 ·simp only [brI]
  split
  ·rename_i h5; exact ⟨f3, f7 h5⟩
  ·omega
def I9 (nb ng n : Nat) (l : List Ins) (S : List Int) : Except Int (List Int) := if S.getD n 0 < 0 then .error 9 else if l = [] then .error 3 else match l7 nb ng n [] l ⟨S, S.getD n 0, 0, 0, 0⟩ with
 | .error e => .error e
 | .ok t => .ok t.S
theorem a1g (nb ng n : Nat) (l : List Ins) (r : List (List Ins)) (S : List Int) : goB nb ng n (l :: r) S = match I9 nb ng n l S with
  | .error e => e
  | .ok S' => goB nb ng (n + 1) r S' := by
 rw [goB, I9]
 split
 ·rfl
 ·split
  ·rfl
  ·cases l7 nb ng n [] l ⟨S, S.getD n 0, 0, 0, 0⟩ <;> rfl
theorem Zu {nb ng n : Nat} {l : List Ins} {S : List Int} {e : Int} (h : I9 nb ng n l S = .error e) : e ≠ 0 := by
 unfold I9 at h
 split at h
 ·simp only [Except.error.injEq] at h; subst h; decide
 ·split at h
  ·simp only [Except.error.injEq] at h; subst h; decide
  ·split at h
   ·rename_i h1
    simp only [Except.error.injEq] at h; subst h
    exact Pt h1
   ·cases h
theorem Pk {W e0 : Int} {nb ng n : Nat} (h0 : 0 <= e0) (h1 : e0 <= W) : ∀ {l : List Ins} {j : Nat} {t t' : Sk}, Bd W e0 j t -> l7 nb ng n [] l t = .ok t' -> Bd W e0 (j + l.length) t'
 | [], j, t, t', h, e => by cases e; exact h
 | x :: l, j, t, t', h, e => by
  rw [l7] at e
  split at e
  ·cases e
  ·rename_i t1 h2
   have := Pk h0 h1 (h.step h0 h1 h2) e
   rw [ak, show j + (l.length + 1) = j + 1 + l.length from by omega]; exact this
theorem a06 {W : Int} {nb ng n : Nat} {l : List Ins} {S S' : List Int} (hS : SB W S) (hW : 0 <= W) (h : I9 nb ng n l S = .ok S') : SB (W + 64 + l.length) S' := by
 unfold I9 at h
 split at h
 ·cases h
 rename_i h1
 split at h
 ·cases h
 split at h
 ·cases h
 rename_i t h2
 cases h
 have h3 : S.getD n 0 <= W := by
  rw [List.getD]
  cases hg : S[n]? with
  | none => simpa using hW
  | some v => exact hS v (aq hg)
 have := Pk (j := 0) (W := W) (e0 := S.getD n 0) (by omega) h3 ⟨⟨by simp, by simp⟩, ⟨by simp, by simp⟩, by simp, ⟨by simp, by simp⟩, hS.mono (by show W <= W + 64 + ((0 : Nat) : Int); omega)⟩ h2
 simpa using this.sb
end Go.Proofs.Eng
namespace Go.Proofs.Eng
open Go Go.Proofs
set_option maxRecDepth 100000
set_option maxHeartbeats 16000000
theorem KS.set {ki si q : Nat} {Bs : List AV} {t1 t2 t3 : Tl} {c : Cd} {S : List Int} {H : List fp} (h : KS ki si Bs t1 t2 t3 c S H) {o : fp} (h1 : q ≠ ki) (h2 : q ≠ si) : KS ki si Bs t1 t2 t3 c S (H.set q o) :=
 ⟨pn h.k h1, pn h.s h2, h.sl, h.ne, h.bl, h.p1, h.gl⟩
section
variable {ki si : Nat} {Bs : List AV} {t1 t2 t3 : Tl} {c : Cd} {S : List Int} {H : List fp} {V : List Nat}
theorem Rs (h : KS ki si Bs t1 t2 t3 c S H) {n : Nat} {l : List Ins} (hn : c.bl[n]? = some l) (hnm : ∀ x ∈ l, x.n.size <= j7) {W : Int} (hS : SB W S) (hW : 0 <= W) (hWl : W + l.length <= 1000000000000000000) :
  Sh md pfs 89 [.ptr ki 0, .int n] ⟨H, V⟩ (λ v s => match I9 c.bl.length c.gl.length n l S with | .error e => v = .int e /\ ∃ H', s = ⟨H', V⟩ | .ok S' => v = .int 0 /\ ∃ H', s = ⟨H', V⟩ /\ KS ki si Bs t1 t2 t3 c S' H' /\ S'.length = S.length) λ _ _ => False := by
 have hB : B62 = 4611686018427387904 := rfl
 have hk := h.k
 have hs := h.s
 have hBl := h.bl.len
 have hnl : n < c.bl.length := (List.getElem?_eq_some_iff.1 hn).1
 obtain ⟨l', a, d0, _, _, d4, ⟨tb, rfl, htb, hll⟩⟩ := h.bl.at (i := n) (by omega)
 rw [hn] at d0; cases d0
 have hnS : n < S.length := by rw [h.sl]; exact hnl
 have hSn : (List.drop n (ints S)).head? = some (.int (S.getD n 0)) := by rw [List.head?_drop]; exact Jr hnS
 have hnB : (n : Int) < Bs.length := by omega
 have hnC : (n : Int) < c.bl.length := by omega
 have hallB : (Bs.all λ x => x.cells.length == 1) = true := aw.2 λ y hy => by
  obtain ⟨q, hq⟩ := List.mem_iff_getElem?.1 hy
  obtain ⟨b, a, _, _, _, e4, ⟨t, rfl, _⟩⟩ := h.bl.at (i := q) (List.getElem?_eq_some_iff.1 hq).1
  rw [hq] at e4; cases e4; rfl
 have hkl := fy hk
 have hsl := fy hs
 refine jz pf89_is (dg rfl) ?_
 rw [I9]
 cases d1 : decide (S.getD n 0 < 0)
 case true =>
  rw [if_pos (by simpa using d1)]
  simp only [pf89, ↓fh, wall, simprocAttr, wH, hk, hs, hnB, hnC, d4, hallB, Nat.mul_one, hSn, d1]
  exact ⟨_, rfl⟩
 rw [if_neg (by simpa using d1)]
 have d1' : ¬ S.getD n 0 < 0 := by simpa using d1
 cases d2 : (((l.length : Nat) : Int) == 0)
 case true =>
  have : l = [] := by have := eq_of_beq d2; exact List.length_eq_zero_iff.1 (by omega)
  rw [if_pos this]
  simp only [pf89, ↓fh, wall, simprocAttr, wH, hk, hs, hnB, hnC, d4, hallB, Nat.mul_one, hSn, jc, d1, d2]
  exact ⟨_, rfl⟩
 have d2' : l.length ≠ 0 := by have := ne_of_beq_false d2; omega
 rw [if_neg (λ e => d2' (by rw [e]; rfl))]
 generalize hS0 : S.getD n 0 = e0 at *
 have he0 : e0 <= W := by
  rw [<- hS0, List.getD, aa hnS]; exact hS _ (List.getElem_mem hnS)
 generalize hR : l7 c.bl.length c.gl.length n [] l ⟨S, e0, 0, 0, 0⟩ = R
 simp only [pf89, ↓fh, wall, simprocAttr, wH, hk, hs, hnB, hnC, d4, hallB, Nat.mul_one, hSn, jc, d1, d2]
 refine iq (λ j => l.length - j) (λ j E H1 V1 => j <= l.length /\ V1 = V /\ E 0 = .ptr ki 0 /\ E 6 = .ptr H.length 0 /\ E 5 = .sl (jk l) tb /\ E 41 = .sl (jk l) tb /\ E 42 = .int l.length /\ E 43 = .int j /\ ∃ t : Sk, KS ki si Bs t1 t2 t3 c t.S H1 /\ t.S.length = S.length /\ Bd W e0 j t /\ H1[H.length]? = some (.cells false [.int n, .int t.env, .int t.stack, .int t.binds, .int t.br]) /\ l7 c.bl.length c.gl.length n [] (l.drop j) t = R) ?_ 0 ?_
 ·rintro j E H1 V1 ⟨hj, rfl, e0', e6, e5, e41, e42, e43, t, k1, k2, k3, k4, k5⟩
  rcases di j l.length with hlt | hge
  ·have hdec : decide ((j : Int) < l.length) = true := by simpa using hlt
   obtain ⟨x, x0, x4⟩ := Pa hlt
   have hdr : l.drop j = x :: l.drop (j + 1) := by
    obtain ⟨h, rfl⟩ := List.getElem?_eq_some_iff.1 x0
    exact bx h
   rw [hdr, l7, List.append_nil] at k5
   obtain ⟨t', ht', hsu⟩ := Qq (es := 4) (al := jk l) htb (n := j + 1) (m := l.length) (by omega) (by rw [jc])
   have hsl2 : (jk l).drop (j + 1) = jk (l.drop (j + 1)) := by simp [jk]
   rw [hsl2] at hsu
   have kA := k1.app [.cells false [.int x.op, .int x.a, .int x.b, .str x.n]]
   have k4A := gz k4 [fp.cells false [.int x.op, .int x.a, .int x.b, .str x.n]]
   obtain ⟨_, _, ⟨rfl, G, rfl⟩, cf⟩ := (a0t (V := V1) kA x (rest := l.drop (j + 1)) (t := t') t.br ht' (by rw [b8]; omega) (hnm x (aq x0))).sy rfl
   have wj : IntKind.i64.wrap ((j : Int) + 1) = ((j + 1 : Nat) : Int) := by rw [jd (by unfold mg; omega)]; omega
   have hj1 : ((j + 1 : Nat) : Int) <= l.length := by omega
   have hx2 : (H1 ++ [fp.cells false [.int x.op, .int x.a, .int x.b, .str x.n]] ++ G)[H1.length]? = some (.cells false [.int x.op, .int x.a, .int x.b, .str x.n]) := gz (by simp) G
   have kG := kA.app G
   have k4G := gz k4A G
   have hlH : H1.length < (H1 ++ [fp.cells false [.int x.op, .int x.a, .int x.b, .str x.n]] ++ G).length := fy hx2
   generalize H1 ++ [fp.cells false [.int x.op, .int x.a, .int x.b, .str x.n]] ++ G = H2 at *
   have hq1 : H.length ≠ H1.length := by have := fy k4; omega
   have hk1 : ki ≠ H1.length := by have := fy k1.k; omega
   have hs1 : si ≠ H1.length := by have := fy k1.s; omega
   have w42 : IntKind.i64.wrap (((l.length : Nat) : Int) - 1) = ((l.length - 1 : Nat) : Int) := by rw [jd (by unfold mg; omega)]; omega
   have hlast : (((j : Nat) : Int) == ((l.length - 1 : Nat) : Int)) = (l.drop (j + 1)).isEmpty := by
    cases hd : l.drop (j + 1) with
    | nil =>
     have := List.drop_eq_nil_iff.1 hd
     rw [List.isEmpty_nil, beq_iff_eq]; omega
    | cons y r =>
     have := congrArg List.length hd
     rw [b8, ak] at this
     rw [List.isEmpty_cons, beq_eq_false_iff_ne]; omega
   simp only [Ins.av] at cf
   cases hf : (mz c.bl.length c.gl.length x (l.drop (j + 1)) t.br != 0)
   case true =>
    have hf' : mz c.bl.length c.gl.length x (l.drop (j + 1)) t.br ≠ 0 := by simpa [bne] using hf
    rw [stp, if_pos hf'] at k5
    rw [<- k5]
    simp only [↓fh, wall, simprocAttr, wH, e0', e6, e5, e41, e42, e43, hdec, x4, rq, jc, k4A, wj, hj1, hsu, cf, hf]
    exact ⟨_, rfl⟩
   have hf' : mz c.bl.length c.gl.length x (l.drop (j + 1)) t.br = 0 := by simpa [bne] using hf
   obtain ⟨⟨f1, f2, f3, f4⟩, f5, f6, f7⟩ := Oo hf'
   have kS := k3
   obtain ⟨⟨s1, s2⟩, ⟨b1, b2⟩, hen, ⟨r1, r2⟩, hsb⟩ := k3
   obtain ⟨vr, sr, hr, cr⟩ := (Si (V := V1) kG k4G x (λ h => by
    rcases h with h | h
    ·exact ⟨f3, f5 (.inl h)⟩
    ·exact ⟨f3, f5 (.inr h)⟩) (by unfold mg; omega) (λ h => by have := f6 h; unfold mg; omega)).sy rfl
   simp only [Ins.av] at cr
   rw [stp, if_neg (by rw [hf']; simp)] at k5
   cases hre : sx n x t with
   | error e =>
    have hne : (e != 0) = true := by
     have : stp c.bl.length c.gl.length n x (l.drop (j + 1)) t = .error e := by rw [stp, if_neg (by rw [hf']; simp), hre]
     simpa [bne] using N9 this
    rw [hre] at hr k5
    obtain ⟨rfl, G2, rfl⟩ := hr
    simp only at k5
    rw [<- k5]
    simp only [↓fh, wall, simprocAttr, wH, e0', e6, e5, e41, e42, e43, hdec, x4, rq, jc, k4A, wj, hj1, hsu, cf, hf, hx2, cr, hne]
    exact ⟨_, rfl⟩
   | ok S1 =>
    rw [hre] at hr k5
    obtain ⟨rfl, hl1, G2, rfl⟩ := hr
    have kR := (kG.app G2).enter hl1
    have k4R := pn (x := .cells false (ints S1)) (j := si) (gz k4G G2) (by have := fy h.s; omega)
    have hx3 := pn (x := .cells false (ints S1)) (j := si) (gz hx2 G2) hs1
    generalize (H2 ++ G2).set si (.cells false (ints S1)) = H3 at *
    obtain ⟨ve, se, hxe, ce⟩ := (Nf (S := S1) (V := V1) k4R x (l.drop (j + 1)) f1 f2 f4 (by omega) (by omega) (by omega) (by omega)).sy rfl
    simp only [Ins.av] at ce
    rw [<- hlast] at ce
    simp only at k5
    have hxx : Bm x (l.drop (j + 1)) S1 t = Bm x (l.drop (j + 1)) S1 ⟨S1, t.env, t.stack, t.binds, t.br⟩ := rfl
    rw [hxx] at k5
    cases hee : Bm x (l.drop (j + 1)) S1 ⟨S1, t.env, t.stack, t.binds, t.br⟩ with
    | error e =>
     have hne : (e != 0) = true := by
      have : stp c.bl.length c.gl.length n x (l.drop (j + 1)) t = .error e := by
       rw [stp, if_neg (by rw [hf']; simp), hre]; exact hee
      simpa [bne] using N9 this
     rw [hee] at hxe k5
     obtain ⟨rfl, H', rfl⟩ := hxe
     simp only at k5
     rw [<- k5]
     simp only [↓fh, wall, simprocAttr, wH, e0', e6, e5, e41, e42, e43, hdec, x4, rq, jc, k4A, wj, hj1, hsu, cf, hf, hx2, cr, hx3, w42, ce, hne]
     exact ⟨_, rfl⟩
    | ok t1 =>
     have hstp : stp c.bl.length c.gl.length n x (l.drop (j + 1)) t = .ok t1 := by
      rw [stp, if_neg (by rw [hf']; simp), hre]; exact hee
     rw [hee] at hxe k5
     obtain ⟨rfl, hS1, G3, rfl⟩ := hxe
     simp only at k5
     have kX := (kR.app G3).set (q := H.length) (o := .cells false [.int n, .int t1.env, .int t1.stack, .int t1.binds, .int t1.br]) (by omega) (by omega)
     have hlt3 := fy (gz k4R G3)
     simp only [↓fh, wall, simprocAttr, wH, e0', e6, e5, e41, e42, e43, hdec, x4, rq, jc, k4A, wj, hj1, hsu, cf, hf, hx2, cr, hx3, w42, ce]
     exact j6 ⟨j + 1, by omega, by omega, rfl, e0', e6, e5, e41, e42, rfl, t1, by rw [hS1]; exact kX, by rw [hS1, hl1]; exact k2, kS.step (by omega) he0 hstp, by rw [b9, if_pos rfl, if_pos hlt3], k5⟩
  ·have hdec : decide ((j : Int) < l.length) = false := by simpa using hge
   rw [bt (by omega), l7] at k5
   rw [<- k5]
   simp only [↓fh, wall, simprocAttr, wH, e0', e6, e5, e41, e42, e43, hdec]
   exact ⟨_, rfl, k1, k2⟩
 ·have kA := h.app [.cells false [.int n, .int e0, .int 0, .int 0, .int 0]]
  refine ⟨dj _, rfl, rfl, rfl, rfl, rfl, rfl, rfl, ⟨S, e0, 0, 0, 0⟩, kA, rfl, ⟨by simp, by simp, by simp, by simp, hS.mono (by show W <= W + 64 + ((0 : Nat) : Int); omega)⟩, by simp, by rw [List.drop_zero]; exact hR⟩
end
end Go.Proofs.Eng
namespace Go.Proofs.Eng
open Go Go.Proofs
set_option maxRecDepth 100000
set_option maxHeartbeats 16000000
theorem Xn (H : List fp) (V : List Nat) (z : Int) (t : Tl) (n : Nat) (h1 : 1 <= n) (h2 : n <= 1000000) (K KP) : CW (run md pfs) md false ⟨H, V⟩ 88 [.sl [.int z] t, .int n] K KP () = K (.bs H.length 0 n 1 false) ⟨H ++ [.cells false (ints (List.replicate n z))], V⟩ := by
 have h := Dp (md := md) (pfs := pfs) (f := 88) (pf := ⟨0, [], .ora V6⟩) (by simp [pfs]) rfl (args := [.sl [.int z] t, .int n]) (v := .bs H.length 0 n 1 false) (s := ⟨H, V⟩) (s' := ⟨H ++ [.cells false (ints (List.replicate n z))], V⟩) (by
  simp only [V6, AV.int]
  rw [if_pos (by omega)]
  simp [ints])
 simp [CW, ln, show md 88 = .raw from rfl, h]
theorem a79 : ∀ l : List Ins, jf (jk l) (jk l) = true
 | [] => by rw [jk, List.map_nil, jf]
 | x :: l => by
  have := a79 l
  simp only [jk] at this ⊢
  rw [bq, jf, this, Ins.av, l6, jf, jf, jf, jf, jf, eqI, eqI, eqI, eqS]; rfl
theorem a7f : ∀ l : List ByteArray, jf (nmA l) (nmA l) = true
 | [] => by rw [nmA, List.map_nil, jf]
 | x :: l => by
  have := a7f l
  simp only [nmA] at this ⊢
  rw [bq, jf, this, eqS]; rfl
theorem a7w {l : List (List Ins)} {al : List AV} (h : LIs Rq l al) : jf al al = true := eqL (R := Rq) (λ x _ a ⟨t, e, _⟩ => by rw [e]; exact eqT _ _ (a79 _)) h
theorem Kw : ∀ (l : List Nat) (n : Nat), (l.take n).sum <= l.sum
 | [], n => by simp
 | x :: l, 0 => by simp
 | x :: l, n + 1 => by have := Kw l n; simp; omega
theorem U5 {c : Cd} {a : AV} (h : c.Is a) (hn : ∀ g ∈ c.gl, g.size <= j7) (hnm : ∀ b ∈ c.bl, ∀ x ∈ b, x.n.size <= j7) (hb : c.bl.length <= 1000000) (hsum : (c.bl.map List.length).sum <= 1000000000000) : Out md pfs 38 [a] (· = .int c.check) λ _ => False := by
 obtain ⟨Bs, t1, t2, t3, rfl, g1, g2, g3, g4, g5, g6, g7⟩ := id h
 have hBl := g1.len
 refine iu pf38_is (dg rfl) ?_
 obtain ⟨_, rfl, co⟩ := (Ks h hn).call rfl (by simp [ft, gg, My h])
 rw [Cd.check]
 cases ho : (c.Dm != 0)
 case true =>
  rw [if_pos (by simpa [bne] using ho)]
  simp only [pf38, ↓fh, wall, simprocAttr, wH, co, ho]
 have ho' : c.Dm = 0 := by simpa [bne] using ho
 rw [if_neg (by rw [ho']; simp)]
 rw [ho'] at co
 have hoo : c.bl ≠ [] /\ (c.st.any λ s => decide (s < 1) || decide ((c.bl.length : Int) <= s)) = false := by
  unfold Cd.Dm at ho'
  split at ho'
  ·omega
  rename_i hh
  exact ⟨λ e => hh (.inl e), by
   cases hx : (c.st.any λ s => decide (s < 1) || decide ((c.bl.length : Int) <= s)) with
   | false => rfl
   | true => exact absurd (.inr (.inr (.inl hx))) hh⟩
 obtain ⟨hne, hst⟩ := hoo
 have hb1 : 1 <= c.bl.length := by
  rcases Nat.eq_zero_or_pos c.bl.length with h | h
  ·exact absurd (List.length_eq_zero_iff.1 h) hne
  ·exact h
 have hrc := λ (K KP) => Xn [.cells false [.sl Bs t1, .sl (nmA c.gl) t2, .sl (ints c.st) t3]] [] (-1) (.cap 1) c.bl.length hb1 hb K KP
 rw [<- hBl] at hrc
 have heq : l6 (.agg [.sl Bs t1, .sl (nmA c.gl) t2, .sl (ints c.st) t3]) (.agg [.sl Bs t1, .sl (nmA c.gl) t2, .sl (ints c.st) t3]) = true := by
  rw [l6, jf, jf, jf, jf, eqT _ _ (a7w g1), eqT _ _ (a7f _), eqT _ _ (Yx _)]; rfl
 have hB1 : (0 : Int) < ((Bs.length : Nat) : Int) := by omega
 simp only [pf38, ↓fh, wall, simprocAttr, wH, co, hrc, heq, hB1]
 refine ⟨by rw [gr, List.length_replicate, hBl]; exact hb1, ?_⟩
 let stf : List Int -> List Int -> List Int := λ l S => l.foldl (λ S s => S.set s.toNat 0) S
 refine iq (λ j => c.st.length - j) (λ j E H V => j <= c.st.length /\ V = [] /\ E 1 = .ptr 0 0 /\ E 4 = .ptr 2 0 /\ E 28 = .sl (ints c.st) t3 /\ E 29 = .int c.st.length /\ E 30 = .int j /\ H[0]? = some (.cells false [.sl Bs t1, .sl (nmA c.gl) t2, .sl (ints c.st) t3]) /\ ∃ S, KS 2 1 Bs t1 t2 t3 c S H /\ SB 0 S /\ (c.st.drop j).foldl (λ S s => S.set s.toNat 0) S = c.S0) ?_ 0 ?start
 case start =>
  refine ⟨dj _, rfl, rfl, rfl, rfl, by rw [<- gr]; rfl, rfl, rfl, (List.replicate c.bl.length (-1)).set 0 0, ⟨by rw [<- hBl]; rfl, ?_, by simp, by decide, g1, g2, g6⟩, ?_, rfl⟩
  ·rw [<- Fx (by rw [List.length_replicate]; exact hb1), <- hBl]; rfl
  ·refine SB.set (λ s hs => ?_) (Int.le_refl _)
   rw [(List.mem_replicate.1 hs).2]; decide
 rintro j E H V ⟨hj, rfl, e1, e4, e28, e29, e30, hH0, S, kS, hS, hf⟩
 have hk := kS.k
 have hs := kS.s
 rcases di j c.st.length with hlt | hge
 ·have hdec : decide ((j : Int) < c.st.length) = true := by simpa using hlt
  obtain ⟨x, x0, x4⟩ := E5 hlt
  have hdr : c.st.drop j = x :: c.st.drop (j + 1) := by
   obtain ⟨h, rfl⟩ := List.getElem?_eq_some_iff.1 x0
   exact bx h
  have hx := List.any_eq_false.1 hst x (aq x0)
  simp only [ed, decide_eq_true_eq, not_or] at hx
  obtain ⟨m, rfl⟩ : ∃ m : Nat, x = m := ⟨x.toNat, by omega⟩
  have hm : (m : Int) < c.bl.length := by omega
  have hmS : m < S.length := by rw [kS.sl]; omega
  have hset := Fx (v := 0) hmS
  have hml : m + 1 <= (ints S).length := by rw [gr]; omega
  rw [hdr, db, eu] at hf
  simp only [↓fh, wall, simprocAttr, wH, e1, e4, e28, e29, e30, hdec, x4, ks, gr, hk, hs, hm, Nat.mul_one, hset, hml]
  exact ⟨hmS, j6 ⟨j + 1, by omega, by omega, rfl, e1, e4, e28, e29, gw (by omega), pn hH0 (by decide), _, kS.enter (S' := S.set m 0) (by simp), hS.set (Int.le_refl _), hf⟩⟩
 ·have hdec : decide ((j : Int) < c.st.length) = false := by simpa using hge
  simp only [↓fh, wall, simprocAttr, wH, e1, e4, e28, e29, e30, hdec, hH0]
  rw [bt (by omega), List.foldl_nil] at hf
  subst hf
  have hBn : ((Bs.length : Nat) : Int) = ((c.bl.length : Nat) : Int) := by rw [hBl]
  refine iq (λ j => c.bl.length - j) (λ n E H V => n <= c.bl.length /\ V = [] /\ E 4 = .ptr 2 0 /\ E 43 = .int c.bl.length /\ E 44 = .int n /\ ∃ S, KS 2 1 Bs t1 t2 t3 c S H /\ SB ((64 * n + ((c.bl.map List.length).take n).sum : Nat) : Int) S /\ goB c.bl.length c.gl.length n (c.bl.drop n) S = goB c.bl.length c.gl.length 0 c.bl c.S0) ?_ 0 ⟨dj _, rfl, e4, by rw [<- hBn]; rfl, rfl, _, kS, hS.mono (by simp), rfl⟩
  rintro n E H V ⟨hn1, rfl, e4, e43, e44, S, kS, hS, hg⟩
  rcases di n c.bl.length with hlt | hge
  ·have hdec : decide ((n : Int) < c.bl.length) = true := by simpa using hlt
   have hx : c.bl[n]? = some c.bl[n] := aa hlt
   generalize c.bl[n] = l at hx
   have hdr : c.bl.drop n = l :: c.bl.drop (n + 1) := by
    obtain ⟨h, rfl⟩ := List.getElem?_eq_some_iff.1 hx
    exact bx h
   have htk : ((c.bl.map List.length).take (n + 1)).sum = ((c.bl.map List.length).take n).sum + l.length := by
    rw [bj, bh, hx]; simp
   have hle := Kw (c.bl.map List.length) (n + 1)
   obtain ⟨v, s, hv, hc⟩ := (Rs (V := []) kS hx (hnm l (aq hx)) hS (by omega) (by omega)).sy rfl
   rw [hdr, a1g] at hg
   cases hbk : I9 c.bl.length c.gl.length n l S with
   | error e =>
    rw [hbk] at hv hg
    have hne : (e != 0) = true := by simpa [bne] using Zu hbk
    obtain ⟨rfl, H', rfl⟩ := hv
    simp only at hg
    rw [<- hg]
    simp only [↓fh, wall, simprocAttr, wH, e4, e43, e44, hdec, hc, hne]
   | ok S' =>
    have hS' := a06 hS (by omega) hbk
    rw [hbk] at hv hg
    obtain ⟨rfl, H', rfl, kS', hl'⟩ := hv
    simp only at hg
    simp only [↓fh, wall, simprocAttr, wH, e4, e43, e44, hdec, hc]
    exact j6 ⟨n + 1, by omega, by omega, rfl, e4, e43, gw (by omega), S', kS', hS'.mono (by rw [htk]; omega), hg⟩
  ·have hdec : decide ((n : Int) < c.bl.length) = false := by simpa using hge
   rw [bt (by omega), goB] at hg
   simp only [↓fh, wall, simprocAttr, wH, e4, e43, e44, hdec]
   rw [<- hg]
end Go.Proofs.Eng
namespace Go.Proofs.Eng
open Go Go.Proofs
set_option maxRecDepth 100000
theorem a5c : 0 < Tryz.prog.cellsOf 3 := by rw [show Tryz.prog.cellsOf 3 = 1 from by kernel_rfl]; decide
theorem Zj : 0 < Tryz.prog.cellsOf 47 := by rw [show Tryz.prog.cellsOf 47 = 5 from by kernel_rfl]; decide
theorem a1n : 0 < Tryz.prog.cellsOf 68 := by rw [show Tryz.prog.cellsOf 68 = 6 from by kernel_rfl]; decide
theorem Hy {n : Nat} {l : List AV} (h : OfT Tryz.prog n 3 l) : ∃ i, l = [.int i] /\ mg i := by
 cases n with
 | zero => exact h.elim
 | succ n =>
  simp only [OfT, Tryz.underlying3] at h
  obtain ⟨i, rfl, hw⟩ := h
  refine ⟨i, rfl, ?_⟩
  unfold mg
  simp [Lit.wf, IntKind.min, IntKind.max, IntKind.signed, IntKind.bits] at hw
  omega
theorem Oj {n : Nat} {l : List AV} (h : OfT Tryz.prog n 9 l) : ∃ s, l = [.str s] /\ s.size <= j7 := by
 cases n with
 | zero => exact h.elim
 | succ n =>
  simp only [OfT, Tryz.underlying9] at h
  obtain ⟨s, rfl, hw⟩ := h
  exact ⟨s, rfl, by unfold j7; simpa [maxLen] using hw⟩
theorem C5 {α : Type} {R : α -> AV -> Prop} {n : Nat} {t e : TypeId} {l : List AV} (hu : Tryz.prog.underlying t = some (.slice e)) (hc : 0 < Tryz.prog.cellsOf e) (hR : ∀ n l, OfT Tryz.prog n e l -> ∃ x, R x (mkE (isAgg Tryz.prog e) l)) (h : OfT Tryz.prog n t l) : ∃ (xs : List α) (al : List AV) (tl : Tl), l = [.sl al tl] /\ LIs R xs al /\ tl.pure = true /\ al.length <= j7 := by
 cases n with
 | zero => exact h.elim
 | succ n =>
  simp only [OfT, hu, if_pos hc] at h
  obtain ⟨xs, tl, rfl, h1, h2, h3⟩ := h
  have key : ∀ xs : List (List AV), (∀ x ∈ xs, OfT Tryz.prog n e x) -> ∃ ys : List α, LIs R ys (xs.map (mkE (isAgg Tryz.prog e))) := by
   intro xs
   induction xs with
   | nil => intro _; exact ⟨[], trivial⟩
   | cons x xs ih =>
    intro h
    obtain ⟨y, hy⟩ := hR n x (h x (by simp))
    obtain ⟨ys, hys⟩ := ih λ z hz => h z (by simp [hz])
    exact ⟨y :: ys, hy, hys⟩
  obtain ⟨ys, hys⟩ := key xs h3
  refine ⟨ys, _, tl, rfl, hys, ?_, by rw [de]; unfold j7; simpa [maxLen] using h2⟩
  rcases h1 with rfl | ⟨rfl, _⟩ <;> rfl
theorem Ux {n : Nat} {l : List AV} (h : OfT Tryz.prog n 24 l) : ∃ s tl, l = [.sl (ints s) tl] /\ tl.pure = true /\ s.length <= j7 := by
 obtain ⟨xs, al, tl, rfl, h1, h2, h3⟩ := C5 (R := λ (i : Int) a => a = .int i) Tryz.underlying24 a5c (λ n l h => by
  obtain ⟨i, rfl, _⟩ := Hy h
  exact ⟨i, by rw [show isAgg Tryz.prog 3 = false from by kernel_rfl]; rfl⟩) h
 have : ∀ {xs : List Int} {al : List AV}, LIs (λ (i : Int) a => a = .int i) xs al -> al = ints xs := by
  intro xs
  induction xs with
  | nil => intro al h; cases al with
   | nil => rfl
   | cons => exact h.elim
  | cons x xs ih => intro al h; cases al with
   | nil => exact h.elim
   | cons a al => obtain ⟨rfl, h⟩ := h; rw [ih h]; rfl
 have e := this h1
 subst e
 exact ⟨xs, tl, rfl, h2, by rw [<- gr]; exact h3⟩
theorem a6q {α : Type} {l : List α} (h : l.length = 5) : ∃ a b c d e, l = [a, b, c, d, e] := by
 match l, h with
 | [a, b, c, d, e], _ => exact ⟨a, b, c, d, e, rfl⟩
theorem two {α : Type} {l : List α} (h : l.length = 2) : ∃ a b, l = [a, b] := by
 match l, h with
 | [a, b], _ => exact ⟨a, b, rfl⟩
theorem M4 : ∀ (n : Nat) (l : List AV), OfT Tryz.prog n 47 l -> ∃ e : Ex, e.Is (.agg l)
 | 0, _, h => h.elim
 | 1, l, h => by
  simp only [OfT, Tryz.underlying47] at h
  rw [if_pos (by kernel_rfl)] at h
  obtain ⟨xs, rfl, hl, hx⟩ := h
  obtain ⟨a, b, c, d, e, rfl⟩ := a6q hl
  exact (hx 0 _ a rfl rfl).elim
 | n + 2, l, h => by
  unfold OfT at h
  simp only [Tryz.underlying47] at h
  rw [if_pos (by kernel_rfl)] at h
  obtain ⟨xs, rfl, hl, hx⟩ := h
  obtain ⟨a, b, c, d, e, rfl⟩ := a6q hl
  obtain ⟨k, rfl, _⟩ := Hy (hx 0 _ a rfl rfl)
  obtain ⟨i, rfl, hi⟩ := Hy (hx 1 _ b rfl rfl)
  obtain ⟨nm, rfl, hn⟩ := Oj (hx 2 _ c rfl rfl)
  obtain ⟨s, t1, rfl, h1, hs⟩ := Ux (hx 3 _ d rfl rfl)
  have he : OfT Tryz.prog (n + 1) 45 e := hx 4 _ e rfl rfl
  unfold OfT at he
  simp only [Tryz.underlying45] at he
  rw [if_pos Zj] at he
  obtain ⟨ys, t2, rfl, g1, g2, g3⟩ := he
  have key : ∀ ys : List (List AV), (∀ x ∈ ys, OfT Tryz.prog n 47 x) -> ∃ kids : List Ex, LIs Ex.Is kids (ys.map (mkE (isAgg Tryz.prog 47))) := by
   intro ys
   induction ys with
   | nil => intro _; exact ⟨[], trivial⟩
   | cons x xs ih =>
    intro h
    obtain ⟨y, hy⟩ := M4 n x (h x (by simp))
    obtain ⟨ys, hys⟩ := ih λ z hz => h z (by simp [hz])
    exact ⟨y :: ys, by rw [show isAgg Tryz.prog 47 = true from by kernel_rfl]; exact hy, hys⟩
  obtain ⟨kids, hk⟩ := key ys g3
  exact ⟨.mk k i nm s kids, Ex.Is.mk h1 (by rcases g1 with rfl | ⟨rfl, _⟩ <;> rfl) ⟨hi, hn⟩ hs (by rw [de]; unfold j7; simpa [maxLen] using g2) hk⟩
theorem a5b {n : Nat} {l : List AV} (h : OfT Tryz.prog n 68 l) : ∃ g : Gl, I3 g (.agg l) := by
 cases n with
 | zero => exact h.elim
 | succ n =>
  simp only [OfT, Tryz.underlying68] at h
  rw [if_pos (by kernel_rfl)] at h
  obtain ⟨xs, rfl, hl, hx⟩ := h
  obtain ⟨a, b, rfl⟩ := two hl
  obtain ⟨nm, rfl, hn⟩ := Oj (hx 0 _ a rfl rfl)
  obtain ⟨e, he⟩ := M4 n b (hx 1 _ b rfl rfl)
  refine ⟨(nm, e), b, ?_, hn, he⟩
  simp
theorem a5w {n : Nat} {l : List AV} (h : OfT Tryz.prog n 49 l) : ∃ p : Pr, p.Is (.agg l) := by
 cases n with
 | zero => exact h.elim
 | succ n =>
  simp only [OfT, Tryz.underlying49] at h
  rw [if_pos (by kernel_rfl)] at h
  obtain ⟨xs, rfl, hl, hx⟩ := h
  obtain ⟨a, b, rfl⟩ := two hl
  obtain ⟨gs, gas, tg, rfl, g1, g2, g3⟩ := C5 (R := I3) Tryz.underlying44 a1n (λ n l h => by
   obtain ⟨g, hg⟩ := a5b h
   exact ⟨g, by rw [show isAgg Tryz.prog 68 = true from by kernel_rfl]; exact hg⟩) (hx 0 _ a rfl rfl)
  obtain ⟨e, he⟩ := M4 n b (hx 1 _ b rfl rfl)
  obtain ⟨c, q, hl2, ho⟩ := k9.cells he
  cases q
  have hp := lu _ he
  rw [m5] at hp
  refine ⟨⟨gs, e⟩, gas, tg, b, by simp, g2, g3, g1, he, hl2, au (by omega), ho, hp, g1.pure λ _ _ h => Jk.pure h, g1.all Jk⟩
theorem Ic {n : Nat} {s : ASt} {x : AV} {y : Value} (h : gi n s x = some (.v y)) : x = .v y := by
 cases n with
 | zero => rw [gi] at h; cases h
 | succ n =>
  unfold gi at h
  split at h
  ·cases h; rfl
  ·split at h
   all_goals first
    | (cases h; done)
    | (rw [fg] at h; obtain ⟨_, _, h⟩ := h; cases h; done)
    | skip
   split at h
   ·split at h
    ·rw [fg] at h; obtain ⟨_, _, h⟩ := h; cases h
    ·cases h
   ·cases h
theorem Tq {pfs2 : FuncId -> Option PF} {f : FuncId} {ls : List AV} (h : Out md pfs2 f ls (· = .bool true) λ _ => False) : ∃ s', run md pfs2 f ls ⟨[], []⟩ = some (.ret (.v (.bool true)), s') := by
 obtain ⟨out, s, out', h1, h2, h3⟩ := h
 cases out' with
 | pan v => exact h3.elim
 | ret v =>
  subst h3
  cases out with
  | pan w => simp [jt.gi] at h2
  | ret w =>
   simp only [jt.gi, fg] at h2
   obtain ⟨y, h2, h3⟩ := h2
   cases h3
   exact ⟨s, by rw [h1, Ic h2]⟩
end Go.Proofs.Eng
namespace Go.Proofs.Eng
open Go Go.Proofs Go.Proofs.YtflfmkkcnphdcaaGreat
open Go.ChangeShapes Go.WideShapes Go.ChangeAt Go.RowKit
theorem a8g (W : World) : Kn W := λ _ h => False.elim h
theorem Yu : ownKnob Tryz.prog.godebug = none := by kernel_rfl
theorem Tj : laidOutB Tryz.prog = true := by kernel_rfl
end Go.Proofs.Eng
namespace Go.Proofs.Eng
open Go Go.Proofs
set_option maxRecDepth 100000
set_option maxHeartbeats 16000000
structure Ap (H : List fp) (V : List Nat) (H' : List fp) (V' : List Nat) : Prop where
 h : ∀ (k : Nat) (o : fp), H[k]? = some o -> H'[k]? = some o
 v : ∀ (i v : Nat), V[i]? = some v -> V'[i]? = some v
theorem Ap.refl (H : List fp) (V : List Nat) : Ap H V H V := ⟨λ _ _ h => h, λ _ _ h => h⟩
theorem Ap.trans {A B C : List fp} {V V' V'' : List Nat} (h : Ap A V B V') (k : Ap B V' C V'') : Ap A V C V'' := ⟨λ i o e => k.h i o (h.h i o e), λ i v e => k.v i v (h.v i v e)⟩
theorem Ap.app (H : List fp) (V : List Nat) (G : List fp) : Ap H V (H ++ G) V := ⟨λ _ _ h => gz h G, λ _ _ h => h⟩
theorem C8 {es : Nat} {f : FuncId} (hf : pfs f = some ⟨0, [], .ora (Me es)⟩) {l : List AV} (t : Tl) (hl : l.length <= 1073741824) (hp : ga l = true) (hc : (l.all λ x => x.cells.length == es && x.cells.all gv) = true) :
  Out md pfs f [.sl l t] (λ v => ∃ t', v = .sl l t' /\ t'.pure = true) λ _ => False := by
 cases l with
 | nil =>
  have hn : (su (.sl [] t)).pure = true := by unfold su; split <;> rfl
  have := Dp (md := md) (pfs := pfs) hf rfl (args := [.sl [] t]) (v := .sl [] (su (.sl [] t))) (s := ⟨[], []⟩) (s' := ⟨[], []⟩) rfl
  exact ⟨_, _, .ret (.sl [] (su (.sl [] t))), this, by rw [jt.gi, j8 (by rw [lk, hn]; rfl)]; rfl, _, rfl, hn⟩
 | cons x l =>
  have := Dp (md := md) (pfs := pfs) hf rfl (args := [.sl (x :: l) t]) (v := .sl (x :: l) (.tl 0 0)) (s := ⟨[], []⟩) (s' := ⟨[], [0]⟩) (by rw [Me, if_pos ⟨hl, hc⟩]; rfl)
  exact ⟨_, _, .ret (.sl (x :: l) ((Tl.tl 0 0).sj 1019 ⟨[], [0]⟩)), this, by rw [jt.gi, Uv, yy hp]; rfl, _, rfl, s9 _ _ _⟩
theorem Xi (l : List Ins) : ((jk l).all λ x => x.cells.length == 4 && x.cells.all gv) = true := by
 rw [aw]; intro x hx
 obtain ⟨b, _, rfl⟩ := List.mem_map.1 hx; rfl
theorem Z9 (l : List ByteArray) : ((nmA l).all λ x => x.cells.length == 1 && x.cells.all gv) = true := by
 rw [aw]; intro x hx
 obtain ⟨b, _, rfl⟩ := List.mem_map.1 hx; rfl
theorem Tk (l : List Int) : ((ints l).all λ x => x.cells.length == 1 && x.cells.all gv) = true := by
 rw [aw]; intro x hx
 obtain ⟨b, _, rfl⟩ := List.mem_map.1 hx; rfl
def mcs (Bl : List AV) (tb t2 t3 : Tl) (c : Cd) (bk at' : Int) (ea sa fa : AV) (steps : Int) (hlt : Bool) (err : Int) (m : Nat) : List AV := [.sl Bl tb, .sl (nmA c.gl) t2, .sl (ints c.st) t3, .int bk, .int at', ea, sa, fa, .int steps, .bool hlt, .int err,
 .bm 42 [.ptr m 0], .bm 43 [.ptr m 0], .bm 44 [.ptr m 0], .bm 45 [.ptr m 0], .bm 46 [.ptr m 0], .bm 47 [.ptr m 0], .bm 48 [.ptr m 0], .bm 49 [.ptr m 0], .bm 50 [.ptr m 0], .bm 51 [.ptr m 0], .bm 52 [.ptr m 0], .bm 53 [.ptr m 0], .bm 54 [.ptr m 0], .bm 55 [.ptr m 0], .bm 56 [.ptr m 0]]
def a1i (Bl : List AV) (tb t2 t3 : Tl) (c : Cd) : List AV := [.sl Bl tb, .sl (nmA c.gl) t2, .sl (ints c.st) t3, .int 0, .int 0, .v (.pointer none), .sl [] .nil, .sl [] .nil, .int 0, .bool false, .int 0,
 .v .nilFunc, .v .nilFunc, .v .nilFunc, .v .nilFunc, .v .nilFunc, .v .nilFunc, .v .nilFunc, .v .nilFunc, .v .nilFunc, .v .nilFunc, .v .nilFunc, .v .nilFunc, .v .nilFunc, .v .nilFunc, .v .nilFunc]
theorem Zx {c : Cd} {a : AV} (h : c.Is a) (hn : ∀ g ∈ c.gl, g.size <= j7) (hnm : ∀ b ∈ c.bl, ∀ x ∈ b, x.n.size <= j7) (hb : c.bl.length <= 1000000) (hsum : (c.bl.map List.length).sum <= 1000000000) (hg : c.gl.length <= 1000000) (hs : c.st.length <= 1000000) (H : List fp) (V : List Nat) :
  Rw 12 [a] ⟨H, V⟩ λ v s1 => ∃ H1 V1, s1 = ⟨H1, V1⟩ /\ Ap H V H1 V1 /\ ((c.check ≠ 0 /\ v = .tup [.v (.pointer none), .int c.check]) \/ (c.check = 0 /\ ∃ m Bl tb t2 t3, H.length <= m /\ v = .tup [.ptr m 0, .int 0] /\ H1[m]? = some (.cells false (mcs Bl tb t2 t3 c 0 0 (.v (.pointer none)) (.sl [] .nil) (.sl [] .nil) 0 false 0 m)) /\ LIs blX c.bl Bl)) := by
 obtain ⟨Bs, t1, t2, t3, rfl, g1, g2, g3, g4, g5, g6, g7⟩ := id h
 have hBl := g1.len
 have jw : vy = 1073741824 := rfl
 have hlb : j7 = 9223372036854775807 := rfl
 have hpA := My h
 have hBa : (Bs.all λ x => x.cells.length == 1) = true := aw.2 λ y hy => by
  obtain ⟨q, hq⟩ := List.mem_iff_getElem?.1 hy
  obtain ⟨b, a, _, _, _, e4, ⟨t, rfl, _⟩⟩ := g1.at (i := q) (List.getElem?_eq_some_iff.1 hq).1
  rw [hq] at e4; cases e4; rfl
 refine lf pf12_is (dg rfl) ?_
 obtain ⟨_, rfl, cck⟩ := (U5 h hn hnm hb (by omega)).call rfl (by simp [ft, gg, hpA])
 cases hz : (c.check == 0)
 ·have hz' : c.check ≠ 0 := by simpa using hz
  have hne : (c.check != 0) = true := by simp [bne, hz]
  simp only [pf12, ↓fh, wall, simprocAttr, wH, gq, fj, cck, hz, hne]
  exact ⟨_, _, rfl, .app _ _ _, .inl hz'⟩
 have hz' : c.check = 0 := by simpa using hz
 rw [hz'] at cck
 obtain ⟨_, ⟨u2, rfl, w2⟩, cg⟩ := (C8 (f := 39) (es := 1) (by simp [pfs]) (l := nmA c.gl) t2 (by rw [jv]; omega) (wv _) (Z9 _)).call rfl (by simp [ft, gg, lk, g3, wv])
 obtain ⟨_, ⟨u3, rfl, w3⟩, cs⟩ := (C8 (f := 40) (es := 1) (by simp [pfs]) (l := ints c.st) t3 (by rw [gr]; omega) (kl _) (Tk _)).call rfl (by simp [ft, gg, lk, g4, kl])
 simp only [pf12, ↓fh, wall, simprocAttr, wH, gq, fj, cck, cg, cs]
 obtain ⟨A, hA⟩ : ∃ A, A = H ++ [fp.cells false [.sl Bs t1, .sl (nmA c.gl) t2, .sl (ints c.st) t3]] := ⟨_, rfl⟩
 have hAl : A.length = H.length + 1 := by rw [hA]; simp
 obtain ⟨m, hm⟩ : ∃ m, m = H.length + 1 := ⟨_, rfl⟩
 refine iq (λ j => Bs.length - j) (λ j E H' V' => ∃ Bl tb, j <= Bs.length /\ E 5 = .ptr m 0 /\ E 23 = .sl Bs t1 /\ E 24 = .int Bs.length /\ E 25 = .int (j : Nat) /\ H'[m]? = some (.cells false (a1i Bl tb u2 u3 c)) /\ Ap H V H' V' /\ LIs blX (c.bl.take j) Bl /\ App V' Bl tb /\ V.length <= V'.length /\ ∀ i v, tb = .tl i v -> V.length <= i) ?_ 0 ?_
 ·rintro j E H1 V1 ⟨Bl, tb, hj, e5, e23, e24, e25, b1, hAp, hBlx, hApp, hV, hown⟩
  rcases di j Bs.length with hlt | hge
  ·have hdec : decide ((j : Int) < Bs.length) = true := by simpa using hlt
   obtain ⟨b, _, d0, _, dm, d4, ⟨t, rfl, ht, hbl⟩⟩ := g1.at hlt
   have hbs : b.length <= 1000000000 := by
    have := E6 (List.mem_map_of_mem (f := List.length) dm); omega
   obtain ⟨_, ⟨t', rfl, _⟩, cb⟩ := (C8 (f := 41) (es := 4) (by simp [pfs]) (l := jk b) t (by rw [jc]; omega) (xh _) (Xi _)).call rfl (by simp [ft, gg, lk, ht, xh])
   have hBx := hBlx.len
   rw [b7] at hBx
   obtain ⟨tb', V2, q1, q2, q3⟩ := s8 (es := 1) (xs := [.sl (jk b) t']) hApp (by simp only [ak, ao]; omega) (aw.2 λ y hy => by
    obtain ⟨q, hq⟩ := List.mem_iff_getElem?.1 hy
    obtain ⟨b, a, _, _, _, e4, e5⟩ := hBlx.at (i := q) (List.getElem?_eq_some_iff.1 hq).1
    rw [hq] at e4; cases e4
    exact a2j e5) rfl
   have hml := fy b1
   simp only [a1i] at b1
   simp only [↓fh, wall, simprocAttr, wH, e5, e23, e24, e25, hdec, d4, hBa, b1, cb, q1]
   refine j6 ⟨j + 1, by omega, _, _, by omega, e5, e23, e24, gw (by omega), ?_, ⟨λ k o hk => ?_, λ i v hv => ?_⟩, ?_, q2, dq hV q3.1, λ i v e => ?_⟩
   ·rw [b9, if_pos rfl, if_pos hml]; rfl
   ·have hk' := hAp.h k o hk
    have := fy hk
    rw [b9, if_neg (by omega)]; exact hk'
   ·have := (List.getElem?_eq_some_iff.1 hv).1
    exact q3.2.1 i v (hAp.v i v hv) λ ver e => by have := hown i ver e; omega
   ·rw [bj, d0]
    exact hBlx.append (.one ⟨t', rfl⟩)
   ·rcases q3.2.2 i v e with ⟨v0, h⟩ | h
    ·exact hown i v0 h
    ·omega
  ·have hdec : decide ((j : Int) < Bs.length) = false := by simpa using hge
   rw [au (by omega)] at hBlx
   have hml := fy b1
   simp only [a1i] at b1
   simp only [↓fh, wall, simprocAttr, wH, e5, e23, e24, e25, hdec, b1, gq, fj]
   refine ⟨_, _, rfl, ⟨λ k o hk => ?_, hAp.v⟩, .inr ⟨hz', m, Bl, tb, u2, u3, by omega, rfl, ?_, hBlx⟩⟩
   ·have hk' := hAp.h k o hk
    have := fy hk
    rw [b9, if_neg (by omega)]; exact hk'
   ·rw [b9, if_pos rfl, if_pos hml]; rfl
 ·subst hm
  exact ⟨[], .nil, dj _, rfl, rfl, rfl, rfl, by simp [a1i], .app _ _ _, trivial, .inl ⟨rfl, rfl⟩, dh _, λ _ _ e => by cases e⟩
section
variable {c : Cd} {Bl : List AV} {tb t2 t3 : Tl} {bk at' : Int} {ea sa fa : AV} {steps : Int} {hlt : Bool} {err : Int} {m : Nat} {H : List fp} {V : List Nat}
theorem Rt (h : H[m]? = some (.cells false (mcs Bl tb t2 t3 c bk at' ea sa fa steps hlt err m))) : Rw 21 [.ptr m 0] ⟨H, V⟩ λ v s1 => s1 = ⟨H, V⟩ /\ v = .int steps := by
 refine lf pf21_is (dg rfl) ?_
 simp only [mcs] at h
 simp only [pf21, ↓fh, wall, simprocAttr, wH, gq, fj, h]
end
end Go.Proofs.Eng
