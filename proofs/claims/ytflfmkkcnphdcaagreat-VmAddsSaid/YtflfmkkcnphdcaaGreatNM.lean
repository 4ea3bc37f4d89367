/- vm.New. No conditions beyond those in the theorems. -/
import Derived.Test.YtflfmkkcnphdcaaGreatK4
import Derived.Test.YtflfmkkcnphdcaaGreatG5
import Derived.Test.YtflfmkkcnphdcaaGreatG4
import Derived.Test.YtflfmkkcnphdcaaGreatRows
set_option linter.all false
set_option linter.deprecated false
set_option linter.unnecessarySimpa false
set_option linter.unusedVariables false
set_option linter.unusedSimpArgs false
set_option linter.defProp false
namespace Go.Proofs.Eng
open Go Go.Proofs
set_option maxRecDepth 100000
set_option maxHeartbeats 16000000
theorem K7 {S : List Int} {b : Nat} (h : b < S.length) : (ints S)[b]? = some (.int (S.getD b 0)) := by
 have := aa h
 rw [ints, bh, List.getD, this]; rfl
theorem Eo {S : List Int} {b : Nat} {v : Int} (h : b < S.length) : (ints S).take b ++ .v (.int .i64 v) :: (ints S).drop (b + 1) = ints (S.set b v) := by
 simp only [ints, List.map_set]
 rw [List.set_eq_take_append_cons_drop, if_pos (by simpa using h)]
section
variable {ki si q : Nat} {Bs : List AV} {t1 t2 t3 : Tl} {c : Cd} {S : List Int} {H : List fp} {V : List Nat}
theorem Kw (h : KS ki si Bs t1 t2 t3 c S H) {n : Nat} {env st bi br : Int} (hq : H[q]? = some (.cells false [.int n, .int env, .int st, .int bi, .int br])) {b : Int} {m : Int} (h0 : 0 <= b) (h1 : b < c.bl.length) (hw : m7 (env + m)) :
  Sh md pfs 168 [.ptr ki 0, .ptr q 0, .int b, .int m] ⟨H, V⟩ (λ v s => match yi n S b (env + m) with | .error e => v = .int e /\ s = ⟨H, V⟩ | .ok S' => v = .int 0 /\ s = ⟨H.set si (.cells false (ints S')), V⟩) λ _ _ => False := by
 obtain ⟨b, rfl⟩ : ∃ k : Nat, b = k := ⟨b.toNat, by omega⟩
 have hk := h.k
 have hs := h.s
 have hlt : b < S.length := by rw [h.sl]; omega
 have hb : (List.drop b (ints S)).head? = some (.int (S.getD b 0)) := by rw [List.head?_drop]; exact K7 hlt
 have hbs : (b : Int) < ((ints S).length : Nat) := by rw [ig]; omega
 have hset := Eo (v := env + m) hlt
 have hlb : (b : Int) < c.bl.length := h1
 rw [yi]
 simp only [ew]
 cases d1 : decide (S.getD b 0 >= 0)
 ·rw [if_neg (by simpa using d1)]
  cases d2 : decide ((b : Int) <= (n : Nat))
  ·rw [if_neg (by simpa using d2)]
   refine kg pf168_is (dh rfl) ?_
   simp only [pf168, ↓fj, wall, simprocAttr, wH, hk, hs, hq, Nat.mul_one, hb, hbs, hlb, d1, d2, hset, je hw]
   rw [ig]; omega
  ·rw [if_pos (by simpa using d2)]
   refine kg pf168_is (dh rfl) ?_
   simp only [pf168, ↓fj, wall, simprocAttr, wH, hk, hs, hq, Nat.mul_one, hb, hbs, hlb, d1, d2]
 ·rw [if_pos (by simpa using d1)]
  refine kg pf168_is (dh rfl) ?_
  simp only [pf168, ↓fj, wall, simprocAttr, wH, hk, hs, hq, Nat.mul_one, hb, hbs, hlb, d1]
theorem KS.enter (h : KS ki si Bs t1 t2 t3 c S H) {S' : List Int} (hl : S'.length = S.length) : KS ki si Bs t1 t2 t3 c S' (H.set si (.cells false (ints S'))) :=
 ⟨qi h.k h.ne.symm, by rw [b9, if_pos rfl, if_pos (fy h.s)], hl.trans h.sl, h.ne, h.bl, h.p1, h.gl⟩
theorem S5 (h : KS ki si Bs t1 t2 t3 c S H) {n : Nat} {env st bi br : Int} (hq : H[q]? = some (.cells false [.int n, .int env, .int st, .int bi, .int br])) (x : Ins) (h0 : x.op = 1 \/ x.op = 6 -> 0 <= x.a /\ x.a < c.bl.length) (hw1 : m7 (env + 1)) (hw : x.op = 6 -> m7 (env + x.b)) :
  Sh md pfs 140 [.ptr ki 0, .ptr q 0, x.av] ⟨H, V⟩ (λ v s => match tc n x ⟨S, env, st, bi, br⟩ with | .error e => v = .int e /\ ∃ G, s = ⟨H ++ G, V⟩ | .ok S' => v = .int 0 /\ S'.length = S.length /\ ∃ G, s = ⟨(H ++ G).set si (.cells false (ints S')), V⟩) λ _ _ => False := by
 obtain ⟨op, a, b, nm⟩ := x
 simp only at h0 hw
 have hA := h.app [.cells false [.int op, .int a, .int b, .str nm]]
 have hqA := gy hq [fp.cells false [.int op, .int a, .int b, .str nm]]
 have hop : op = 1 \/ op = 6 \/ op = 0 \/ ((op == 1) = false /\ (op == 6) = false /\ (op == 0) = false) := by
  simp only [beq_eq_false_iff_ne]; omega
 have hsS : (H ++ [fp.cells false [.int op, .int a, .int b, .str nm]]).set si (.cells false (ints S)) = H ++ [fp.cells false [.int op, .int a, .int b, .str nm]] := by
  apply List.ext_getElem?
  intro k
  by_cases hk : si = k
  ·subst hk; rw [b9, if_pos rfl, if_pos (fy hA.s)]; exact hA.s.symm
  ·rw [b9, if_neg hk]
 have hent : ∀ {b' m S'}, yi n S b' m = .ok S' -> S'.length = S.length := λ {b' m S'} e => by
  unfold yi at e
  split at e
  ·cases e
  ·split at e
   ·cases e
   ·cases e; simp
 rw [tc]
 rcases hop with rfl | rfl | rfl | ⟨o1, o6, o0⟩
 ·rw [if_pos rfl]
  obtain ⟨v, s, hp, hc⟩ := (Kw (V := V) hA hqA (h0 (.inl rfl)).1 (h0 (.inl rfl)).2 hw1).sw rfl
  simp only
  refine kg pf140_is (dh rfl) ?_
  cases he : yi n S a (env + 1) with
  | error e =>
   rw [he] at hp
   obtain ⟨rfl, rfl⟩ := hp
   simp only [pf140, Ins.av, ↓fj, wall, simprocAttr, wH, hc]
   exact ⟨_, rfl⟩
  | ok S' =>
   rw [he] at hp
   obtain ⟨rfl, rfl⟩ := hp
   simp only [pf140, Ins.av, ↓fj, wall, simprocAttr, wH, hc]
   exact ⟨hent he, _, rfl⟩
 ·rw [if_neg (by simp), if_pos rfl]
  obtain ⟨v, s, hp, hc⟩ := (Kw (V := V) hA hqA (h0 (.inr rfl)).1 (h0 (.inr rfl)).2 (hw rfl)).sw rfl
  simp only
  refine kg pf140_is (dh rfl) ?_
  cases he : yi n S a (env + b) with
  | error e =>
   rw [he] at hp
   obtain ⟨rfl, rfl⟩ := hp
   simp only [pf140, Ins.av, ↓fj, wall, simprocAttr, wH, hc]
   exact ⟨_, rfl⟩
  | ok S' =>
   rw [he] at hp
   obtain ⟨rfl, rfl⟩ := hp
   simp only [pf140, Ins.av, ↓fj, wall, simprocAttr, wH, hc]
   exact ⟨hent he, _, rfl⟩
 ·rw [if_neg (by simp), if_neg (by simp)]
  cases d : decide (a >= env)
  ·rw [if_neg (by simpa using d)]
   refine kg pf140_is (dh rfl) ?_
   simp only [pf140, Ins.av, ↓fj, wall, simprocAttr, wH, hqA, d]
   exact ⟨_, by rw [hsS]⟩
  ·rw [if_pos (by simpa using d)]
   refine kg pf140_is (dh rfl) ?_
   simp only [pf140, Ins.av, ↓fj, wall, simprocAttr, wH, hqA, d]
   exact ⟨_, rfl⟩
 ·rw [if_neg (by simpa using o1), if_neg (by simpa using o6), if_neg (by rintro ⟨h, _⟩; exact ne_of_beq_false o0 h)]
  refine kg pf140_is (dh rfl) ?_
  simp only [pf140, Ins.av, ↓fj, wall, simprocAttr, wH, o1, o6, o0]
  exact ⟨_, by rw [hsS]⟩
theorem M8 {n : Nat} {env st bi br : Int} (hq : H[q]? = some (.cells false [.int n, .int env, .int st, .int bi, .int br])) (x : Ins) (rest : List Ins) (h0 : 0 <= x.op) (h1 : x.op <= 14) (hb : 0 <= x.b) (hst : 0 <= st /\ st <= B62) (hbi : 0 <= bi /\ bi <= B62) (hen : -B62 <= env /\ env <= B62) (hbr : 0 <= br /\ br <= B62) :
  Sh md pfs 141 [.ptr q 0, x.av, .bool rest.isEmpty] ⟨H, V⟩ (λ v s => match By x rest S ⟨S, env, st, bi, br⟩ with | .error e => v = .int e /\ ∃ H', s = ⟨H', V⟩ | .ok t => v = .int 0 /\ t.S = S /\ ∃ G, s = ⟨(H ++ G).set q (.cells false [.int n, .int t.env, .int t.stack, .int t.binds, .int t.br]), V⟩) λ _ _ => False := by
 obtain ⟨op, a, b, nm⟩ := x
 simp only at h0 h1 hb
 have hB : B62 = 4611686018427387904 := rfl
 have hqA := gy hq [fp.cells false [.int op, .int a, .int b, .str nm]]
 obtain ⟨_, rfl, ce⟩ := (Nw ⟨op, a, b, nm⟩ h0 h1).call rfl (by simp [ga, gu, mg, Ins.av, lu])
 simp only [Ins.av] at ce
 have hpp : 0 <= jq ⟨op, a, b, nm⟩ /\ 0 <= j7 ⟨op, a, b, nm⟩ /\ j7 ⟨op, a, b, nm⟩ <= 1 := by
  refine ⟨?_, ?_, ?_⟩
  ·unfold jq; simp only; split
   ·omega
   ·split
    ·exact hb
    ·split <;> omega
  ·unfold j7; split <;> omega
  ·unfold j7; split <;> omega
 obtain ⟨po, hpo⟩ : ∃ po, po = jq ⟨op, a, b, nm⟩ := ⟨_, rfl⟩
 obtain ⟨pu, hpu⟩ : ∃ pu, pu = j7 ⟨op, a, b, nm⟩ := ⟨_, rfl⟩
 rw [<- hpo, <- hpu] at ce hpp
 have hex : By ⟨op, a, b, nm⟩ rest S ⟨S, env, st, bi, br⟩ = if st < po \/ op = 10 /\ bi = 0 then .error 27 else if (op == 3) != rest.isEmpty then .error 3 else if op = 3 /\ (st - po + pu ≠ 1 \/ k9 ⟨op, a, b, nm⟩ bi ≠ 0) then .error 27 else .ok ⟨S, k9 ⟨op, a, b, nm⟩ env, st - po + pu, k9 ⟨op, a, b, nm⟩ bi, brI ⟨op, a, b, nm⟩ br⟩ := by rw [hpo, hpu]; rfl
 rw [hex]
 clear hex
 have hqs : ∀ Y, ((H ++ [fp.cells false [.int op, .int a, .int b, .str nm]]).set q Y)[q]? = some Y := λ Y => by rw [b9, if_pos rfl, if_pos (fy hqA)]
 have hlq := fy hq
 have hxs : ∀ Y, ((H ++ [fp.cells false [.int op, .int a, .int b, .str nm]]).set q Y)[H.length]? = some (fp.cells false [.int op, .int a, .int b, .str nm]) := λ Y => by rw [b9, if_neg (by omega)]; simp
 have SS : ∀ (Y Z : fp), ((H ++ [fp.cells false [.int op, .int a, .int b, .str nm]]).set q Y).set q Z = (H ++ [fp.cells false [.int op, .int a, .int b, .str nm]]).set q Z := λ Y Z => List.set_set ..
 have hm : (if br - 1 > 0 then br - 1 else 0) = max 0 (br - 1) := by split <;> omega
 have w1 : IntKind.i64.wrap (br - 1) = br - 1 := je (by unfold m7; omega)
 obtain ⟨l, hl⟩ : ∃ l, l = rest.isEmpty := ⟨_, rfl⟩
 rw [<- hl]
 refine kg pf141_is (dh rfl) ?_
 cases d1 : decide (st < po)
 case true =>
  rw [if_pos (.inl (by simpa using d1))]
  cases h5 : (op == 5)
  all_goals
   simp only [pf141, Ins.av, ↓fj, wall, simprocAttr, wH, hqA, hqs, hxs, hm, w1, ce, d1, h5, SS, show ((false : Bool) == true) = false from rfl, show ((true : Bool) == false) = false from rfl, dz, ed]
   exact ⟨_, rfl⟩
 have d1' : ¬ st < po := by simpa using d1
 have w2 : IntKind.i64.wrap (pu - po) = pu - po := je (by unfold m7; omega)
 have w3 : IntKind.i64.wrap (st + (pu - po)) = st - po + pu := by rw [je (by unfold m7; omega)]; omega
 have hop : op = 5 \/ op = 9 \/ op = 10 \/ op = 3 \/ ((op == 5) = false /\ (op == 9) = false /\ (op == 10) = false /\ (op == 3) = false) := by
  simp only [beq_eq_false_iff_ne]; omega
 generalize hz : st - po + pu = z at w3
 rcases hop with rfl | rfl | rfl | rfl | ⟨o5, o9, o10, o3⟩
 ·rw [if_neg (by omega)]
  cases l
  ·rw [if_neg (by decide), if_neg (by omega)]
   simp only [pf141, Ins.av, ↓fj, wall, simprocAttr, wH, hqA, hqs, hxs, hm, w1, w2, w3, ce, d1, SS, show ((false : Bool) == true) = false from rfl, show ((true : Bool) == false) = false from rfl, dz, ed]
   first | exact ⟨_, rfl⟩ | exact ⟨trivial, _, rfl⟩
  ·rw [if_pos (by decide)]
   simp only [pf141, Ins.av, ↓fj, wall, simprocAttr, wH, hqA, hqs, hxs, hm, w1, w2, w3, ce, d1, SS, show ((false : Bool) == true) = false from rfl, show ((true : Bool) == false) = false from rfl, dz, ed]
   exact ⟨_, rfl⟩
 ·have w4 : IntKind.i64.wrap (env + 1) = env + 1 := je (by unfold m7; omega)
  have w5 : IntKind.i64.wrap (bi + 1) = bi + 1 := je (by unfold m7; omega)
  rw [if_neg (by omega)]
  cases l
  ·rw [if_neg (by decide), if_neg (by omega)]
   simp only [pf141, Ins.av, ↓fj, wall, simprocAttr, wH, hqA, hqs, hxs, hm, w1, w2, w3, w4, w5, ce, d1, SS, show ((false : Bool) == true) = false from rfl, show ((true : Bool) == false) = false from rfl, dz, ed]
   first | exact ⟨_, rfl⟩ | exact ⟨trivial, _, rfl⟩
  ·rw [if_pos (by decide)]
   simp only [pf141, Ins.av, ↓fj, wall, simprocAttr, wH, hqA, hqs, hxs, hm, w1, w2, w3, w4, w5, ce, d1, SS, show ((false : Bool) == true) = false from rfl, show ((true : Bool) == false) = false from rfl, dz, ed]
   exact ⟨_, rfl⟩
 ·have w4 : IntKind.i64.wrap (env - 1) = env - 1 := je (by unfold m7; omega)
  have w5 : IntKind.i64.wrap (bi - 1) = bi - 1 := je (by unfold m7; omega)
  cases d2 : (bi == 0)
  ·have d2' := ne_of_beq_false d2
   rw [if_neg (by omega)]
   cases l
   ·rw [if_neg (by decide), if_neg (by omega)]
    simp only [pf141, Ins.av, ↓fj, wall, simprocAttr, wH, hqA, hqs, hxs, hm, w1, w2, w3, w4, w5, ce, d1, d2, SS, show ((false : Bool) == true) = false from rfl, show ((true : Bool) == false) = false from rfl, dz, ed]
    first | exact ⟨_, rfl⟩ | exact ⟨trivial, _, rfl⟩
   ·rw [if_pos (by decide)]
    simp only [pf141, Ins.av, ↓fj, wall, simprocAttr, wH, hqA, hqs, hxs, hm, w1, w2, w3, w4, w5, ce, d1, d2, SS, show ((false : Bool) == true) = false from rfl, show ((true : Bool) == false) = false from rfl, dz, ed]
    exact ⟨_, rfl⟩
  ·have d2' := eq_of_beq d2
   rw [if_pos (.inr ⟨rfl, d2'⟩)]
   simp only [pf141, Ins.av, ↓fj, wall, simprocAttr, wH, hqA, hqs, hxs, hm, w1, w2, w3, ce, d1, d2, SS, show ((false : Bool) == true) = false from rfl, show ((true : Bool) == false) = false from rfl, dz, ed]
   exact ⟨_, rfl⟩
 ·rw [if_neg (by omega)]
  cases l
  ·rw [if_pos (by decide)]
   simp only [pf141, Ins.av, ↓fj, wall, simprocAttr, wH, hqA, hqs, hxs, hm, w1, w2, w3, ce, d1, SS, show ((false : Bool) == true) = false from rfl, show ((true : Bool) == false) = false from rfl, dz, ed]
   exact ⟨_, rfl⟩
  ·rw [if_neg (by decide)]
   cases d3 : (z != 1)
   ·cases d4 : (bi != 0)
    ·have e3 : z = 1 := by simpa [bne] using d3
     have e4 : bi = 0 := by simpa [bne] using d4
     rw [if_neg (λ h => h.2.elim (λ h => h e3) λ h => h e4)]
     simp only [pf141, Ins.av, ↓fj, wall, simprocAttr, wH, hqA, hqs, hxs, hm, w1, w2, w3, ce, d1, d3, d4, SS, show ((false : Bool) == true) = false from rfl, show ((true : Bool) == false) = false from rfl, dz, ed]
     first | exact ⟨_, rfl⟩ | exact ⟨trivial, _, rfl⟩
    ·have e4 : bi ≠ 0 := by simpa [bne] using d4
     rw [if_pos ⟨rfl, .inr e4⟩]
     simp only [pf141, Ins.av, ↓fj, wall, simprocAttr, wH, hqA, hqs, hxs, hm, w1, w2, w3, ce, d1, d3, d4, SS, show ((false : Bool) == true) = false from rfl, show ((true : Bool) == false) = false from rfl, dz, ed]
     exact ⟨_, rfl⟩
   ·have e3 : z ≠ 1 := by simpa [bne] using d3
    rw [if_pos ⟨rfl, .inl e3⟩]
    simp only [pf141, Ins.av, ↓fj, wall, simprocAttr, wH, hqA, hqs, hxs, hm, w1, w2, w3, ce, d1, d3, SS, show ((false : Bool) == true) = false from rfl, show ((true : Bool) == false) = false from rfl, dz, ed]
    exact ⟨_, rfl⟩
 ·have e10 := ne_of_beq_false o10
  have e3 := ne_of_beq_false o3
  have e9 := ne_of_beq_false o9
  have e5 := ne_of_beq_false o5
  have E1 : ∀ v, k9 ⟨op, a, b, nm⟩ v = v := λ v => by simp only [k9, if_neg e9, if_neg e10]
  have E2 : brI ⟨op, a, b, nm⟩ br = max 0 (br - 1) := by simp only [brI, if_neg e5]
  rw [if_neg (λ h => h.elim d1' λ h => e10 h.1), o3, E1, E1, E2]
  cases l
  ·rw [if_neg (by decide), if_neg (by rintro ⟨h, _⟩; exact e3 h)]
   simp only [pf141, Ins.av, ↓fj, wall, simprocAttr, wH, hqA, hqs, hxs, hm, w1, w2, w3, ce, d1, o5, o9, o10, o3, SS, show ((false : Bool) == true) = false from rfl, show ((true : Bool) == false) = false from rfl, dz, ed]
   first | exact ⟨_, rfl⟩ | exact ⟨trivial, _, rfl⟩
  ·rw [if_pos (by decide)]
   simp only [pf141, Ins.av, ↓fj, wall, simprocAttr, wH, hqA, hqs, hxs, hm, w1, w2, w3, ce, d1, o5, o9, o10, o3, SS, show ((false : Bool) == true) = false from rfl, show ((true : Bool) == false) = false from rfl, dz, ed]
   exact ⟨_, rfl⟩
end
end Go.Proofs.Eng
namespace Go.Proofs.Eng
open Go Go.Proofs
set_option maxRecDepth 100000
set_option maxHeartbeats 16000000
theorem Pb {nb ng : Nat} {x : Ins} {rest : List Ins} {br : Int} (h : mw nb ng x rest br = 0) : (0 <= x.op /\ x.op <= 14 /\ 0 <= x.a /\ 0 <= x.b) /\ (x.op = 1 \/ x.op = 6 -> x.a < nb) /\ (x.op = 6 -> x.b <= 64) /\ (x.op = 5 -> x.a <= 32) := by
 unfold mw at h
 split at h
 ·omega
 rename_i h1
 split at h
 ·omega
 split at h
 ·omega
 rename_i h3
 have h1 : sq x rest br = true := by simpa using h1
 simp only [sq, dx, decide_eq_true_eq] at h1
 obtain ⟨⟨⟨⟨⟨⟨⟨⟨a1, a2⟩, a3⟩, a4⟩, _⟩, _⟩, _⟩, _⟩, a5⟩ := h1
 simp only [ma, ei, dx, beq_iff_eq, decide_eq_true_eq, not_or, not_and, Int.not_le, Int.not_lt] at h3
 obtain ⟨⟨⟨_, h6⟩, h16⟩, _⟩ := h3
 refine ⟨⟨a1, a2, a3, a4⟩, λ h => h16 h, λ h => h6 h, λ h => ?_⟩
 have h5 : (x.op != 5) = false := by simp [h]
 rw [h5, Bool.false_or, Aa] at a5
 simp only [dx, decide_eq_true_eq] at a5
 exact a5.1.1
theorem N4 {nb ng n : Nat} {x : Ins} {rest : List Ins} {t : Sk} {e : Int} (h : stp nb ng n x rest t = .error e) : e ≠ 0 := by
 unfold stp at h
 split at h
 ·rename_i h1
  simp only [Except.error.injEq] at h; rw [<- h]; exact h1
 ·split at h
  ·rename_i h2
   simp only [Except.error.injEq] at h; subst h
   unfold tc yi at h2
   repeat' split at h2
   all_goals first | (simp only [Except.error.injEq] at h2; subst h2; decide) | cases h2
  ·unfold By at h
   repeat' split at h
   all_goals first | (simp only [Except.error.injEq] at h; subst h; decide) | cases h
theorem Oz {nb ng n : Nat} {suf : List Ins} : ∀ {l : List Ins} {t : Sk} {e : Int}, l6 nb ng n suf l t = .error e -> e ≠ 0
 | [], t, e, h => by cases h
 | x :: l, t, e, h => by
  rw [l6] at h
  split at h
  ·rename_i e' h1
   simp only [Except.error.injEq] at h; subst h
   exact N4 h1
  ·exact Oz h
def SB (W : Int) (S : List Int) : Prop := ∀ s ∈ S, s <= W
theorem SB.mono {W W' : Int} {S : List Int} (h : SB W S) (hw : W <= W') : SB W' S := λ s hs => Int.le_trans (h s hs) hw
theorem SB.set {W : Int} {S : List Int} (h : SB W S) {k : Nat} {v : Int} (hv : v <= W) : SB W (S.set k v) := λ s hs => by
 rcases List.mem_or_eq_of_mem_set hs with h' | rfl
 ·exact h s h'
 ·exact hv
structure Bd (W : Int) (e0 : Int) (j : Nat) (t : Sk) : Prop where
 st : 0 <= t.stack /\ t.stack <= j
 bi : 0 <= t.binds /\ t.binds <= j
 en : t.env = e0 + t.binds
 br : 0 <= t.br /\ t.br <= 32
 sb : SB (W + 64 + j) t.S
theorem Bd.step {W e0 : Int} {j nb ng n : Nat} {x : Ins} {rest : List Ins} {t t' : Sk} (h : Bd W e0 j t) (h0 : 0 <= e0) (h1 : e0 <= W) (hs : stp nb ng n x rest t = .ok t') : Bd W e0 (j + 1) t' := by
 unfold stp at hs
 split at hs
 ·cases hs
 rename_i hf
 obtain ⟨⟨f1, f2, f3, f4⟩, f5, f6, f7⟩ := Pb (by simpa using hf)
 split at hs
 ·cases hs
 rename_i S' hr
 obtain ⟨⟨s1, s2⟩, ⟨b1, b2⟩, he, ⟨r1, r2⟩, hsb⟩ := h
 have hS' : SB (W + 64 + (j + 1 : Nat)) S' := by
  unfold tc at hr
  have hsb' := hsb.mono (W' := W + 64 + (j + 1 : Nat)) (by omega)
  have hent : ∀ {b m}, yi n t.S b m = .ok S' -> m <= W + 64 + (j + 1 : Nat) -> SB (W + 64 + (j + 1 : Nat)) S' := λ {b m} e hm => by
   unfold yi at e
   split at e
   ·cases e
   ·split at e
    ·cases e
    ·cases e; exact hsb'.set hm
  split at hr
  ·exact hent hr (by omega)
  ·split at hr
   ·rename_i h6
    have := f6 h6
    exact hent hr (by omega)
   ·split at hr
    ·cases hr
    ·cases hr; exact hsb'
 unfold By at hs
 split at hs
 ·cases hs
 rename_i g1
 split at hs
 ·cases hs
 split at hs
 ·cases hs
 simp only [Except.ok.injEq] at hs
 subst hs
 have g2 : ¬ t.stack < jq x := λ h => g1 (.inl h)
 have g3 : ¬ (x.op = 10 /\ t.binds = 0) := λ h => g1 (.inr h)
 have hp : 0 <= jq x := by unfold jq; repeat' split <;> omega
 have hq : 0 <= j7 x /\ j7 x <= 1 := by unfold j7; split <;> omega
 refine ⟨⟨by simp only; omega, by simp only; omega⟩, ?_, ?_, ?_, hS'⟩
 ·simp only [k9]
  split
  ·omega
  ·split
   ·rename_i h10
    have : t.binds ≠ 0 := λ h => g3 ⟨h10, h⟩
    omega
   ·omega
 ·simp only [k9]
  split
  ·omega
  ·split <;> omega
 ·simp only [brI]
  split
  ·rename_i h5; exact ⟨f3, f7 h5⟩
  ·omega
def Hx (nb ng n : Nat) (l : List Ins) (S : List Int) : Except Int (List Int) := if S.getD n 0 < 0 then .error 9 else if l = [] then .error 3 else match l6 nb ng n [] l ⟨S, S.getD n 0, 0, 0, 0⟩ with
 | .error e => .error e
 | .ok t => .ok t.S
theorem Za (nb ng n : Nat) (l : List Ins) (r : List (List Ins)) (S : List Int) : goB nb ng n (l :: r) S = match Hx nb ng n l S with
  | .error e => e
  | .ok S' => goB nb ng (n + 1) r S' := by
 rw [goB, Hx]
 split
 ·rfl
 ·split
  ·rfl
  ·cases l6 nb ng n [] l ⟨S, S.getD n 0, 0, 0, 0⟩ <;> rfl
theorem Zj {nb ng n : Nat} {l : List Ins} {S : List Int} {e : Int} (h : Hx nb ng n l S = .error e) : e ≠ 0 := by
 unfold Hx at h
 split at h
 ·simp only [Except.error.injEq] at h; subst h; decide
 ·split at h
  ·simp only [Except.error.injEq] at h; subst h; decide
  ·split at h
   ·rename_i h1
    simp only [Except.error.injEq] at h; subst h
    exact Oz h1
   ·cases h
theorem Q6 {W e0 : Int} {nb ng n : Nat} (h0 : 0 <= e0) (h1 : e0 <= W) : ∀ {l : List Ins} {j : Nat} {t t' : Sk}, Bd W e0 j t -> l6 nb ng n [] l t = .ok t' -> Bd W e0 (j + l.length) t'
 | [], j, t, t', h, e => by cases e; exact h
 | x :: l, j, t, t', h, e => by
  rw [l6] at e
  split at e
  ·cases e
  ·rename_i t1 h2
   have := Q6 h0 h1 (h.step h0 h1 h2) e
   rw [ak, show j + (l.length + 1) = j + 1 + l.length from by omega]; exact this
theorem a19 {W : Int} {nb ng n : Nat} {l : List Ins} {S S' : List Int} (hS : SB W S) (hW : 0 <= W) (h : Hx nb ng n l S = .ok S') : SB (W + 64 + l.length) S' := by
 unfold Hx at h
 split at h
 ·cases h
 rename_i h1
 split at h
 ·cases h
 split at h
 ·cases h
 rename_i t h2
 cases h
 have h3 : S.getD n 0 <= W := by
  rw [List.getD]
  cases hg : S[n]? with
  | none => simpa using hW
  | some v => exact hS v (aq hg)
 have := Q6 (j := 0) (W := W) (e0 := S.getD n 0) (by omega) h3 ⟨⟨by simp, by simp⟩, ⟨by simp, by simp⟩, by simp, ⟨by simp, by simp⟩, hS.mono (by show W <= W + 64 + ((0 : Nat) : Int); omega)⟩ h2
 simpa using this.sb
end Go.Proofs.Eng
namespace Go.Proofs.Eng
open Go Go.Proofs
set_option maxRecDepth 100000
set_option maxHeartbeats 16000000
theorem KS.set {ki si q : Nat} {Bs : List AV} {t1 t2 t3 : Tl} {c : Cd} {S : List Int} {H : List fp} (h : KS ki si Bs t1 t2 t3 c S H) {o : fp} (h1 : q ≠ ki) (h2 : q ≠ si) : KS ki si Bs t1 t2 t3 c S (H.set q o) :=
 ⟨qi h.k h1, qi h.s h2, h.sl, h.ne, h.bl, h.p1, h.gl⟩
section
variable {ki si : Nat} {Bs : List AV} {t1 t2 t3 : Tl} {c : Cd} {S : List Int} {H : List fp} {V : List Nat}
theorem Sc (h : KS ki si Bs t1 t2 t3 c S H) {n : Nat} {l : List Ins} (hn : c.bl[n]? = some l) (hnm : ∀ x ∈ l, x.n.size <= jh) {W : Int} (hS : SB W S) (hW : 0 <= W) (hWl : W + l.length <= 1000000000000000000) :
  Sh md pfs 89 [.ptr ki 0, .int n] ⟨H, V⟩ (λ v s => match Hx c.bl.length c.gl.length n l S with | .error e => v = .int e /\ ∃ H', s = ⟨H', V⟩ | .ok S' => v = .int 0 /\ ∃ H', s = ⟨H', V⟩ /\ KS ki si Bs t1 t2 t3 c S' H' /\ S'.length = S.length) λ _ _ => False := by
 have hB : B62 = 4611686018427387904 := rfl
 have hk := h.k
 have hs := h.s
 have hBl := h.bl.len
 have hnl : n < c.bl.length := (List.getElem?_eq_some_iff.1 hn).1
 obtain ⟨l', a, d0, _, _, d4, ⟨tb, rfl, htb, hll⟩⟩ := h.bl.at (i := n) (by omega)
 rw [hn] at d0; cases d0
 have hnS : n < S.length := by rw [h.sl]; exact hnl
 have hSn : (List.drop n (ints S)).head? = some (.int (S.getD n 0)) := by rw [List.head?_drop]; exact K7 hnS
 have hnB : (n : Int) < Bs.length := by omega
 have hnC : (n : Int) < c.bl.length := by omega
 have hallB : (Bs.all λ x => x.cells.length == 1) = true := aw.2 λ y hy => by
  obtain ⟨q, hq⟩ := List.mem_iff_getElem?.1 hy
  obtain ⟨b, a, _, _, _, e4, ⟨t, rfl, _⟩⟩ := h.bl.at (i := q) (List.getElem?_eq_some_iff.1 hq).1
  rw [hq] at e4; cases e4; rfl
 have hkl := fy hk
 have hsl := fy hs
 refine kg pf89_is (dh rfl) ?_
 rw [Hx]
 cases d1 : decide (S.getD n 0 < 0)
 case true =>
  rw [if_pos (by simpa using d1)]
  simp only [pf89, ↓fj, wall, simprocAttr, wH, hk, hs, hnB, hnC, d4, hallB, Nat.mul_one, hSn, d1]
  exact ⟨_, rfl⟩
 rw [if_neg (by simpa using d1)]
 have d1' : ¬ S.getD n 0 < 0 := by simpa using d1
 cases d2 : (((l.length : Nat) : Int) == 0)
 case true =>
  have : l = [] := by have := eq_of_beq d2; exact List.length_eq_zero_iff.1 (by omega)
  rw [if_pos this]
  simp only [pf89, ↓fj, wall, simprocAttr, wH, hk, hs, hnB, hnC, d4, hallB, Nat.mul_one, hSn, jb, d1, d2]
  exact ⟨_, rfl⟩
 have d2' : l.length ≠ 0 := by have := ne_of_beq_false d2; omega
 rw [if_neg (λ e => d2' (by rw [e]; rfl))]
 generalize hS0 : S.getD n 0 = e0 at *
 have he0 : e0 <= W := by
  rw [<- hS0, List.getD, aa hnS]; exact hS _ (List.getElem_mem hnS)
 generalize hR : l6 c.bl.length c.gl.length n [] l ⟨S, e0, 0, 0, 0⟩ = R
 simp only [pf89, ↓fj, wall, simprocAttr, wH, hk, hs, hnB, hnC, d4, hallB, Nat.mul_one, hSn, jb, d1, d2]
 refine j6 (λ j => l.length - j) (λ j E H1 V1 => j <= l.length /\ V1 = V /\ E 0 = .ptr ki 0 /\ E 6 = .ptr H.length 0 /\ E 5 = .sl (jj l) tb /\ E 41 = .sl (jj l) tb /\ E 42 = .int l.length /\ E 43 = .int j /\ ∃ t : Sk, KS ki si Bs t1 t2 t3 c t.S H1 /\ t.S.length = S.length /\ Bd W e0 j t /\ H1[H.length]? = some (.cells false [.int n, .int t.env, .int t.stack, .int t.binds, .int t.br]) /\ l6 c.bl.length c.gl.length n [] (l.drop j) t = R) ?_ 0 ?_
 ·rintro j E H1 V1 ⟨hj, rfl, e0', e6, e5, e41, e42, e43, t, k1, k2, k3, k4, k5⟩
  rcases dj j l.length with hlt | hge
  ·have hdec : decide ((j : Int) < l.length) = true := by simpa using hlt
   obtain ⟨x, x0, x4⟩ := Pk hlt
   have hdr : l.drop j = x :: l.drop (j + 1) := by
    obtain ⟨h, rfl⟩ := List.getElem?_eq_some_iff.1 x0
    exact bx h
   rw [hdr, l6, List.append_nil] at k5
   obtain ⟨t', ht', hsu⟩ := Rb (es := 4) (al := jj l) htb (n := j + 1) (m := l.length) (by omega) (by rw [jb])
   have hsl2 : (jj l).drop (j + 1) = jj (l.drop (j + 1)) := by simp [jj]
   rw [hsl2] at hsu
   have kA := k1.app [.cells false [.int x.op, .int x.a, .int x.b, .str x.n]]
   have k4A := gy k4 [fp.cells false [.int x.op, .int x.a, .int x.b, .str x.n]]
   obtain ⟨_, _, ⟨rfl, G, rfl⟩, cf⟩ := (a0a (V := V1) kA x (rest := l.drop (j + 1)) (t := t') t.br ht' (by rw [b8]; omega) (hnm x (aq x0))).sw rfl
   have wj : IntKind.i64.wrap ((j : Int) + 1) = ((j + 1 : Nat) : Int) := by rw [je (by unfold m7; omega)]; omega
   have hj1 : ((j + 1 : Nat) : Int) <= l.length := by omega
   have hx2 : (H1 ++ [fp.cells false [.int x.op, .int x.a, .int x.b, .str x.n]] ++ G)[H1.length]? = some (.cells false [.int x.op, .int x.a, .int x.b, .str x.n]) := gy (by simp) G
   have kG := kA.app G
   have k4G := gy k4A G
   have hlH : H1.length < (H1 ++ [fp.cells false [.int x.op, .int x.a, .int x.b, .str x.n]] ++ G).length := fy hx2
   generalize H1 ++ [fp.cells false [.int x.op, .int x.a, .int x.b, .str x.n]] ++ G = H2 at *
   have hq1 : H.length ≠ H1.length := by have := fy k4; omega
   have hk1 : ki ≠ H1.length := by have := fy k1.k; omega
   have hs1 : si ≠ H1.length := by have := fy k1.s; omega
   have w42 : IntKind.i64.wrap (((l.length : Nat) : Int) - 1) = ((l.length - 1 : Nat) : Int) := by rw [je (by unfold m7; omega)]; omega
   have hlast : (((j : Nat) : Int) == ((l.length - 1 : Nat) : Int)) = (l.drop (j + 1)).isEmpty := by
    cases hd : l.drop (j + 1) with
    | nil =>
     have := List.drop_eq_nil_iff.1 hd
     rw [List.isEmpty_nil, beq_iff_eq]; omega
    | cons y r =>
     have := congrArg List.length hd
     rw [b8, ak] at this
     rw [List.isEmpty_cons, beq_eq_false_iff_ne]; omega
   simp only [Ins.av] at cf
   cases hf : (mw c.bl.length c.gl.length x (l.drop (j + 1)) t.br != 0)
   case true =>
    have hf' : mw c.bl.length c.gl.length x (l.drop (j + 1)) t.br ≠ 0 := by simpa [bne] using hf
    rw [stp, if_pos hf'] at k5
    rw [<- k5]
    simp only [↓fj, wall, simprocAttr, wH, e0', e6, e5, e41, e42, e43, hdec, x4, rq, jb, k4A, wj, hj1, hsu, cf, hf]
    exact ⟨_, rfl⟩
   have hf' : mw c.bl.length c.gl.length x (l.drop (j + 1)) t.br = 0 := by simpa [bne] using hf
   obtain ⟨⟨f1, f2, f3, f4⟩, f5, f6, f7⟩ := Pb hf'
   have kS := k3
   obtain ⟨⟨s1, s2⟩, ⟨b1, b2⟩, hen, ⟨r1, r2⟩, hsb⟩ := k3
   obtain ⟨vr, sr, hr, cr⟩ := (S5 (V := V1) kG k4G x (λ h => by
    rcases h with h | h
    ·exact ⟨f3, f5 (.inl h)⟩
    ·exact ⟨f3, f5 (.inr h)⟩) (by unfold m7; omega) (λ h => by have := f6 h; unfold m7; omega)).sw rfl
   simp only [Ins.av] at cr
   rw [stp, if_neg (by rw [hf']; simp)] at k5
   cases hre : tc n x t with
   | error e =>
    have hne : (e != 0) = true := by
     have : stp c.bl.length c.gl.length n x (l.drop (j + 1)) t = .error e := by rw [stp, if_neg (by rw [hf']; simp), hre]
     simpa [bne] using N4 this
    rw [hre] at hr k5
    obtain ⟨rfl, G2, rfl⟩ := hr
    simp only at k5
    rw [<- k5]
    simp only [↓fj, wall, simprocAttr, wH, e0', e6, e5, e41, e42, e43, hdec, x4, rq, jb, k4A, wj, hj1, hsu, cf, hf, hx2, cr, hne]
    exact ⟨_, rfl⟩
   | ok S1 =>
    rw [hre] at hr k5
    obtain ⟨rfl, hl1, G2, rfl⟩ := hr
    have kR := (kG.app G2).enter hl1
    have k4R := qi (x := .cells false (ints S1)) (j := si) (gy k4G G2) (by have := fy h.s; omega)
    have hx3 := qi (x := .cells false (ints S1)) (j := si) (gy hx2 G2) hs1
    generalize (H2 ++ G2).set si (.cells false (ints S1)) = H3 at *
    obtain ⟨ve, se, hxe, ce⟩ := (M8 (S := S1) (V := V1) k4R x (l.drop (j + 1)) f1 f2 f4 (by omega) (by omega) (by omega) (by omega)).sw rfl
    simp only [Ins.av] at ce
    rw [<- hlast] at ce
    simp only at k5
    have hxx : By x (l.drop (j + 1)) S1 t = By x (l.drop (j + 1)) S1 ⟨S1, t.env, t.stack, t.binds, t.br⟩ := rfl
    rw [hxx] at k5
    cases hee : By x (l.drop (j + 1)) S1 ⟨S1, t.env, t.stack, t.binds, t.br⟩ with
    | error e =>
     have hne : (e != 0) = true := by
      have : stp c.bl.length c.gl.length n x (l.drop (j + 1)) t = .error e := by
       rw [stp, if_neg (by rw [hf']; simp), hre]; exact hee
      simpa [bne] using N4 this
     rw [hee] at hxe k5
     obtain ⟨rfl, H', rfl⟩ := hxe
     simp only at k5
     rw [<- k5]
     simp only [↓fj, wall, simprocAttr, wH, e0', e6, e5, e41, e42, e43, hdec, x4, rq, jb, k4A, wj, hj1, hsu, cf, hf, hx2, cr, hx3, w42, ce, hne]
     exact ⟨_, rfl⟩
    | ok t1 =>
     have hstp : stp c.bl.length c.gl.length n x (l.drop (j + 1)) t = .ok t1 := by
      rw [stp, if_neg (by rw [hf']; simp), hre]; exact hee
     rw [hee] at hxe k5
     obtain ⟨rfl, hS1, G3, rfl⟩ := hxe
     simp only at k5
     have kX := (kR.app G3).set (q := H.length) (o := .cells false [.int n, .int t1.env, .int t1.stack, .int t1.binds, .int t1.br]) (by omega) (by omega)
     have hlt3 := fy (gy k4R G3)
     simp only [↓fj, wall, simprocAttr, wH, e0', e6, e5, e41, e42, e43, hdec, x4, rq, jb, k4A, wj, hj1, hsu, cf, hf, hx2, cr, hx3, w42, ce]
     exact jm ⟨j + 1, by omega, by omega, rfl, e0', e6, e5, e41, e42, rfl, t1, by rw [hS1]; exact kX, by rw [hS1, hl1]; exact k2, kS.step (by omega) he0 hstp, by rw [b9, if_pos rfl, if_pos hlt3], k5⟩
  ·have hdec : decide ((j : Int) < l.length) = false := by simpa using hge
   rw [bt (by omega), l6] at k5
   rw [<- k5]
   simp only [↓fj, wall, simprocAttr, wH, e0', e6, e5, e41, e42, e43, hdec]
   exact ⟨_, rfl, k1, k2⟩
 ·have kA := h.app [.cells false [.int n, .int e0, .int 0, .int 0, .int 0]]
  refine ⟨dk _, rfl, rfl, rfl, rfl, rfl, rfl, rfl, ⟨S, e0, 0, 0, 0⟩, kA, rfl, ⟨by simp, by simp, by simp, by simp, hS.mono (by show W <= W + 64 + ((0 : Nat) : Int); omega)⟩, by simp, by rw [List.drop_zero]; exact hR⟩
end
end Go.Proofs.Eng
namespace Go.Proofs.Eng
open Go Go.Proofs
set_option maxRecDepth 100000
set_option maxHeartbeats 16000000
theorem Uf (H : List fp) (V : List Nat) (z : Int) (t : Tl) (n : Nat) (h1 : 1 <= n) (h2 : n <= 1000000) (K KP) : CW (run md pfs) md false ⟨H, V⟩ 88 [.sl [.int z] t, .int n] K KP () = K (.bs H.length 0 n 1 false) ⟨H ++ [.cells false (ints (List.replicate n z))], V⟩ := by
 have h := Dx (md := md) (pfs := pfs) (f := 88) (pf := ⟨0, [], .ora Un⟩) (by simp [pfs]) rfl (args := [.sl [.int z] t, .int n]) (v := .bs H.length 0 n 1 false) (s := ⟨H, V⟩) (s' := ⟨H ++ [.cells false (ints (List.replicate n z))], V⟩) (by
  simp only [Un, AV.int]
  rw [if_pos (by omega)]
  simp [ints])
 simp [CW, lj, show md 88 = .raw from rfl, h]
theorem a7j : ∀ l : List Ins, jl (jj l) (jj l) = true
 | [] => by rw [jj, List.map_nil, jl]
 | x :: l => by
  have := a7j l
  simp only [jj] at this ⊢
  rw [bq, jl, this, Ins.av, lq, jl, jl, jl, jl, jl, eqI, eqI, eqI, eqS]; rfl
theorem a7m : ∀ l : List ByteArray, jl (nmA l) (nmA l) = true
 | [] => by rw [nmA, List.map_nil, jl]
 | x :: l => by
  have := a7m l
  simp only [nmA] at this ⊢
  rw [bq, jl, this, eqS]; rfl
theorem a8j {l : List (List Ins)} {al : List AV} (h : LIs Ro l al) : jl al al = true := eqL (R := Ro) (λ x _ a ⟨t, e, _⟩ => by rw [e]; exact eqT _ _ (a7j _)) h
theorem Jw : ∀ (l : List Nat) (n : Nat), (l.take n).sum <= l.sum
 | [], n => by simp
 | x :: l, 0 => by simp
 | x :: l, n + 1 => by have := Jw l n; simp; omega
theorem Xy {c : Cd} {a : AV} (h : c.Is a) (hn : ∀ g ∈ c.gl, g.size <= jh) (hnm : ∀ b ∈ c.bl, ∀ x ∈ b, x.n.size <= jh) (hb : c.bl.length <= 1000000) (hsum : (c.bl.map List.length).sum <= 1000000000000) : Out md pfs 38 [a] (· = .int c.check) λ _ => False := by
 obtain ⟨Bs, t1, t2, t3, rfl, g1, g2, g3, g4, g5, g6, g7⟩ := id h
 have hBl := g1.len
 refine iy pf38_is (dh rfl) ?_
 obtain ⟨_, rfl, co⟩ := (Lt h hn).call rfl (by simp [ga, gu, N3 h])
 rw [Cd.check]
 cases ho : (c.Dm != 0)
 case true =>
  rw [if_pos (by simpa [bne] using ho)]
  simp only [pf38, ↓fj, wall, simprocAttr, wH, co, ho]
 have ho' : c.Dm = 0 := by simpa [bne] using ho
 rw [if_neg (by rw [ho']; simp)]
 rw [ho'] at co
 have hoo : c.bl ≠ [] /\ (c.st.any λ s => decide (s < 1) || decide ((c.bl.length : Int) <= s)) = false := by
  unfold Cd.Dm at ho'
  split at ho'
  ·omega
  rename_i hh
  exact ⟨λ e => hh (.inl e), by
   cases hx : (c.st.any λ s => decide (s < 1) || decide ((c.bl.length : Int) <= s)) with
   | false => rfl
   | true => exact absurd (.inr (.inr (.inl hx))) hh⟩
 obtain ⟨hne, hst⟩ := hoo
 have hb1 : 1 <= c.bl.length := by
  rcases Nat.eq_zero_or_pos c.bl.length with h | h
  ·exact absurd (List.length_eq_zero_iff.1 h) hne
  ·exact h
 have hrc := λ (K KP) => Uf [.cells false [.sl Bs t1, .sl (nmA c.gl) t2, .sl (ints c.st) t3]] [] (-1) (.cap 1) c.bl.length hb1 hb K KP
 rw [<- hBl] at hrc
 have heq : lq (.agg [.sl Bs t1, .sl (nmA c.gl) t2, .sl (ints c.st) t3]) (.agg [.sl Bs t1, .sl (nmA c.gl) t2, .sl (ints c.st) t3]) = true := by
  rw [lq, jl, jl, jl, jl, eqT _ _ (a8j g1), eqT _ _ (a7m _), eqT _ _ (a0p _)]; rfl
 have hB1 : (0 : Int) < ((Bs.length : Nat) : Int) := by omega
 simp only [pf38, ↓fj, wall, simprocAttr, wH, co, hrc, heq, hB1]
 refine ⟨by rw [ig, List.length_replicate, hBl]; exact hb1, ?_⟩
 let stf : List Int -> List Int -> List Int := λ l S => l.foldl (λ S s => S.set s.toNat 0) S
 refine j6 (λ j => c.st.length - j) (λ j E H V => j <= c.st.length /\ V = [] /\ E 1 = .ptr 0 0 /\ E 4 = .ptr 2 0 /\ E 28 = .sl (ints c.st) t3 /\ E 29 = .int c.st.length /\ E 30 = .int j /\ H[0]? = some (.cells false [.sl Bs t1, .sl (nmA c.gl) t2, .sl (ints c.st) t3]) /\ ∃ S, KS 2 1 Bs t1 t2 t3 c S H /\ SB 0 S /\ (c.st.drop j).foldl (λ S s => S.set s.toNat 0) S = c.S0) ?_ 0 ?start
 case start =>
  refine ⟨dk _, rfl, rfl, rfl, rfl, by rw [<- ig]; rfl, rfl, rfl, (List.replicate c.bl.length (-1)).set 0 0, ⟨by rw [<- hBl]; rfl, ?_, by simp, by decide, g1, g2, g6⟩, ?_, rfl⟩
  ·rw [<- Eo (by rw [List.length_replicate]; exact hb1), <- hBl]; rfl
  ·refine SB.set (λ s hs => ?_) (Int.le_refl _)
   rw [(List.mem_replicate.1 hs).2]; decide
 rintro j E H V ⟨hj, rfl, e1, e4, e28, e29, e30, hH0, S, kS, hS, hf⟩
 have hk := kS.k
 have hs := kS.s
 rcases dj j c.st.length with hlt | hge
 ·have hdec : decide ((j : Int) < c.st.length) = true := by simpa using hlt
  obtain ⟨x, x0, x4⟩ := Dq hlt
  have hdr : c.st.drop j = x :: c.st.drop (j + 1) := by
   obtain ⟨h, rfl⟩ := List.getElem?_eq_some_iff.1 x0
   exact bx h
  have hx := List.any_eq_false.1 hst x (aq x0)
  simp only [ei, decide_eq_true_eq, not_or] at hx
  obtain ⟨m, rfl⟩ : ∃ m : Nat, x = m := ⟨x.toNat, by omega⟩
  have hm : (m : Int) < c.bl.length := by omega
  have hmS : m < S.length := by rw [kS.sl]; omega
  have hset := Eo (v := 0) hmS
  have hml : m + 1 <= (ints S).length := by rw [ig]; omega
  rw [hdr, dc, ew] at hf
  simp only [↓fj, wall, simprocAttr, wH, e1, e4, e28, e29, e30, hdec, x4, mn, ig, hk, hs, hm, Nat.mul_one, hset, hml]
  exact ⟨hmS, jm ⟨j + 1, by omega, by omega, rfl, e1, e4, e28, e29, iw (by omega), qi hH0 (by decide), _, kS.enter (S' := S.set m 0) (by simp), hS.set (Int.le_refl _), hf⟩⟩
 ·have hdec : decide ((j : Int) < c.st.length) = false := by simpa using hge
  simp only [↓fj, wall, simprocAttr, wH, e1, e4, e28, e29, e30, hdec, hH0]
  rw [bt (by omega), List.foldl_nil] at hf
  subst hf
  have hBn : ((Bs.length : Nat) : Int) = ((c.bl.length : Nat) : Int) := by rw [hBl]
  refine j6 (λ j => c.bl.length - j) (λ n E H V => n <= c.bl.length /\ V = [] /\ E 4 = .ptr 2 0 /\ E 43 = .int c.bl.length /\ E 44 = .int n /\ ∃ S, KS 2 1 Bs t1 t2 t3 c S H /\ SB ((64 * n + ((c.bl.map List.length).take n).sum : Nat) : Int) S /\ goB c.bl.length c.gl.length n (c.bl.drop n) S = goB c.bl.length c.gl.length 0 c.bl c.S0) ?_ 0 ⟨dk _, rfl, e4, by rw [<- hBn]; rfl, rfl, _, kS, hS.mono (by simp), rfl⟩
  rintro n E H V ⟨hn1, rfl, e4, e43, e44, S, kS, hS, hg⟩
  rcases dj n c.bl.length with hlt | hge
  ·have hdec : decide ((n : Int) < c.bl.length) = true := by simpa using hlt
   have hx : c.bl[n]? = some c.bl[n] := aa hlt
   generalize c.bl[n] = l at hx
   have hdr : c.bl.drop n = l :: c.bl.drop (n + 1) := by
    obtain ⟨h, rfl⟩ := List.getElem?_eq_some_iff.1 hx
    exact bx h
   have htk : ((c.bl.map List.length).take (n + 1)).sum = ((c.bl.map List.length).take n).sum + l.length := by
    rw [bj, bh, hx]; simp
   have hle := Jw (c.bl.map List.length) (n + 1)
   obtain ⟨v, s, hv, hc⟩ := (Sc (V := []) kS hx (hnm l (aq hx)) hS (by omega) (by omega)).sw rfl
   rw [hdr, Za] at hg
   cases hbk : Hx c.bl.length c.gl.length n l S with
   | error e =>
    rw [hbk] at hv hg
    have hne : (e != 0) = true := by simpa [bne] using Zj hbk
    obtain ⟨rfl, H', rfl⟩ := hv
    simp only at hg
    rw [<- hg]
    simp only [↓fj, wall, simprocAttr, wH, e4, e43, e44, hdec, hc, hne]
   | ok S' =>
    have hS' := a19 hS (by omega) hbk
    rw [hbk] at hv hg
    obtain ⟨rfl, H', rfl, kS', hl'⟩ := hv
    simp only at hg
    simp only [↓fj, wall, simprocAttr, wH, e4, e43, e44, hdec, hc]
    exact jm ⟨n + 1, by omega, by omega, rfl, e4, e43, iw (by omega), S', kS', hS'.mono (by rw [htk]; omega), hg⟩
  ·have hdec : decide ((n : Int) < c.bl.length) = false := by simpa using hge
   rw [bt (by omega), goB] at hg
   simp only [↓fj, wall, simprocAttr, wH, e4, e43, e44, hdec]
   rw [<- hg]
end Go.Proofs.Eng
namespace Go.Proofs.Eng
open Go Go.Proofs
set_option maxRecDepth 100000
theorem Qe {α : Type} {l : List α} (h : l.length = 5) : ∃ a b c d e, l = [a, b, c, d, e] := by
 match l, h with
 | [a, b, c, d, e], _ => exact ⟨a, b, c, d, e, rfl⟩
theorem two {α : Type} {l : List α} (h : l.length = 2) : ∃ a b, l = [a, b] := by
 match l, h with
 | [a, b], _ => exact ⟨a, b, rfl⟩
theorem J5 {n : Nat} {s : ASt} {x : AV} {y : Value} (h : gh n s x = some (.v y)) : x = .v y := by
 cases n with
 | zero => rw [gh] at h; cases h
 | succ n =>
  unfold gh at h
  split at h
  ·cases h; rfl
  ·split at h
   all_goals first
    | (cases h; done)
    | (rw [fh] at h; obtain ⟨_, _, h⟩ := h; cases h; done)
    | skip
   split at h
   ·split at h
    ·rw [fh] at h; obtain ⟨_, _, h⟩ := h; cases h
    ·cases h
   ·cases h
theorem Ut {pfs2 : FuncId -> Option PF} {f : FuncId} {ls : List AV} (h : Out md pfs2 f ls (· = .bool true) λ _ => False) : ∃ s', run md pfs2 f ls ⟨[], []⟩ = some (.ret (.v (.bool true)), s') := by
 obtain ⟨out, s, out', h1, h2, h3⟩ := h
 cases out' with
 | pan v => exact h3.elim
 | ret v =>
  subst h3
  cases out with
  | pan w => simp [ju.gh] at h2
  | ret w =>
   simp only [ju.gh, fh] at h2
   obtain ⟨y, h2, h3⟩ := h2
   cases h3
   exact ⟨s, by rw [h1, J5 h2]⟩
end Go.Proofs.Eng
namespace Go.Proofs.Eng
open Go Go.Proofs Go.Proofs.YtflfmkkcnphdcaaGreat
open Go.ChangeShapes Go.WideShapes Go.ChangeAt Go.RowKit
theorem a8f (W : World) : Kn W := λ _ h => False.elim h
theorem Y7 : ownKnob Tryz.prog.godebug = none := by kernel_rfl
theorem Sw : laidOutB Tryz.prog = true := by kernel_rfl
end Go.Proofs.Eng
namespace Go.Proofs.Eng
open Go Go.Proofs
set_option maxRecDepth 100000
set_option maxHeartbeats 16000000
structure Ap (H : List fp) (V : List Nat) (H' : List fp) (V' : List Nat) : Prop where
 h : ∀ (k : Nat) (o : fp), H[k]? = some o -> H'[k]? = some o
 v : ∀ (i v : Nat), V[i]? = some v -> V'[i]? = some v
theorem Ap.refl (H : List fp) (V : List Nat) : Ap H V H V := ⟨λ _ _ h => h, λ _ _ h => h⟩
theorem Ap.trans {A B C : List fp} {V V' V'' : List Nat} (h : Ap A V B V') (k : Ap B V' C V'') : Ap A V C V'' := ⟨λ i o e => k.h i o (h.h i o e), λ i v e => k.v i v (h.v i v e)⟩
theorem Ap.app (H : List fp) (V : List Nat) (G : List fp) : Ap H V (H ++ G) V := ⟨λ _ _ h => gy h G, λ _ _ h => h⟩
theorem D1 {es : Nat} {f : FuncId} (hf : pfs f = some ⟨0, [], .ora (N1 es)⟩) {l : List AV} (t : Tl) (hl : l.length <= 1073741824) (hp : gg l = true) (hc : (l.all λ x => x.cells.length == es && x.cells.all gv) = true) :
  Out md pfs f [.sl l t] (λ v => ∃ t', v = .sl l t' /\ t'.pure = true) λ _ => False := by
 cases l with
 | nil =>
  have hn : (sv (.sl [] t)).pure = true := by unfold sv; split <;> rfl
  have := Dx (md := md) (pfs := pfs) hf rfl (args := [.sl [] t]) (v := .sl [] (sv (.sl [] t))) (s := ⟨[], []⟩) (s' := ⟨[], []⟩) rfl
  exact ⟨_, _, .ret (.sl [] (sv (.sl [] t))), this, by rw [ju.gh, iu (by rw [lg, hn]; rfl)]; rfl, _, rfl, hn⟩
 | cons x l =>
  have := Dx (md := md) (pfs := pfs) hf rfl (args := [.sl (x :: l) t]) (v := .sl (x :: l) (.tl 0 0)) (s := ⟨[], []⟩) (s' := ⟨[], [0]⟩) (by rw [N1, if_pos ⟨hl, hc⟩]; rfl)
  exact ⟨_, _, .ret (.sl (x :: l) ((Tl.tl 0 0).sm 1019 ⟨[], [0]⟩)), this, by rw [ju.gh, Wj, yx hp]; rfl, _, rfl, s7 _ _ _⟩
theorem Th (l : List Ins) : ((jj l).all λ x => x.cells.length == 4 && x.cells.all gv) = true := by
 rw [aw]; intro x hx
 obtain ⟨b, _, rfl⟩ := List.mem_map.1 hx; rfl
theorem a1y (l : List ByteArray) : ((nmA l).all λ x => x.cells.length == 1 && x.cells.all gv) = true := by
 rw [aw]; intro x hx
 obtain ⟨b, _, rfl⟩ := List.mem_map.1 hx; rfl
theorem Xn (l : List Int) : ((ints l).all λ x => x.cells.length == 1 && x.cells.all gv) = true := by
 rw [aw]; intro x hx
 obtain ⟨b, _, rfl⟩ := List.mem_map.1 hx; rfl
def mcs (Bl : List AV) (tb t2 t3 : Tl) (c : Cd) (bk at' : Int) (ea sa fa : AV) (steps : Int) (hlt : Bool) (err : Int) (m : Nat) : List AV := [.sl Bl tb, .sl (nmA c.gl) t2, .sl (ints c.st) t3, .int bk, .int at', ea, sa, fa, .int steps, .bool hlt, .int err,
 .bm 42 [.ptr m 0], .bm 43 [.ptr m 0], .bm 44 [.ptr m 0], .bm 45 [.ptr m 0], .bm 46 [.ptr m 0], .bm 47 [.ptr m 0], .bm 48 [.ptr m 0], .bm 49 [.ptr m 0], .bm 50 [.ptr m 0], .bm 51 [.ptr m 0], .bm 52 [.ptr m 0], .bm 53 [.ptr m 0], .bm 54 [.ptr m 0], .bm 55 [.ptr m 0], .bm 56 [.ptr m 0]]
def a0k (Bl : List AV) (tb t2 t3 : Tl) (c : Cd) : List AV := [.sl Bl tb, .sl (nmA c.gl) t2, .sl (ints c.st) t3, .int 0, .int 0, .v (.pointer none), .sl [] .nil, .sl [] .nil, .int 0, .bool false, .int 0,
 .v .nilFunc, .v .nilFunc, .v .nilFunc, .v .nilFunc, .v .nilFunc, .v .nilFunc, .v .nilFunc, .v .nilFunc, .v .nilFunc, .v .nilFunc, .v .nilFunc, .v .nilFunc, .v .nilFunc, .v .nilFunc, .v .nilFunc]
theorem Y8 {c : Cd} {a : AV} (h : c.Is a) (hn : ∀ g ∈ c.gl, g.size <= jh) (hnm : ∀ b ∈ c.bl, ∀ x ∈ b, x.n.size <= jh) (hb : c.bl.length <= 1000000) (hsum : (c.bl.map List.length).sum <= 1000000000) (hg : c.gl.length <= 1000000) (hs : c.st.length <= 1000000) (H : List fp) (V : List Nat) :
  Rw 12 [a] ⟨H, V⟩ λ v s1 => ∃ H1 V1, s1 = ⟨H1, V1⟩ /\ Ap H V H1 V1 /\ ((c.check ≠ 0 /\ v = .tup [.v (.pointer none), .int c.check]) \/ (c.check = 0 /\ ∃ m Bl tb t2 t3, H.length <= m /\ v = .tup [.ptr m 0, .int 0] /\ H1[m]? = some (.cells false (mcs Bl tb t2 t3 c 0 0 (.v (.pointer none)) (.sl [] .nil) (.sl [] .nil) 0 false 0 m)) /\ LIs blX c.bl Bl)) := by
 obtain ⟨Bs, t1, t2, t3, rfl, g1, g2, g3, g4, g5, g6, g7⟩ := id h
 have hBl := g1.len
 have jy : wi = 1073741824 := rfl
 have hlb : jh = 9223372036854775807 := rfl
 have hpA := N3 h
 have hBa : (Bs.all λ x => x.cells.length == 1) = true := aw.2 λ y hy => by
  obtain ⟨q, hq⟩ := List.mem_iff_getElem?.1 hy
  obtain ⟨b, a, _, _, _, e4, ⟨t, rfl, _⟩⟩ := g1.at (i := q) (List.getElem?_eq_some_iff.1 hq).1
  rw [hq] at e4; cases e4; rfl
 refine ly pf12_is (dh rfl) ?_
 obtain ⟨_, rfl, cck⟩ := (Xy h hn hnm hb (by omega)).call rfl (by simp [ga, gu, hpA])
 cases hz : (c.check == 0)
 ·have hz' : c.check ≠ 0 := by simpa using hz
  have hne : (c.check != 0) = true := by simp [bne, hz]
  simp only [pf12, ↓fj, wall, simprocAttr, wH, gq, fq, cck, hz, hne]
  exact ⟨_, _, rfl, .app _ _ _, .inl hz'⟩
 have hz' : c.check = 0 := by simpa using hz
 rw [hz'] at cck
 obtain ⟨_, ⟨u2, rfl, w2⟩, cg⟩ := (D1 (f := 39) (es := 1) (by simp [pfs]) (l := nmA c.gl) t2 (by rw [jx]; omega) (wa _) (a1y _)).call rfl (by simp [ga, gu, lg, g3, wa])
 obtain ⟨_, ⟨u3, rfl, w3⟩, cs⟩ := (D1 (f := 40) (es := 1) (by simp [pfs]) (l := ints c.st) t3 (by rw [ig]; omega) (km _) (Xn _)).call rfl (by simp [ga, gu, lg, g4, km])
 simp only [pf12, ↓fj, wall, simprocAttr, wH, gq, fq, cck, cg, cs]
 obtain ⟨A, hA⟩ : ∃ A, A = H ++ [fp.cells false [.sl Bs t1, .sl (nmA c.gl) t2, .sl (ints c.st) t3]] := ⟨_, rfl⟩
 have hAl : A.length = H.length + 1 := by rw [hA]; simp
 obtain ⟨m, hm⟩ : ∃ m, m = H.length + 1 := ⟨_, rfl⟩
 refine j6 (λ j => Bs.length - j) (λ j E H' V' => ∃ Bl tb, j <= Bs.length /\ E 5 = .ptr m 0 /\ E 23 = .sl Bs t1 /\ E 24 = .int Bs.length /\ E 25 = .int (j : Nat) /\ H'[m]? = some (.cells false (a0k Bl tb u2 u3 c)) /\ Ap H V H' V' /\ LIs blX (c.bl.take j) Bl /\ App V' Bl tb /\ V.length <= V'.length /\ ∀ i v, tb = .tl i v -> V.length <= i) ?_ 0 ?_
 ·rintro j E H1 V1 ⟨Bl, tb, hj, e5, e23, e24, e25, b1, hAp, hBlx, hApp, hV, hown⟩
  rcases dj j Bs.length with hlt | hge
  ·have hdec : decide ((j : Int) < Bs.length) = true := by simpa using hlt
   obtain ⟨b, _, d0, _, dm, d4, ⟨t, rfl, ht, hbl⟩⟩ := g1.at hlt
   have hbs : b.length <= 1000000000 := by
    have := Dp (List.mem_map_of_mem (f := List.length) dm); omega
   obtain ⟨_, ⟨t', rfl, _⟩, cb⟩ := (D1 (f := 41) (es := 4) (by simp [pfs]) (l := jj b) t (by rw [jb]; omega) (x8 _) (Th _)).call rfl (by simp [ga, gu, lg, ht, x8])
   have hBx := hBlx.len
   rw [b7] at hBx
   obtain ⟨tb', V2, q1, q2, q3⟩ := rh (es := 1) (xs := [.sl (jj b) t']) hApp (by simp only [ak, ao]; omega) (aw.2 λ y hy => by
    obtain ⟨q, hq⟩ := List.mem_iff_getElem?.1 hy
    obtain ⟨b, a, _, _, _, e4, e5⟩ := hBlx.at (i := q) (List.getElem?_eq_some_iff.1 hq).1
    rw [hq] at e4; cases e4
    exact a32 e5) rfl
   have hml := fy b1
   simp only [a0k] at b1
   simp only [↓fj, wall, simprocAttr, wH, e5, e23, e24, e25, hdec, d4, hBa, b1, cb, q1]
   refine jm ⟨j + 1, by omega, _, _, by omega, e5, e23, e24, iw (by omega), ?_, ⟨λ k o hk => ?_, λ i v hv => ?_⟩, ?_, q2, dr hV q3.1, λ i v e => ?_⟩
   ·rw [b9, if_pos rfl, if_pos hml]; rfl
   ·have hk' := hAp.h k o hk
    have := fy hk
    rw [b9, if_neg (by omega)]; exact hk'
   ·have := (List.getElem?_eq_some_iff.1 hv).1
    exact q3.2.1 i v (hAp.v i v hv) λ ver e => by have := hown i ver e; omega
   ·rw [bj, d0]
    exact hBlx.append (.one ⟨t', rfl⟩)
   ·rcases q3.2.2 i v e with ⟨v0, h⟩ | h
    ·exact hown i v0 h
    ·omega
  ·have hdec : decide ((j : Int) < Bs.length) = false := by simpa using hge
   rw [au (by omega)] at hBlx
   have hml := fy b1
   simp only [a0k] at b1
   simp only [↓fj, wall, simprocAttr, wH, e5, e23, e24, e25, hdec, b1, gq, fq]
   refine ⟨_, _, rfl, ⟨λ k o hk => ?_, hAp.v⟩, .inr ⟨hz', m, Bl, tb, u2, u3, by omega, rfl, ?_, hBlx⟩⟩
   ·have hk' := hAp.h k o hk
    have := fy hk
    rw [b9, if_neg (by omega)]; exact hk'
   ·rw [b9, if_pos rfl, if_pos hml]; rfl
 ·subst hm
  exact ⟨[], .nil, dk _, rfl, rfl, rfl, rfl, by simp [a0k], .app _ _ _, trivial, .inl ⟨rfl, rfl⟩, di _, λ _ _ e => by cases e⟩
section
variable {c : Cd} {Bl : List AV} {tb t2 t3 : Tl} {bk at' : Int} {ea sa fa : AV} {steps : Int} {hlt : Bool} {err : Int} {m : Nat} {H : List fp} {V : List Nat}
end
end Go.Proofs.Eng
