/- The reference puts terms for variables. No conditions beyond those in the theorems. -/
import Derived.Test.YtjiheebhmokfbaaDoorC9
set_option linter.all false
set_option linter.deprecated false
set_option linter.unnecessarySimpa false
set_option linter.unusedVariables false
set_option linter.unusedSimpArgs false
set_option linter.defProp false
namespace Go.Proofs.Eng
open Go Go.Proofs
set_option maxRecDepth 100000
set_option maxHeartbeats 16000000
theorem bs_noints {x y : AV} {m : Nat} {b c : Bool} (fz : Bool) (fz' : Bool) (ks : List Int) : AObj.cells fz [x, .mp m, y, .bool b, .bool c] ≠ AObj.cells fz' (ints ks) := by
 intro h
 simp only [AObj.cells.injEq] at h
 have := congrArg (fun l => l[1]?) h.2
 simp only [ints, List.getElem?_map] at this
 cases hk : ks[1]? with
 | none => rw [hk] at this; simp at this
 | some z => rw [hk] at this; simp at this
theorem Stp.toP {bi mi : Nat} {sc : Bool} {T : List Tm} {H H' : List AObj} {V V' : List Nat} {P : Nat → Prop} (h : Stp bi mi H V H' V') (hB : BS bi mi sc T H V) (hP : ¬ P mi) (hQ : ∀ Q, BK bi Q H → BK bi Q H') : StpP bi P H V H' V' := by
 obtain ⟨hne, al, tn, tf, es, b1, b2, _⟩ := hB
 refine ⟨h.fr, h.vk, fun k fz c h1 h2 => ?_, fun k es h1 h2 => ?_, fun Q hK => (hQ Q hK).same rfl fun _ h => .inl h⟩
 ·exact h.get h2 h1 fun e => by subst e; rw [b2] at h2; cases h2
 ·exact h.get h2 (fun e => by subst e; rw [b1] at h2; cases h2) fun e => hP (e ▸ h1)
theorem BS.stop {bi mi : Nat} {sc : Bool} {T : List Tm} {H : List AObj} {V : List Nat} (h : BS bi mi sc T H V) : ∃ al tn tf, H[bi]? = some (.cells false [.sl al tn, .mp mi, .sl (ints (frs T)) tf, .bool false, .bool sc]) ∧ BS bi mi true T (H.set bi (.cells false [.sl al tn, .mp mi, .sl (ints (frs T)) tf, .bool false, .bool true])) V ∧ ∀ P, StpP bi P H V (H.set bi (.cells false [.sl al tn, .mp mi, .sl (ints (frs T)) tf, .bool false, .bool true])) V := by
 obtain ⟨hne, al, tn, tf, es, b1, b2, b3, b4⟩ := h
 have lb := lt_of_get b1
 have hF : FrI H (H.set bi (.cells false [.sl al tn, .mp mi, .sl (ints (frs T)) tf, .bool false, .bool true])) := fri_set b1 (bs_noints false)
 have hb : (H.set bi (AObj.cells false [.sl al tn, .mp mi, .sl (ints (frs T)) tf, .bool false, .bool true]))[bi]? = some (.cells false [.sl al tn, .mp mi, .sl (ints (frs T)) tf, .bool false, .bool true]) := by rw [List.getElem?_set, if_pos rfl, if_pos lb]
 refine ⟨al, tn, tf, b1, ⟨hne, al, tn, tf, es, hb, by rw [List.getElem?_set, if_neg hne]; exact b2, b3.mono2 fun x a hx => hx.mono hF, b4⟩, fun P => ⟨hF, ⟨Nat.le_refl _, fun _ _ h _ => h, fun i ⟨al', tn', x, fr', tf', y, z, v, e1, e2⟩ => ?_⟩, fun k fz c h1 h2 => by rw [List.getElem?_set, if_neg (Ne.symm h1)]; exact h2, fun k es h1 h2 => ?_, fun Q hQ al' tn' x y z w e1 a ha k hk => ?_⟩⟩
 ·rw [hb] at e1
  simp only [Option.some.injEq, AObj.cells.injEq, List.cons.injEq, AV.sl.injEq, true_and, and_true] at e1
  obtain ⟨⟨rfl, rfl⟩, rfl, ⟨rfl, rfl⟩, _⟩ := e1
  exact .inl ⟨_, _, _, _, _, _, _, v, b1, e2⟩
 ·have : bi ≠ k := fun e => by subst e; rw [b1] at h2; cases h2
  rw [List.getElem?_set, if_neg this]; exact h2
 ·rw [hb] at e1
  simp only [Option.some.injEq, AObj.cells.injEq, List.cons.injEq, AV.sl.injEq, true_and, and_true] at e1
  obtain ⟨⟨rfl, _⟩, _⟩ := e1
  exact .inl (hQ _ _ _ _ _ _ b1 a ha k hk)
def vr (i : Int) : Tm := .mk 0 i ⟨#[]⟩ [] []
theorem vr_right {i : Int} (h0 : 0 ≤ i) (h1 : i ≤ 65535) : ∀ y ∈ (vr i).subs, y.right = true := by
 intro y hy
 simp only [vr, Tm.subs, subsL, List.mem_cons, List.not_mem_nil, or_false] at hy
 subst hy
 show (Tm.mk 0 i ⟨#[]⟩ [] []).right = true
 have h2 : i ≤ 2147483647 := by omega
 have h3 : kidsN 0 = 0 := by decide
 have h4 : (⟨#[]⟩ : ByteArray).size = 0 := rfl
 simp only [Tm.right, Tm.ls, Tm.k, Tm.kids, Tm.n, Tm.i, h0, h2, h3, h4]
 simp
theorem vr_fv (i : Int) : (vr i).sz = 1 := rfl
theorem variable_sh {bi mi : Nat} {sc : Bool} {T : List Tm} {H : List AObj} {V : List Nat} {P : Nat → Prop} (hB : BS bi mi sc T H V) (hG : GT T) (hP : ¬ P mi) {i : Int} (h0 : 0 ≤ i) (h1 : i ≤ 4294967296) (hl : i ≤ 65535 → ((vr i).enter T).length ≤ 65536) :
  Sh md pfs 55 [.ptr bi 0, .int i] ⟨H, V⟩ (fun v s => ∃ H' V', s = ⟨H', V'⟩ ∧ StpP bi P H V H' V' ∧ (i ≤ 65535 → v = .int (((vr i).enter T).idxOf (vr i) : Nat) ∧ BS bi mi sc ((vr i).enter T) H' V') ∧ (65535 < i → v = .int 0 ∧ BS bi mi true T H' V')) fun _ _ => False := by
 refine sh_of pf55_is (Nat.le_of_ble_eq_true rfl) ?_
 obtain ⟨al, tn, tf, b1, hB2, hS⟩ := hB.stop
 rcases Int.lt_or_le 65535 i with h2 | h2
 ·have dA : decide (i > 65535) = true := by simpa using h2
  simp only [pf55, ↓wpre, wall, simprocAttr, dA, b1]
  exact ⟨_, _, rfl, hS P, fun h => by omega, fun _ => hB2⟩
 ·have dA : decide (i > 65535) = false := by simp only [decide_eq_false_iff_not]; omega
  have hr := vr_right h0 h2
  have he : (vr i).enter T = addT T (vr i) := by rw [vr, enter_eq hG.good, enterL]
  have hl := hl h2
  rw [he] at hl
  have hn : NdH H (ndOf T (vr i)) (.agg [.int 0, .int i, .str ⟨#[]⟩, .sl [] .nil, .sl [] .nil]) :=
   ⟨.nil, [], .sl [] .nil, rfl, rfl, by show in64 0; unfold in64; decide, by show in64 i; unfold in64; omega, by show (0 : Nat) ≤ lenB; exact Nat.zero_le _, by show (0 : Nat) ≤ lenB; exact Nat.zero_le _, by show (0 : Nat) ≤ lenB; exact Nat.zero_le _, trivial, fun x hx => (by cases hx), .inl ⟨.nil, rfl⟩⟩
  have hak : ∀ k, ¬ AKid (.agg [.int 0, .int i, .str ⟨#[]⟩, .sl [] .nil, .sl [] .nil]) k := by
   rintro k ⟨_, _, _, _, _, e, _, _, _, _, rfl⟩
   simp at e
  obtain ⟨H2, V2, g1, g2, g3, c73⟩ := badd_call hB hG (hr _ (subs_self _)) (fun x hx => by cases hx) hn hl fun k hk => absurd hk (hak k)
  simp only [pf55, ↓wpre, wall, simprocAttr, dA, c73]
  exact ⟨_, _, rfl, g2.toP hB hP fun Q hQ => g3 Q hQ fun k hk => absurd hk (hak k), fun _ => by rw [he]; exact ⟨rfl, g1⟩, fun h => by omega⟩
section
variable (z : Tm) (b : Int) (fr : Int)
def lbad (i : Int) (d : Nat) : Bool := decide (i + b < fr + d) || decide (65535 < i + b)
def lvar (i : Int) (d : Nat) : Tm := if lbad b fr i d = true then z else vr (i + b)
end
def LJ (z : Tm) (b fr : Int) (bi bb yb fb : Nat) (_ : Bool) (H : List AObj) (T : List Tm) : Prop := H[bb]? = some (.cells false [.ptr bi 0]) ∧ H[yb]? = some (.cells false [.int b]) ∧ H[fb]? = some (.cells false [.int fr]) ∧ T[0]? = some z
theorem enter_zero {T : List Tm} {z : Tm} (h : T[0]? = some z) : z.enter T = T ∧ T.idxOf z = 0 := by
 obtain ⟨a, b⟩ := idx_first (T := T) h (by simp)
 exact ⟨enter_mem a, b⟩
theorem lift_ok {z : Tm} {b fr : Int} {bi mi dm bb yb fb base : Nat} {P : Nat → Prop} (hPd : ¬ P dm) (hPm : ¬ P mi) (hz : ∀ y ∈ z.subs, y.right = true) (hf0 : 0 ≤ fr) (hf1 : fr ≤ 4294967294) (hb0 : -65536 ≤ b) (hb1 : b ≤ 1000000) (h1 : bb < base) (h2 : yb < base) (h3 : fb < base) (h4 : bb ≠ bi) (h5 : yb ≠ bi) (h6 : fb ≠ bi) (h7 : dm ≠ bi) (h8 : dm ≠ mi) :
  VOk fr (lvar z b fr) (lbad b fr) bi mi dm base P (LJ z b fr bi bb yb fb) 75 [.ptr yb 0, .ptr fb 0, .ptr bb 0] := by
 refine ⟨fun {sc T H V i d} hB hG hJ hbase i0 i1 i2 hd hl => ?_, fun hJ _ hc hm => ⟨hc _ _ _ h1 h4 hJ.1, hc _ _ _ h2 h5 hJ.2.1, hc _ _ _ h3 h6 hJ.2.2.1, ?_⟩, hPd, hPm, h7, h8, fun i d => ?_⟩
 ·obtain ⟨j1, j2, j3, j4⟩ := hJ
  obtain ⟨z1, z2⟩ := enter_zero j4
  obtain ⟨al, tn, tf, b1, hB2, hS⟩ := hB.stop
  have w10 : IntKind.i64.wrap (i + b) = i + b := wrap_in (by unfold in64; omega)
  have w13 : IntKind.i64.wrap (fr + (d : Nat)) = fr + (d : Nat) := wrap_in (by unfold in64; omega)
  have hsh : Sh md pfs 75 [.int i, .int (d : Nat), .ptr yb 0, .ptr fb 0, .ptr bb 0] ⟨H, V⟩ (fun v s => v = .int (((lvar z b fr i d).enter T).idxOf (lvar z b fr i d) : Nat) ∧ ∃ H' V', s = ⟨H', V'⟩ ∧ BS bi mi (sc || lbad b fr i d) ((lvar z b fr i d).enter T) H' V' ∧ StpP bi (fun k => P k ∨ k = dm) H V H' V' ∧ LJ z b fr bi bb yb fb (sc || lbad b fr i d) H' ((lvar z b fr i d).enter T)) fun _ _ => False := by
   refine sh_of pf75_is (Nat.le_of_ble_eq_true rfl) ?_
   rcases Int.lt_or_le (i + b) (fr + d) with hlt | hge
   ·have dA : decide (i + b < fr + (d : Nat)) = true := by simpa using hlt
    have hbad : lbad b fr i d = true := by rw [lbad, dA, Bool.true_or]
    have hv : lvar z b fr i d = z := if_pos hbad
    rw [hv, z1, z2, hbad, Bool.or_true]
    simp only [pf75, ↓wpre, wall, simprocAttr, j1, j2, j3, w10, w13, dA, b1]
    exact ⟨_, _, rfl, hB2, hS _, (hS (fun _ => False)).cells _ _ _ h4 j1, (hS (fun _ => False)).cells _ _ _ h5 j2, (hS (fun _ => False)).cells _ _ _ h6 j3, j4⟩
   ·have dA : decide (i + b < fr + (d : Nat)) = false := by simp only [decide_eq_false_iff_not]; omega
    obtain ⟨v, _, ⟨H2, V2, rfl, g1, g2, g3⟩, c55⟩ := (variable_sh (P := fun k => P k ∨ k = dm) (i := i + b) hB hG (by rintro (h | h); exact hPm h; exact h8 h.symm) (by omega) (by omega) (fun h => by
     have hbad : lbad b fr i d = false := by rw [lbad, dA, Bool.false_or]; simp only [decide_eq_false_iff_not]; omega
     rw [lvar, hbad] at hl; exact hl)).callRet rfl
    have j1' := g1.cells _ _ _ h4 j1
    have j2' := g1.cells _ _ _ h5 j2
    have j3' := g1.cells _ _ _ h6 j3
    rcases Int.lt_or_le 65535 (i + b) with h9 | h9
    ·have hbad : lbad b fr i d = true := by rw [lbad, dA, Bool.false_or]; simpa using h9
     have hv : lvar z b fr i d = z := if_pos hbad
     obtain ⟨rfl, hb9⟩ := g3 h9
     rw [hv, z1, z2, hbad, Bool.or_true]
     simp only [pf75, ↓wpre, wall, simprocAttr, j1, j2, j3, w10, w13, dA, c55]
     exact ⟨_, _, rfl, hb9, g1, j1', j2', j3', j4⟩
    ·have hbad : lbad b fr i d = false := by rw [lbad, dA, Bool.false_or]; simp only [decide_eq_false_iff_not]; omega
     have hv : lvar z b fr i d = vr (i + b) := by rw [lvar, hbad]; rfl
     obtain ⟨rfl, hb9⟩ := g2 h9
     rw [hv, hbad, Bool.or_false]
     obtain ⟨_, ⟨m, hm⟩, _⟩ := enter_pre hG (vr_right (i := i + b) (by omega) h9)
     simp only [pf75, ↓wpre, wall, simprocAttr, j1, j2, j3, w10, w13, dA, c55]
     exact ⟨_, _, rfl, hb9, g1, j1', j2', j3', by rw [hm, List.getElem?_append_left (lt_of_get j4)]; exact j4⟩
  obtain ⟨_, _, ⟨rfl, H2, V2, rfl, k1, k2, k3⟩, c75⟩ := hsh.callRet rfl
  exact ⟨H2, V2, k1, k2, k3, c75⟩
 ·rw [List.getElem?_append_left (lt_of_get hJ.2.2.2)]; exact hJ.2.2.2
 ·unfold lvar
  split
  ·exact hz
  ·rename_i h
   have : 0 ≤ i + b ∧ i + b ≤ 65535 := by
    simp only [lbad, Bool.or_eq_true, decide_eq_true_eq, not_or] at h
    omega
   exact vr_right this.1 this.2
end Go.Proofs.Eng
namespace Go.Proofs.Eng
open Go Go.Proofs
set_option maxRecDepth 100000
set_option maxHeartbeats 16000000
theorem below_ret (k j : Int) : Out md pfs 91 [.int k, .int j] (· = .int (binderG k j)) fun _ => False := by
 by_cases j1 : j = 1
 ·subst j1
  by_cases h5 : k = 5
  ·subst h5; refine out_of pf91_is (Nat.le_of_ble_eq_true rfl) ?_; simp only [pf91, ↓wpre, wall, simprocAttr, show binderG 5 1 = 1 from by decide]
  by_cases h6 : k = 6
  ·subst h6; refine out_of pf91_is (Nat.le_of_ble_eq_true rfl) ?_; simp only [pf91, ↓wpre, wall, simprocAttr, show binderG 6 1 = 1 from by decide]
  by_cases h7 : k = 7
  ·subst h7; refine out_of pf91_is (Nat.le_of_ble_eq_true rfl) ?_; simp only [pf91, ↓wpre, wall, simprocAttr, show binderG 7 1 = 1 from by decide]
  have q5 : (k == 5) = false := by simpa using h5
  have q6 : (k == 6) = false := by simpa using h6
  have q7 : (k == 7) = false := by simpa using h7
  refine out_of pf91_is (Nat.le_of_ble_eq_true rfl) ?_; simp only [pf91, ↓wpre, wall, simprocAttr, q5, q6, q7]
  rw [binderG, if_neg (by omega)]
 by_cases j2 : j = 2
 ·subst j2
  clear j1
  by_cases h11 : k = 11
  ·subst h11; refine out_of pf91_is (Nat.le_of_ble_eq_true rfl) ?_; simp only [pf91, ↓wpre, wall, simprocAttr, show binderG 11 2 = 1 from by decide]
  have q11 : (k == 11) = false := by simpa using h11
  refine out_of pf91_is (Nat.le_of_ble_eq_true rfl) ?_; simp only [pf91, ↓wpre, wall, simprocAttr, q11]
  rw [binderG, if_neg (by omega)]
 have q1 : (j == 1) = false := by simpa using j1
 have q2 : (j == 2) = false := by simpa using j2
 refine out_of pf91_is (Nat.le_of_ble_eq_true rfl) ?_; simp only [pf91, ↓wpre, wall, simprocAttr, q1, q2]
 rw [binderG, if_neg (by omega)]
def wkc (e : Bool) (y : AV) : AObj := .cells false [.int (if e = true then 24 else 0), y]
structure SW (w : Nat) (H : List AObj) (V : List Nat) (H' : List AObj) (V' : List Nat) : Prop where
 le : H.length ≤ H'.length
 keep : ∀ (k : Nat), k < H.length → k ≠ w → H'[k]? = H[k]?
 vl : V.length ≤ V'.length
 vk : ∀ (i v : Nat), V[i]? = some v → V'[i]? = some v
theorem SW.refl (w : Nat) (H : List AObj) (V : List Nat) : SW w H V H V := ⟨Nat.le_refl _, fun _ _ _ => rfl, Nat.le_refl _, fun _ _ h => h⟩
theorem SW.trans {w : Nat} {A B C : List AObj} {V V' V'' : List Nat} (h : SW w A V B V') (k : SW w B V' C V'') : SW w A V C V'' :=
 ⟨Nat.le_trans h.le k.le, fun i h1 h2 => (k.keep i (Nat.lt_of_lt_of_le h1 h.le) h2).trans (h.keep i h1 h2), Nat.le_trans h.vl k.vl, fun i v e => k.vk i v (h.vk i v e)⟩
theorem SW.app (w : Nat) (H : List AObj) (V : List Nat) (G : List AObj) : SW w H V (H ++ G) V := ⟨by simp, fun k h _ => List.getElem?_append_left h, Nat.le_refl _, fun _ _ h => h⟩
theorem SW.set {w : Nat} {A B : List AObj} {V V' : List Nat} (h : SW w A V B V') {q : Nat} (hq : A.length ≤ q ∨ q = w) (o : AObj) : SW w A V (B.set q o) V' :=
 ⟨by rw [List.length_set]; exact h.le, fun k h1 h2 => by rw [List.getElem?_set, if_neg (by omega)]; exact h.keep k h1 h2, h.vl, h.vk⟩
theorem fail_sh {w : Nat} {e : Bool} {y : AV} {H : List AObj} {V : List Nat} (hw : H[w]? = some (wkc e y)) : Sh md pfs 89 [.ptr w 0, .int 24] ⟨H, V⟩ (fun _ s => ∃ H', s = ⟨H', V⟩ ∧ H'[w]? = some (wkc true y) ∧ SW w H V H' V) fun _ _ => False := by
 refine sh_of pf89_is (Nat.le_of_ble_eq_true rfl) ?_
 rw [wkc] at hw
 cases e
 ·simp only [Bool.false_eq_true, if_false] at hw
  have q0 : ((0 : Int) == 0) = true := rfl
  simp only [pf89, ↓wpre, wall, simprocAttr, hw, q0]
  exact ⟨_, rfl, get_set hw, (SW.refl w H V).set (.inr rfl) _⟩
 ·simp only [if_true] at hw
  have q0 : ((24 : Int) == 0) = false := rfl
  simp only [pf89, ↓wpre, wall, simprocAttr, hw, q0]
  exact ⟨_, rfl, hw, .refl _ _ _⟩
theorem rvar_sh {w : Nat} {e : Bool} {y : AV} {H : List AObj} {V : List Nat} (hw : H[w]? = some (wkc e y)) (i : Int) : Sh md pfs 90 [.ptr w 0, .int i] ⟨H, V⟩ (fun v s => v = .agg [.int 0, .int i, .str ⟨#[]⟩, .sl [] .nil, .sl [] .nil] ∧ ∃ H', s = ⟨H', V⟩ ∧ H'[w]? = some (wkc (e || decide (65535 < i)) y) ∧ SW w H V H' V) fun _ _ => False := by
 refine sh_of pf90_is (Nat.le_of_ble_eq_true rfl) ?_
 have hw1 := app_get_of hw [.cells false [.int 0, .int 0, .str ⟨#[]⟩, .sl [] .nil, .sl [] .nil]]
 have lw := lt_of_get hw
 rcases Int.lt_or_le 65535 i with h | h
 ·have dA : decide (i > 65535) = true := by simpa using h
  have dB : decide (65535 < i) = true := by simpa using h
  rw [dB, Bool.or_true]
  obtain ⟨v, _, ⟨H', rfl, g1, g2⟩, c89⟩ := (fail_sh (V := V) hw1).callRet rfl
  have hz : H'[H.length]? = some (.cells false [.int 0, .int 0, .str ⟨#[]⟩, .sl [] .nil, .sl [] .nil]) := by rw [g2.keep _ (by simp) (by omega)]; simp
  simp only [pf90, ↓wpre, wall, simprocAttr, dA, c89, hz, get_set hz]
  exact ⟨_, rfl, by rw [List.getElem?_set, if_neg (by omega)]; exact g1, ((SW.app w H V _).trans g2).set (.inl (Nat.le_refl _)) _⟩
 ·have dA : decide (i > 65535) = false := by simp only [decide_eq_false_iff_not]; omega
  have dB : decide (65535 < i) = false := by simp only [decide_eq_false_iff_not]; omega
  rw [dB, Bool.or_false]
  simp only [pf90, ↓wpre, wall, simprocAttr, List.length_append, List.append_assoc, app_get_len, app_get_add, app_set_len, app_set_add, dA]
  exact ⟨_, rfl, app_get_of hw _, .app _ _ _ _⟩
section
variable (b fr : Int)
mutual
def Tm.sh (d : Nat) : Tm → Tm
 | .mk k i n ls kids => if k = 0 then (if i < fr + d then .mk k i n ls kids else if i + b < fr + d then .mk k i n ls kids else vr (i + b)) else .mk k i n ls (shL d k 0 kids)
def shL (d : Nat) (k : Int) : Nat → List Tm → List Tm
 | _, [] => []
 | j, t :: l => t.sh (d + (binderG k j).toNat) :: shL d k (j + 1) l
end
mutual
def Tm.shE (d : Nat) : Tm → Bool
 | .mk k i _ _ kids => if k = 0 then !decide (i < fr + d) && lbad b fr i d else shEL d k 0 kids
def shEL (d : Nat) (k : Int) : Nat → List Tm → Bool
 | _, [] => false
 | j, t :: l => t.shE (d + (binderG k j).toNat) || shEL d k (j + 1) l
end
end
section
variable {b fr : Int}
theorem shL_snoc {d : Nat} {k : Int} {x : Tm} : ∀ {l : List Tm} {j : Nat}, shL b fr d k j (l ++ [x]) = shL b fr d k j l ++ [x.sh b fr (d + (binderG k (j + l.length : Nat)).toNat)]
 | [], j => by simp [shL]
 | y :: l, j => by
  rw [List.cons_append, shL, shL_snoc, shL, List.length_cons, show j + 1 + l.length = j + (l.length + 1) from by omega]; rfl
theorem shEL_snoc {d : Nat} {k : Int} {x : Tm} : ∀ {l : List Tm} {j : Nat}, shEL b fr d k j (l ++ [x]) = (shEL b fr d k j l || x.shE b fr (d + (binderG k (j + l.length : Nat)).toNat))
 | [], j => by simp [shEL]
 | y :: l, j => by
  rw [List.cons_append, shEL, shEL_snoc, shEL, List.length_cons, show j + 1 + l.length = j + (l.length + 1) from by omega, Bool.or_assoc]
theorem shL_take {d : Nat} {k : Int} {l : List Tm} {j : Nat} {x : Tm} (h : l[j]? = some x) : shL b fr d k 0 (l.take (j + 1)) = shL b fr d k 0 (l.take j) ++ [x.sh b fr (d + (binderG k j).toNat)] ∧ shEL b fr d k 0 (l.take (j + 1)) = (shEL b fr d k 0 (l.take j) || x.shE b fr (d + (binderG k j).toNat)) := by
 have hlt := (List.getElem?_eq_some_iff.1 h).1
 have e : l.take (j + 1) = l.take j ++ [x] := by rw [List.take_add_one, h]; rfl
 rw [e, shL_snoc, shEL_snoc, List.length_take, Nat.min_eq_left (by omega), Nat.zero_add]
 exact ⟨rfl, rfl⟩
end
theorem vrIs {i : Int} (h0 : 0 ≤ i) (h1 : i ≤ 4294967296) : (vr i).Is (.agg [.int 0, .int i, .str ⟨#[]⟩, .sl [] .nil, .sl [] .nil]) :=
 Tm.Is.mk rfl rfl (by unfold in64; omega) (by unfold in64; omega) (Nat.zero_le _) (Nat.zero_le _) (Nat.zero_le _) trivial trivial
theorem tm_frz {s : ASt} {las kas : List AV} {t1 t2 : Tl} {c : Prop} [Decidable c] (h1 : pureAVs las = true) (h2 : pureAVs kas = true) : (if c then s else frz 19 (frz 19 s (.sl las t1)) (.sl kas t2)) = s := by
 rw [fr_sl h1, fr_sl h2, ite_self]
def ShE (w : Nat) (b fr : Int) (d : Nat) (E : Env) : Prop := E 0 = .ptr w 0 ∧ E 2 = .int b ∧ E 3 = .int fr ∧ E 4 = .int (d : Nat)
theorem shift_sh {w : Nat} {y : AV} {b fr : Int} (hb0 : -65536 ≤ b) (hb1 : b ≤ 1000000) (hf0 : 0 ≤ fr) (hf1 : fr ≤ 4294967294) (x : Tm) : ∀ {e : Bool} {H : List AObj} {V : List Nat} {a : AV} {d : Nat}, H[w]? = some (wkc e y) → x.Is a → (∀ z ∈ x.subs, z.right = true) → d + x.dp ≤ 1000000 →
    Sh md pfs 76 [.ptr w 0, a, .int b, .int fr, .int (d : Nat)] ⟨H, V⟩ (fun v s => (x.sh b fr d).Is v ∧ ∃ H' V', s = ⟨H', V'⟩ ∧ H'[w]? = some (wkc (e || x.shE b fr d) y) ∧ SW w H V H' V') fun _ _ => False := by
  induction x using Tm.ind with
  | h k i nm ls kids ih =>
  intro e H V a d hw hI hr hd
  have hI0 := hI
  have hpa := tmPure _ hI
  obtain ⟨t1, t2, las, kas, rfl, g1, g2, g3, g4, g5, g6, g7, g8, g9⟩ := hI.opn
  have hr0 : (Tm.mk k i nm ls kids).right = true := hr _ (subs_self _)
  have lw := lt_of_get hw
  have hkl := g9.len
  have hk3 : kids.length ≤ 3 := by
    have h1 := (right_facts hr0).1.kids
    simp only [Tm.k, Tm.kids] at h1
    have : kidsN k ≤ 3 := by unfold kidsN; repeat' split
                             all_goals omega
    omega
  have hl1 := lvsPure g8
  have hl2 := tmsPure g9
  have hpl : pureAV (.sl las t1) = true := by rw [pv_sl, g1, hl1]; rfl
  refine sh_of pf76_is (Nat.le_of_ble_eq_true rfl) ?_
  have hpp : ∀ s, purify 20 s (.agg [.int k, .int i, .str nm, .sl las t1, .sl kas t2]) = some (.agg [.int k, .int i, .str nm, .sl las t1, .sl kas t2]) := fun s => purify_pure hpa
  have hfp : ∀ s, frz 20 s (.agg [.int k, .int i, .str nm, .sl las t1, .sl kas t2]) = s := fun s => fr_pure hpa
  have hw1 := app_get_of hw [.cells false [.int k, .int i, .str nm, .sl las t1, .sl kas t2], .cells false [.int 0, .int 0, .str ⟨#[]⟩, .sl [] .nil, .sl [] .nil]]
  by_cases hk : k = 0
  · have q0 : (k == 0) = true := by simp [hk]
    have hi : 0 ≤ i ∧ i ≤ 2147483647 := by
      have := (formed_facts (n := ndOf [] (.mk k i nm ls kids)) (by rw [formed_ndOf]; exact hr0)).2.1
      exact this
    have w1 : IntKind.i64.wrap (fr + (d : Nat)) = fr + (d : Nat) := wrap_in (by unfold in64; omega)
    have w2 : IntKind.i64.wrap (i + b) = i + b := wrap_in (by unfold in64; omega)
    rw [Tm.sh, Tm.shE, if_pos hk, if_pos hk]
    rcases Int.lt_or_le i (fr + d) with h1 | h1
    · have d1 : decide (i < fr + (d : Nat)) = true := by simpa using h1
      rw [if_pos h1, d1, Bool.not_true, Bool.false_and, Bool.or_false]
      simp only [pf76, ↓wpre, wall, simprocAttr, List.length_append, List.append_assoc, app_get_len, app_get_add, app_set_len, app_set_add, q0, w1, w2, d1]
      exact ⟨_, hpp _, hI0, _, _, tm_frz hl1 hl2, app_get_of hw _, .app _ _ _ _⟩
    · have d1 : decide (i < fr + (d : Nat)) = false := by simp only [decide_eq_false_iff_not]; omega
      rcases Int.lt_or_le (i + b) (fr + d) with h2 | h2
      · have d2 : decide (i + b < fr + (d : Nat)) = true := by simpa using h2
        have hbad : lbad b fr i d = true := by rw [lbad, d2, Bool.true_or]
        rw [if_neg (by omega), if_pos h2, d1, hbad, Bool.not_false, Bool.true_and, Bool.or_true]
        obtain ⟨v, _, ⟨H', rfl, f1, f2⟩, c89⟩ := (fail_sh (V := V) hw1).callRet rfl
        have hx : H'[H.length]? = some (.cells false [.int k, .int i, .str nm, .sl las t1, .sl kas t2]) := by rw [f2.keep _ (by simp) (by omega)]; simp
        have hz : H'[H.length + 1]? = some (.cells false [.int 0, .int 0, .str ⟨#[]⟩, .sl [] .nil, .sl [] .nil]) := by rw [f2.keep _ (by simp) (by omega)]; simp
        simp only [pf76, ↓wpre, wall, simprocAttr, List.length_append, List.append_assoc, app_get_len, app_get_add, app_set_len, app_set_add, q0, w1, w2, d1, d2, c89, hx, hz, get_set hz]
        exact ⟨_, hpp _, hI0, _, _, tm_frz hl1 hl2, by rw [List.getElem?_set, if_neg (by omega)]; exact f1, ((SW.app w H V _).trans f2).set (.inl (by omega)) _⟩
      · have d2 : decide (i + b < fr + (d : Nat)) = false := by simp only [decide_eq_false_iff_not]; omega
        rw [if_neg (by omega), if_neg (by omega), d1, lbad, d2, Bool.not_false, Bool.true_and, Bool.false_or]
        obtain ⟨_, _, ⟨rfl, H', rfl, f1, f2⟩, c90⟩ := (rvar_sh (V := V) hw1 (i + b)).callRet rfl
        have hz : H'[H.length + 1]? = some (.cells false [.int 0, .int 0, .str ⟨#[]⟩, .sl [] .nil, .sl [] .nil]) := by rw [f2.keep _ (by simp) (by omega)]; simp
        simp only [pf76, ↓wpre, wall, simprocAttr, List.length_append, List.append_assoc, app_get_len, app_get_add, app_set_len, app_set_add, q0, w1, w2, d1, d2, c90, hz, get_set hz]
        exact ⟨vrIs (by omega) (by omega), _, _, rfl, by rw [List.getElem?_set, if_neg (by omega)]; exact f1, ((SW.app w H V _).trans f2).set (.inl (by omega)) _⟩
  · have q0 : (k == 0) = false := by simp [hk]
    rw [Tm.sh, Tm.shE, if_neg hk, if_neg hk]
    simp only [pf76]
    refine seqE (fun E H' V' => H' = H ++ [.cells false [.int k, .int i, .str nm, .sl las t1, .sl kas t2], .cells false [.int 0, .int 0, .str ⟨#[]⟩, .sl [] .nil, .sl [] .nil]] ∧ V = V' ∧ ShE w b fr d E ∧ E 6 = .ptr H.length 0 ∧ E 10 = .ptr (H.length + 1) 0) ?_ ?_
    · simp only [↓wpre, wall, simprocAttr, List.length_append, List.append_assoc, app_get_len, app_get_add, app_set_len, app_set_add]; exact EQ_in ⟨rfl, rfl, ⟨rfl, rfl, rfl, rfl⟩, rfl, rfl⟩
    rintro E _ _ ⟨rfl, rfl, ⟨e0, e2, e3, e4⟩, e6, e10⟩
    have hx0 : (H ++ [AObj.cells false [.int k, .int i, .str nm, .sl las t1, .sl kas t2], .cells false [.int 0, .int 0, .str ⟨#[]⟩, .sl [] .nil, .sl [] .nil]])[H.length]? = some (.cells false [.int k, .int i, .str nm, .sl las t1, .sl kas t2]) := by simp
    have hz0 : (H ++ [AObj.cells false [.int k, .int i, .str nm, .sl las t1, .sl kas t2], .cells false [.int 0, .int 0, .str ⟨#[]⟩, .sl [] .nil, .sl [] .nil]])[H.length + 1]? = some (.cells false [.int 0, .int 0, .str ⟨#[]⟩, .sl [] .nil, .sl [] .nil]) := by simp
    have hS0 : SW w H V (H ++ [AObj.cells false [.int k, .int i, .str nm, .sl las t1, .sl kas t2], .cells false [.int 0, .int 0, .str ⟨#[]⟩, .sl [] .nil, .sl [] .nil]]) V := .app _ _ _ _
    generalize H ++ [AObj.cells false [.int k, .int i, .str nm, .sl las t1, .sl kas t2], .cells false [.int 0, .int 0, .str ⟨#[]⟩, .sl [] .nil, .sl [] .nil]] = H1 at *
    refine seqE (fun E H' V' => H1 = H' ∧ V = V' ∧ ShE w b fr d E ∧ E 6 = .ptr H.length 0 ∧ E 10 = .ptr (H.length + 1) 0) ?_ ?_
    · simp only [↓wpre, wall, simprocAttr, e6, hx0, q0]; exact EQ_in ⟨rfl, rfl, ⟨e0, e2, e3, e4⟩, e6, e10⟩
    clear e0 e2 e3 e4 e6 e10 E
    rintro E _ _ ⟨rfl, rfl, ⟨e0, e2, e3, e4⟩, e6, e10⟩
    refine seqE (fun E H' V' => H1 = H' ∧ V = V' ∧ ShE w b fr d E ∧ E 6 = .ptr H.length 0 ∧ E 10 = .ptr (H.length + 1) 0 ∧ E 11 = .sl [] .nil) ?_ ?_
    · simp only [↓wpre, wall, simprocAttr]; exact EQ_in ⟨rfl, rfl, ⟨e0, e2, e3, e4⟩, e6, e10, rfl⟩
    clear e0 e2 e3 e4 e6 e10 E
    rintro E _ _ ⟨rfl, rfl, ⟨e0, e2, e3, e4⟩, e6, e10, e11⟩
    refine seqE (fun E H' V' => ∃ ks tk, H'[w]? = some (wkc (e || shEL b fr d k 0 kids) y) ∧ SW w H V H' V' ∧ H'[H.length]? = some (.cells false [.int k, .int i, .str nm, .sl las t1, .sl kas t2]) ∧ H'[H.length + 1]? = some (.cells false [.int 0, .int 0, .str ⟨#[]⟩, .sl [] .nil, .sl [] .nil]) ∧ E 6 = .ptr H.length 0 ∧ E 10 = .ptr (H.length + 1) 0 ∧ E 11 = .sl ks tk ∧ LIs Tm.Is (shL b fr d k 0 kids) ks ∧ ks.length ≤ lenB) ?_ ?_
    · refine seqE (fun E H' V' => H1 = H' ∧ V = V' ∧ ShE w b fr d E ∧ E 6 = .ptr H.length 0 ∧ E 10 = .ptr (H.length + 1) 0 ∧ E 11 = .sl [] .nil ∧ E 12 = .int (0 : Nat)) ?_ ?_
      · simp only [↓wpre, wall, simprocAttr]; exact EQ_in ⟨rfl, rfl, ⟨e0, e2, e3, e4⟩, e6, e10, e11, rfl⟩
      clear e0 e2 e3 e4 e6 e10 e11 E
      rintro E _ _ ⟨rfl, rfl, ⟨e0, e2, e3, e4⟩, e6, e10, e11, e12⟩
      rw [W_block]
      refine W_loopE (fun j => kas.length - j) (fun j E H' V' => ∃ ks tk, H'[w]? = some (wkc (e || shEL b fr d k 0 (kids.take j)) y) ∧ SW w H V H' V' ∧ H'[H.length]? = some (.cells false [.int k, .int i, .str nm, .sl las t1, .sl kas t2]) ∧ H'[H.length + 1]? = some (.cells false [.int 0, .int 0, .str ⟨#[]⟩, .sl [] .nil, .sl [] .nil]) ∧ ShE w b fr d E ∧ E 6 = .ptr H.length 0 ∧ E 10 = .ptr (H.length + 1) 0 ∧ E 11 = .sl ks tk ∧ E 12 = .int (j : Nat) ∧ j ≤ kas.length ∧ LIs Tm.Is (shL b fr d k 0 (kids.take j)) ks ∧ ks.length = j ∧ App V' ks tk ∧ ∀ (i v : Nat), tk = .tl i v → V.length ≤ i) ?_ 0 ⟨[], .nil, ?_, hS0, hx0, hz0, ⟨e0, e2, e3, e4⟩, e6, e10, e11, e12, Nat.zero_le _, by rw [List.take_zero, shL]; trivial, rfl, app_start _, fun i v h => by cases h⟩
      rotate_left
      · rw [List.take_zero, shEL, Bool.or_false]; exact hw1
      clear e0 e2 e3 e4 e6 e10 e11 e12 E
      rintro j E H3 V3 ⟨ks, tk, hw3, hS3, hx3, hz3, ⟨e0, e2, e3, e4⟩, e6, e10, e11, e12, hj, hks, hkn, hA, ho⟩
      rcases Nat.lt_or_ge j kas.length with hlt | hge
      · have hdec : decide ((j : Int) < kas.length) = true := by simpa using hlt
        obtain ⟨x, c, d0, d1, d3, d4, d5, d6, d7, d8⟩ := g9.get tmAgg hlt
        have hall := g9.all tmAgg
        obtain ⟨_, rfl, c91⟩ := (below_ret k j).call rfl (by simp [pvs_cons, pvs_nil, pv_v])
        have hb01 := binder_01 k j
        have hdp : d + (binderG k j).toNat + x.dp ≤ 1000000 := by
          have h1 := (tdp_split d0).2
          rw [Tm.dp] at hd
          omega
        have w61 : IntKind.i64.wrap ((d : Nat) + binderG k j) = ((d + (binderG k j).toNat : Nat) : Int) := by rw [wrap_in (by unfold in64; omega)]; omega
        obtain ⟨v, _, ⟨hv, H4, V4, rfl, hw4, hS4⟩, c76⟩ := (ih x d3 (V := V3) hw3 d8 (fun z hz => hr z (by rw [Tm.subs]; exact List.mem_cons_of_mem _ (mem_subsL.2 ⟨x, d3, hz⟩))) hdp).callRet rfl
        obtain ⟨cv, rfl, l1, l2, l3⟩ := tmCells hv
        have lx3 := lt_of_get hz3
        have hx4 : H4[H.length]? = some (.cells false [.int k, .int i, .str nm, .sl las t1, .sl kas t2]) := by rw [hS4.keep H.length (by omega) (by omega)]; exact hx3
        have hz4 : H4[H.length + 1]? = some (.cells false [.int 0, .int 0, .str ⟨#[]⟩, .sl [] .nil, .sl [] .nil]) := by rw [hS4.keep (H.length + 1) (by omega) (by omega)]; exact hz3
        have hA4 : App V4 ks tk := by
          rcases hA with h | ⟨h, i, v, h2, h3⟩
          · exact .inl h
          · exact .inr ⟨h, i, v, h2, hS4.vk i v h3⟩
        obtain ⟨tk', V5, f1, f2, f3⟩ := app_many (es := 5) (xs := [.agg cv]) hA4 (by show ks.length + 1 ≤ 1073741824; omega) (hks.all tmAgg) (by simp only [List.all_cons, List.all_nil, Bool.and_true, cells_agg, l1, l3]; rfl)
        have hq : eqAV (.sl ks tk) (.sl ks tk) = true := eqT _ _ (eqL (fun x a h => eqTm x h) hks)
        obtain ⟨s1, s2⟩ := shL_take (b := b) (fr := fr) (d := d) (k := k) d0
        simp only [↓wpre, wall, simprocAttr, e0, e2, e3, e4, e6, e11, e12, hdec, hx3, d4, d5, d6, d7, hall, c91, w61, c76, l1, l2, l3, f1, hq, kz_call, JW_f, JW_t]
        rw [Bool.or_assoc, ← s2] at hw4
        have hS4' := hS3.trans hS4
        refine EQ_in ⟨j + 1, by omega, _, tk', hw4, ⟨hS4'.le, hS4'.keep, Nat.le_trans hS4'.vl f3.1, fun i v h1 => f3.2.1 i v (hS4'.vk i v h1) fun ver h2 => ?_⟩, hx4, hz4, ⟨e0, e2, e3, e4⟩, e6, e10, rfl, next_ixv (by omega), by omega, by rw [s1]; exact hks.append (.one hv), by simp [hkn], f2, fun i v h1 => ?_⟩
        · have := (List.getElem?_eq_some_iff.1 h1).1
          have := ho i ver h2
          omega
        · rcases f3.2.2 i v h1 with ⟨v0, h⟩ | h
          · exact ho i v0 h
          · exact Nat.le_trans hS4'.vl h
      · have hdec : decide ((j : Int) < kas.length) = false := by simpa using hge
        rw [List.take_of_length_le (by omega)] at hw3 hks
        simp only [↓wpre, wall, simprocAttr, e6, e12, hx3, hdec]
        exact EQ_in ⟨ks, tk, hw3, hS3, hx3, hz3, e6, e10, e11, hks, by omega⟩
    clear e0 e2 e3 e4 e6 e10 e11 E
    rintro E H3 V3 ⟨ks, tk, hw3, hS3, hx3, hz3, e6, e10, e11, hks, hkn⟩
    have lx3 := lt_of_get hz3
    have hpk := tmsPure hks
    have hpz := fun (s : ASt) => tm_pz (m := 17) (s := s) (k := k) (i := i) (n := nm) (t2 := tk) hpl hpk
    have hz4 : ∀ Y, (H3.set H.length Y)[H.length + 1]? = some (.cells false [.int 0, .int 0, .str ⟨#[]⟩, .sl [] .nil, .sl [] .nil]) := fun Y => by rw [List.getElem?_set, if_neg (by omega)]; exact hz3
    simp only [↓wpre, wall, simprocAttr, e6, e10, e11, hx3, get_set hx3, hz4, get_set (hz4 _)]
    exact ⟨_, hpz _, Tm.Is.mk g1 (stripR_pure _ _ _) g3 g4 g5 g6 hkn g8 hks, _, _, tm_frz hl1 hpk, by rw [List.getElem?_set, if_neg (by omega), List.getElem?_set, if_neg (by omega)]; exact hw3, (hS3.set (.inl (by omega)) _).set (.inl (by omega)) _⟩
end Go.Proofs.Eng
namespace Go.Proofs.Eng
open Go Go.Proofs
set_option maxRecDepth 100000
set_option maxHeartbeats 16000000
theorem rsz_ret (x : Tm) : ∀ {a : AV}, x.Is a → x.sz ≤ 1000000 → Out md pfs 100 [a] (· = .int (x.sz : Nat)) fun _ => False := by
 induction x using Tm.ind with
 | h k i nm ls kids ih =>
 intro a hI hs
 obtain ⟨t1, t2, las, kas, rfl, g1, g2, g3, g4, g5, g6, g7, g8, g9⟩ := hI.opn
 have hkl := g9.len
 have hall := g9.all tmAgg
 rw [Tm.sz] at hs ⊢
 refine out_of pf100_is (Nat.le_of_ble_eq_true rfl) ?_
 simp only [pf100, ↓wpre, wall, simprocAttr]
 refine W_loopE (fun j => kas.length - j) (fun j E H V => H = [.cells false [.int k, .int i, .str nm, .sl las t1, .sl kas t2]] ∧ E 1 = .ptr 0 0 ∧ E 3 = .int (1 + tszL (kids.take j) : Nat) ∧ E 4 = .int (j : Nat) ∧ j ≤ kas.length) ?_ 0 ⟨rfl, rfl, rfl, rfl, Nat.zero_le _⟩
 rintro j E H V ⟨rfl, e1, e3, e4, hj⟩
 rcases Nat.lt_or_ge j kas.length with hlt | hge
 ·have hdec : decide ((j : Int) < kas.length) = true := by simpa using hlt
  obtain ⟨y, c, d0, d1, d3, d4, d5, d6, d7, d8⟩ := g9.get tmAgg hlt
  obtain ⟨s1, s2⟩ := tsz_split d0
  obtain ⟨_, rfl, c100⟩ := (ih y d3 d8 (by omega)).call rfl (by simp [pvs_cons, pvs_nil, tmPure _ d8])
  have w19 : IntKind.i64.wrap (((1 + tszL (kids.take j) : Nat) : Int) + (y.sz : Nat)) = ((1 + tszL (kids.take (j + 1)) : Nat) : Int) := by rw [wrap_in (by unfold in64; omega)]; omega
  simp only [↓wpre, wall, simprocAttr, e1, e3, e4, hdec, d4, d5, d6, d7, hall, c100, w19]
  exact EQ_in ⟨j + 1, by omega, rfl, e1, rfl, next_ixv (by omega), by omega⟩
 ·have hdec : decide ((j : Int) < kas.length) = false := by simpa using hge
  rw [List.take_of_length_le (by omega)] at e3
  simp only [↓wpre, wall, simprocAttr, e1, e3, e4, hdec]
theorem rdp_ret (x : Tm) : ∀ {a : AV}, x.Is a → x.dp ≤ 1000000 → Out md pfs 61 [a] (· = .int (x.dp : Nat)) fun _ => False := by
 induction x using Tm.ind with
 | h k i nm ls kids ih =>
 intro a hI hs
 obtain ⟨t1, t2, las, kas, rfl, g1, g2, g3, g4, g5, g6, g7, g8, g9⟩ := hI.opn
 have hkl := g9.len
 have hall := g9.all tmAgg
 rw [Tm.dp] at hs ⊢
 refine out_of pf61_is (Nat.le_of_ble_eq_true rfl) ?_
 simp only [pf61, ↓wpre, wall, simprocAttr]
 refine W_loopE (fun j => kas.length - j) (fun j E H V => H = [.cells false [.int k, .int i, .str nm, .sl las t1, .sl kas t2]] ∧ E 1 = .ptr 0 0 ∧ E 3 = .int (tdpL (kids.take j) : Nat) ∧ E 4 = .int (j : Nat) ∧ j ≤ kas.length) ?_ 0 ⟨rfl, rfl, rfl, rfl, Nat.zero_le _⟩
 rintro j E H V ⟨rfl, e1, e3, e4, hj⟩
 rcases Nat.lt_or_ge j kas.length with hlt | hge
 ·have hdec : decide ((j : Int) < kas.length) = true := by simpa using hlt
  obtain ⟨y, c, d0, d1, d3, d4, d5, d6, d7, d8⟩ := g9.get tmAgg hlt
  obtain ⟨s1, s2⟩ := tdp_split d0
  obtain ⟨_, rfl, c61⟩ := (ih y d3 d8 (by omega)).call rfl (by simp [pvs_cons, pvs_nil, tmPure _ d8])
  have w19 := i_max (tdpL (kids.take j)) y.dp
  rw [← s1] at w19
  simp only [↓wpre, wall, simprocAttr, e1, e3, e4, hdec, d4, d5, d6, d7, hall, c61, w19]
  exact EQ_in ⟨j + 1, by omega, rfl, e1, rfl, next_ixv (by omega), by omega⟩
 ·have hdec : decide ((j : Int) < kas.length) = false := by simpa using hge
  rw [List.take_of_length_le (by omega)] at e3
  have w1 : IntKind.i64.wrap ((tdpL kids : Int) + 1) = ((tdpL kids + 1 : Nat) : Int) := by rw [wrap_in (by unfold in64; omega)]; omega
  simp only [↓wpre, wall, simprocAttr, e1, e3, e4, hdec, w1]
end Go.Proofs.Eng
namespace Go.Proofs.Eng
open Go Go.Proofs
set_option maxRecDepth 100000
set_option maxHeartbeats 16000000
section
variable (ts : List Tm)
mutual
def Tm.st (d : Nat) : Tm → Tm
 | .mk k i n ls kids => if k = 0 then (if i < d then .mk k i n ls kids else match ts[(i - d).toNat]? with | some t => t.sh d 0 0 | none => vr (i - ts.length)) else .mk k i n ls (stL d k 0 kids)
def stL (d : Nat) (k : Int) : Nat → List Tm → List Tm
 | _, [] => []
 | j, t :: l => t.st (d + (binderG k j).toNat) :: stL d k (j + 1) l
end
mutual
def Tm.stE (d : Nat) : Tm → Bool
 | .mk k i _ _ kids => if k = 0 then (if i < d then false else match ts[(i - d).toNat]? with | some t => t.shE d 0 0 | none => decide (65535 < i - ts.length)) else stEL d k 0 kids
def stEL (d : Nat) (k : Int) : Nat → List Tm → Bool
 | _, [] => false
 | j, t :: l => t.stE (d + (binderG k j).toNat) || stEL d k (j + 1) l
end
end
section
variable {ts : List Tm}
theorem stL_snoc {d : Nat} {k : Int} {x : Tm} : ∀ {l : List Tm} {j : Nat}, stL ts d k j (l ++ [x]) = stL ts d k j l ++ [x.st ts (d + (binderG k (j + l.length : Nat)).toNat)]
 | [], j => by simp [stL]
 | y :: l, j => by
  rw [List.cons_append, stL, stL_snoc, stL, List.length_cons, show j + 1 + l.length = j + (l.length + 1) from by omega]; rfl
theorem stEL_snoc {d : Nat} {k : Int} {x : Tm} : ∀ {l : List Tm} {j : Nat}, stEL ts d k j (l ++ [x]) = (stEL ts d k j l || x.stE ts (d + (binderG k (j + l.length : Nat)).toNat))
 | [], j => by simp [stEL]
 | y :: l, j => by
  rw [List.cons_append, stEL, stEL_snoc, stEL, List.length_cons, show j + 1 + l.length = j + (l.length + 1) from by omega, Bool.or_assoc]
theorem stL_take {d : Nat} {k : Int} {l : List Tm} {j : Nat} {x : Tm} (h : l[j]? = some x) : stL ts d k 0 (l.take (j + 1)) = stL ts d k 0 (l.take j) ++ [x.st ts (d + (binderG k j).toNat)] ∧ stEL ts d k 0 (l.take (j + 1)) = (stEL ts d k 0 (l.take j) || x.stE ts (d + (binderG k j).toNat)) := by
 have hlt := (List.getElem?_eq_some_iff.1 h).1
 have e : l.take (j + 1) = l.take j ++ [x] := by rw [List.take_add_one, h]; rfl
 rw [e, stL_snoc, stEL_snoc, List.length_take, Nat.min_eq_left (by omega), Nat.zero_add]
 exact ⟨rfl, rfl⟩
end
theorem tszL_snoc (x : Tm) : ∀ l : List Tm, tszL (l ++ [x]) = tszL l + x.sz
 | [] => by simp [tszL]
 | y :: l => by rw [List.cons_append, tszL, tszL_snoc x l, tszL]; omega
theorem sh_sz {b fr : Int} (x : Tm) : ∀ {d : Nat}, (∀ y ∈ x.subs, y.right = true) → (x.sh b fr d).sz = x.sz := by
 induction x using Tm.ind with
 | h k i n ls kids ih =>
 intro d hr
 rw [Tm.sh]
 by_cases hk : k = 0
 ·have hr0 := hr _ (subs_self _)
  have hkd : kids = [] := by
   have h1 := (right_facts hr0).1.kids
   simp only [Tm.k, Tm.kids] at h1
   rw [hk, show kidsN 0 = 0 from by decide] at h1
   exact List.length_eq_zero_iff.1 (by omega)
  rw [if_pos hk, hkd]
  split
  ·rfl
  ·split
   ·rfl
   ·rw [vr_fv]; simp [Tm.sz, tszL]
 ·rw [if_neg hk, Tm.sz, Tm.sz]
  have key : ∀ (l : List Tm) (j : Nat), (∀ x ∈ l, x ∈ kids) → tszL (shL b fr d k j l) = tszL l := by
   intro l
   induction l with
   | nil => intro j _; rw [shL]
   | cons y l ihl =>
    intro j h1
    rw [shL, tszL, tszL, ihl (j + 1) fun x hx => h1 x (by simp [hx]), ih y (h1 y (by simp)) fun w hw => hr w (by rw [Tm.subs]; exact List.mem_cons_of_mem _ (mem_subsL.2 ⟨y, h1 y (by simp), hw⟩))]
  rw [key kids 0 fun _ h => h]
def StR (w : Nat) (e : Bool) (c : Nat) (t : Tm) (te : Bool) (H : List AObj) (V : List Nat) (v : AV) (s : ASt) : Prop := ∃ (H' : List AObj) (V' : List Nat) (c' : Nat) (e' : Bool) (r : Tm), s = ⟨H', V'⟩ ∧ r.Is v ∧ H'[w]? = some (wkc e' (.int (c' : Nat))) ∧ SW w H V H' V' ∧ c ≤ c' ∧ c' ≤ 4600 ∧ (c' ≤ 4096 → e' = (e || te) ∧ r = t ∧ c' = c + t.sz)
def StE (w : Nat) (tas : List AV) (tt : Tl) (d : Nat) (E : Env) : Prop := E 0 = .ptr w 0 ∧ E 2 = .sl tas tt ∧ E 3 = .int (d : Nat)
theorem subst_sh {w : Nat} {ts : List Tm} {tas : List AV} {tt : Tl} (htp : tt.pure = true) (hts : LIs Tm.Is ts tas) (htl : tas.length ≤ 1000) (htr : ∀ t ∈ ts, ∀ y ∈ t.subs, y.right = true) (htd : ∀ t ∈ ts, t.dp ≤ 1000) (htz : ∀ t ∈ ts, t.sz ≤ 400) (x : Tm) : ∀ {e : Bool} {c : Nat} {H : List AObj} {V : List Nat} {a : AV} {d : Nat}, H[w]? = some (wkc e (.int (c : Nat))) → c ≤ 4600 → x.Is a → (∀ z ∈ x.subs, z.right = true) → d + x.dp ≤ 100000 →
    Sh md pfs 92 [.ptr w 0, a, .sl tas tt, .int (d : Nat)] ⟨H, V⟩ (StR w e c (x.st ts d) (x.stE ts d) H V) fun _ _ => False := by
  induction x using Tm.ind with
  | h k i nm ls kids ih =>
  intro e c H V a d hw hc hI hr hd
  have hI0 := hI
  have hpa := tmPure _ hI
  obtain ⟨t1, t2, las, kas, rfl, g1, g2, g3, g4, g5, g6, g7, g8, g9⟩ := hI.opn
  have hr0 : (Tm.mk k i nm ls kids).right = true := hr _ (subs_self _)
  have lw := lt_of_get hw
  have hkl := g9.len
  have htn := hts.len
  have hk3 : kids.length ≤ 3 := by
    have h1 := (right_facts hr0).1.kids
    simp only [Tm.k, Tm.kids] at h1
    have : kidsN k ≤ 3 := by unfold kidsN; repeat' split
                             all_goals omega
    omega
  have hl1 := lvsPure g8
  have hl2 := tmsPure g9
  have hpl : pureAV (.sl las t1) = true := by rw [pv_sl, g1, hl1]; rfl
  refine sh_of pf92_is (Nat.le_of_ble_eq_true rfl) ?_
  have hpp : ∀ s, purify 20 s (.agg [.int k, .int i, .str nm, .sl las t1, .sl kas t2]) = some (.agg [.int k, .int i, .str nm, .sl las t1, .sl kas t2]) := fun s => purify_pure hpa
  have hw1 := app_get_of hw [.cells false [.int k, .int i, .str nm, .sl las t1, .sl kas t2], .cells false [.int 0, .int 0, .str ⟨#[]⟩, .sl [] .nil, .sl [] .nil]]
  have hw1' := hw1
  rw [wkc] at hw1
  rcases Nat.lt_or_ge 4096 c with hbig | hsm
  · have d16 : decide (((c : Nat) : Int) > 4096) = true := by simp only [decide_eq_true_eq]; omega
    simp only [pf92, ↓wpre, wall, simprocAttr, List.length_append, List.append_assoc, app_get_len, app_get_add, app_set_len, app_set_add, hw1, d16]
    exact ⟨_, hpp _, _, _, c, e, _, tm_frz hl1 hl2, hI0, app_get_of hw _, .app _ _ _ _, Nat.le_refl _, hc, fun h => by omega⟩
  have d16 : decide (((c : Nat) : Int) > 4096) = false := by simp only [decide_eq_false_iff_not]; omega
  by_cases hk : k = 0
  · have q0 : (k == 0) = true := by simp [hk]
    have hi : 0 ≤ i ∧ i ≤ 2147483647 := by
      have := (formed_facts (n := ndOf [] (.mk k i nm ls kids)) (by rw [formed_ndOf]; exact hr0)).2.1
      exact this
    rw [Tm.st, Tm.stE, if_pos hk, if_pos hk]
    have w59 : IntKind.i64.wrap (((c : Nat) : Int) + 1) = ((c + 1 : Nat) : Int) := by rw [wrap_in (by unfold in64; omega)]; omega
    have w31 : IntKind.i64.wrap (i - (d : Nat)) = i - (d : Nat) := wrap_in (by unfold in64; omega)
    have w75 : IntKind.i64.wrap (i - (tas.length : Nat)) = i - (tas.length : Nat) := wrap_in (by unfold in64; omega)
    have hw2 : ∀ (o : AObj), ((H ++ [AObj.cells false [.int k, .int i, .str nm, .sl las t1, .sl kas t2], .cells false [.int 0, .int 0, .str ⟨#[]⟩, .sl [] .nil, .sl [] .nil]]).set w o)[w]? = some o := fun o => get_set hw1
    have hx2 : ∀ (o : AObj), ((H ++ [AObj.cells false [.int k, .int i, .str nm, .sl las t1, .sl kas t2], .cells false [.int 0, .int 0, .str ⟨#[]⟩, .sl [] .nil, .sl [] .nil]]).set w o)[H.length]? = some (.cells false [.int k, .int i, .str nm, .sl las t1, .sl kas t2]) := fun o => by rw [List.getElem?_set, if_neg (by omega)]; simp
    have hz2 : ∀ (o : AObj), ((H ++ [AObj.cells false [.int k, .int i, .str nm, .sl las t1, .sl kas t2], .cells false [.int 0, .int 0, .str ⟨#[]⟩, .sl [] .nil, .sl [] .nil]]).set w o)[H.length + 1]? = some (.cells false [.int 0, .int 0, .str ⟨#[]⟩, .sl [] .nil, .sl [] .nil]) := fun o => by rw [List.getElem?_set, if_neg (by omega)]; simp
    have hS2 : ∀ (o : AObj), SW w H V ((H ++ [AObj.cells false [.int k, .int i, .str nm, .sl las t1, .sl kas t2], .cells false [.int 0, .int 0, .str ⟨#[]⟩, .sl [] .nil, .sl [] .nil]]).set w o) V := fun o => (SW.app w H V _).set (.inr rfl) o
    rcases Int.lt_or_le i d with hA | hA
    · have d25 : decide (i ≥ (d : Nat)) = false := by simp only [decide_eq_false_iff_not]; omega
      rw [if_pos hA, if_pos hA]
      have hkd : kids = [] := by
        have h1 := (right_facts hr0).1.kids
        simp only [Tm.k, Tm.kids] at h1
        rw [hk, show kidsN 0 = 0 from by decide] at h1
        exact List.length_eq_zero_iff.1 (by omega)
      simp only [pf92, ↓wpre, wall, simprocAttr, List.length_append, List.append_assoc, app_get_len, app_get_add, app_set_len, app_set_add, hw1, d16, q0, d25, w59, hw2, hx2, hz2, get_set (hz2 _)]
      exact ⟨_, hpp _, _, _, c + 1, e, _, tm_frz hl1 hl2, hI0, by rw [List.getElem?_set, if_neg (by omega)]; exact hw2 _, (hS2 _).set (.inl (by omega)) _, by omega, by omega, fun _ => ⟨by rw [Bool.or_false], rfl, by rw [hkd]; simp [Tm.sz, tszL]⟩⟩
    · have d25 : decide (i ≥ (d : Nat)) = true := by simp only [decide_eq_true_eq]; omega
      rw [if_neg (by omega), if_neg (by omega)]
      rcases Int.lt_or_le (i - d) tas.length with hB | hB
      · have d34 : decide (i - (d : Nat) < (tas.length : Nat)) = true := by simp only [decide_eq_true_eq]; omega
        have hn : ((i - d).toNat : Int) = i - d := by omega
        obtain ⟨t, ct, b0, b1, b3, b4, b5, b6, b7, b8⟩ := hts.get tmAgg (i := (i - d).toNat) (by omega)
        have hta := hts.all tmAgg
        have htm := b3
        rw [b0]
        simp only []
        have z1 := htz t htm
        obtain ⟨_, rfl, c100⟩ := (rsz_ret t b8 (by omega)).call rfl (by simp [pvs_cons, pvs_nil, tmPure _ b8])
        have wsz : IntKind.i64.wrap (((c : Nat) : Int) + (t.sz : Nat)) = ((c + t.sz : Nat) : Int) := by rw [wrap_in (by unfold in64; omega)]; omega
        have v1 := app_get_of hw [.cells false [.int k, .int i, .str nm, .sl las t1, .sl kas t2], .cells false [.int 0, .int 0, .str ⟨#[]⟩, .sl [] .nil, .sl [] .nil], .cells false ct]
        rw [wkc] at v1
        have v2 : ∀ (o : AObj), ((H ++ [AObj.cells false [.int k, .int i, .str nm, .sl las t1, .sl kas t2], .cells false [.int 0, .int 0, .str ⟨#[]⟩, .sl [] .nil, .sl [] .nil], .cells false ct]).set w o)[w]? = some o := fun o => get_set v1
        have v3 : ∀ (o : AObj), ((H ++ [AObj.cells false [.int k, .int i, .str nm, .sl las t1, .sl kas t2], .cells false [.int 0, .int 0, .str ⟨#[]⟩, .sl [] .nil, .sl [] .nil], .cells false ct]).set w o)[H.length + 2]? = some (.cells false ct) := fun o => by rw [List.getElem?_set, if_neg (by omega)]; simp
        have v4 : ∀ (o : AObj), ((H ++ [AObj.cells false [.int k, .int i, .str nm, .sl las t1, .sl kas t2], .cells false [.int 0, .int 0, .str ⟨#[]⟩, .sl [] .nil, .sl [] .nil], .cells false ct]).set w o)[H.length + 1]? = some (.cells false [.int 0, .int 0, .str ⟨#[]⟩, .sl [] .nil, .sl [] .nil]) := fun o => by rw [List.getElem?_set, if_neg (by omega)]; simp
        have td := htd t htm
        obtain ⟨vt, _, ⟨hvt, H', V', rfl, f1, f2⟩, c76⟩ := (shift_sh (w := w) (y := .int (c + t.sz : Nat)) (b := (d : Nat)) (fr := 0) (by omega) (by omega) (by omega) (by omega) t (e := e) (V := V) (d := 0) (v2 (wkc e (.int (c + t.sz : Nat)))) b8 (htr t htm) (by omega)).callRet rfl
        have lr := f2.le
        simp only [List.length_set, List.length_append, List.length_cons, List.length_nil] at lr
        have v5 : H'[H.length + 1]? = some (.cells false [.int 0, .int 0, .str ⟨#[]⟩, .sl [] .nil, .sl [] .nil]) := by rw [f2.keep (H.length + 1) (by simp) (by omega)]; exact v4 _
        obtain ⟨cv, rfl, l1, l2, l3⟩ := tmCells hvt
        have hpv := tmPure _ hvt
        have hpp2 : ∀ s, purify 20 s (.agg cv) = some (.agg cv) := fun s => purify_pure hpv
        have hfp2 : ∀ s, frz 20 s (.agg cv) = s := fun s => fr_pure hpv
        rw [show (((0 : Nat)) : Int) = 0 from rfl, wkc] at c76
        simp only [pf92, ↓wpre, wall, simprocAttr, List.length_append, List.append_assoc, app_get_len, app_get_add, app_set_len, app_set_add, hw1, d16, q0, d25, w31, d34, hn, b4, b5, b6, b7, hta, v1, v2, v3, c100, wsz, c76, l1, l2, l3, v5, get_set v5, hpp2, hfp2]
        exact ⟨by omega, _, _, c + t.sz, _, _, rfl, hvt, by rw [List.getElem?_set, if_neg (by omega)]; exact f1, (((SW.app w H V _).set (.inr rfl) _).trans f2).set (.inl (by omega)) _, by omega, by omega, fun _ => ⟨rfl, rfl, by rw [sh_sz t (htr t htm)]⟩⟩
      · have d34 : decide (i - (d : Nat) < (tas.length : Nat)) = false := by simp only [decide_eq_false_iff_not]; omega
        have hno : ts[(i - d).toNat]? = none := List.getElem?_eq_none_iff.2 (by omega)
        rw [hno]
        simp only []
        rw [← htn]
        obtain ⟨_, _, ⟨rfl, H', rfl, f1, f2⟩, c90⟩ := (rvar_sh (V := V) (e := e) (y := .int (c + 1 : Nat)) (hw2 (wkc e (.int (c + 1 : Nat)))) (i - tas.length)).callRet rfl
        have hz3 : H'[H.length + 1]? = some (.cells false [.int 0, .int 0, .str ⟨#[]⟩, .sl [] .nil, .sl [] .nil]) := by rw [f2.keep _ (by simp) (by omega)]; exact hz2 _
        rw [wkc] at c90
        simp only [pf92, ↓wpre, wall, simprocAttr, List.length_append, List.append_assoc, app_get_len, app_get_add, app_set_len, app_set_add, hw1, d16, q0, d25, w31, d34, w59, hw2, hx2, w75, c90, hz3, get_set hz3]
        exact ⟨_, _, c + 1, _, _, rfl, vrIs (by omega) (by omega), by rw [List.getElem?_set, if_neg (by omega)]; exact f1, ((hS2 _).trans f2).set (.inl (by omega)) _, by omega, by omega, fun _ => ⟨rfl, rfl, by rw [vr_fv]⟩⟩
  · have q0 : (k == 0) = false := by simp [hk]
    rw [Tm.st, Tm.stE, if_neg hk, if_neg hk]
    have w59 : IntKind.i64.wrap (((c : Nat) : Int) + 1) = ((c + 1 : Nat) : Int) := by rw [wrap_in (by unfold in64; omega)]; omega
    simp only [pf92]
    refine seqE (fun E H' V' => H' = H ++ [.cells false [.int k, .int i, .str nm, .sl las t1, .sl kas t2], .cells false [.int 0, .int 0, .str ⟨#[]⟩, .sl [] .nil, .sl [] .nil]] ∧ V = V' ∧ StE w tas tt d E ∧ E 5 = .ptr H.length 0 ∧ E 8 = .ptr (H.length + 1) 0) ?_ ?_
    · simp only [↓wpre, wall, simprocAttr, List.length_append, List.append_assoc, app_get_len, app_get_add, app_set_len, app_set_add]; exact EQ_in ⟨rfl, rfl, ⟨rfl, rfl, rfl⟩, rfl, rfl⟩
    rintro E _ _ ⟨rfl, rfl, ⟨e0, e2, e3⟩, e5, e8⟩
    have hx0 : (H ++ [AObj.cells false [.int k, .int i, .str nm, .sl las t1, .sl kas t2], .cells false [.int 0, .int 0, .str ⟨#[]⟩, .sl [] .nil, .sl [] .nil]])[H.length]? = some (.cells false [.int k, .int i, .str nm, .sl las t1, .sl kas t2]) := by simp
    have hz0 : (H ++ [AObj.cells false [.int k, .int i, .str nm, .sl las t1, .sl kas t2], .cells false [.int 0, .int 0, .str ⟨#[]⟩, .sl [] .nil, .sl [] .nil]])[H.length + 1]? = some (.cells false [.int 0, .int 0, .str ⟨#[]⟩, .sl [] .nil, .sl [] .nil]) := by simp
    have hS0 : SW w H V (H ++ [AObj.cells false [.int k, .int i, .str nm, .sl las t1, .sl kas t2], .cells false [.int 0, .int 0, .str ⟨#[]⟩, .sl [] .nil, .sl [] .nil]]) V := .app _ _ _ _
    generalize H ++ [AObj.cells false [.int k, .int i, .str nm, .sl las t1, .sl kas t2], .cells false [.int 0, .int 0, .str ⟨#[]⟩, .sl [] .nil, .sl [] .nil]] = H1 at *
    refine seqE (fun E H' V' => H1 = H' ∧ V = V' ∧ StE w tas tt d E ∧ E 5 = .ptr H.length 0 ∧ E 8 = .ptr (H.length + 1) 0) ?_ ?_
    · simp only [↓wpre, wall, simprocAttr, e0, hw1, d16]; exact EQ_in ⟨rfl, rfl, ⟨e0, e2, e3⟩, e5, e8⟩
    clear e0 e2 e3 e5 e8 E
    rintro E _ _ ⟨rfl, rfl, ⟨e0, e2, e3⟩, e5, e8⟩
    refine seqE (fun E H' V' => H1 = H' ∧ V = V' ∧ StE w tas tt d E ∧ E 5 = .ptr H.length 0 ∧ E 8 = .ptr (H.length + 1) 0) ?_ ?_
    · simp only [↓wpre, wall, simprocAttr, e5, hx0, q0]; exact EQ_in ⟨rfl, rfl, ⟨e0, e2, e3⟩, e5, e8⟩
    clear e0 e2 e3 e5 e8 E
    rintro E _ _ ⟨rfl, rfl, ⟨e0, e2, e3⟩, e5, e8⟩
    refine seqE (fun E H' V' => H' = H1.set w (wkc e (.int (c + 1 : Nat))) ∧ V = V' ∧ StE w tas tt d E ∧ E 5 = .ptr H.length 0 ∧ E 8 = .ptr (H.length + 1) 0) ?_ ?_
    · simp only [↓wpre, wall, simprocAttr, e0, hw1, w59]; exact EQ_in ⟨rfl, rfl, ⟨e0, e2, e3⟩, e5, e8⟩
    clear e0 e2 e3 e5 e8 E
    rintro E _ _ ⟨rfl, rfl, ⟨e0, e2, e3⟩, e5, e8⟩
    have hw2 : (H1.set w (wkc e (.int (c + 1 : Nat))))[w]? = some (wkc e (.int (c + 1 : Nat))) := get_set hw1
    have hx2 : (H1.set w (wkc e (.int (c + 1 : Nat))))[H.length]? = some (.cells false [.int k, .int i, .str nm, .sl las t1, .sl kas t2]) := by rw [List.getElem?_set, if_neg (by omega)]; exact hx0
    have hz2 : (H1.set w (wkc e (.int (c + 1 : Nat))))[H.length + 1]? = some (.cells false [.int 0, .int 0, .str ⟨#[]⟩, .sl [] .nil, .sl [] .nil]) := by rw [List.getElem?_set, if_neg (by omega)]; exact hz0
    have hS2 : SW w H V (H1.set w (wkc e (.int (c + 1 : Nat)))) V := hS0.set (.inr rfl) _
    generalize H1.set w (wkc e (.int (c + 1 : Nat))) = H2 at *
    refine seqE (fun E H' V' => H2 = H' ∧ V = V' ∧ StE w tas tt d E ∧ E 5 = .ptr H.length 0 ∧ E 8 = .ptr (H.length + 1) 0) ?_ ?_
    · simp only [↓wpre, wall, simprocAttr, e5, hx2, q0]; exact EQ_in ⟨rfl, rfl, ⟨e0, e2, e3⟩, e5, e8⟩
    clear e0 e2 e3 e5 e8 E
    rintro E _ _ ⟨rfl, rfl, ⟨e0, e2, e3⟩, e5, e8⟩
    refine seqE (fun E H' V' => H2 = H' ∧ V = V' ∧ StE w tas tt d E ∧ E 5 = .ptr H.length 0 ∧ E 8 = .ptr (H.length + 1) 0 ∧ E 10 = .sl [] .nil) ?_ ?_
    · simp only [↓wpre, wall, simprocAttr]; exact EQ_in ⟨rfl, rfl, ⟨e0, e2, e3⟩, e5, e8, rfl⟩
    clear e0 e2 e3 e5 e8 E
    rintro E _ _ ⟨rfl, rfl, ⟨e0, e2, e3⟩, e5, e8, e10⟩
    refine seqE (fun E H' V' => ∃ (ks : List AV) (tk : Tl) (rs : List Tm) (c' : Nat) (e' : Bool), H'[w]? = some (wkc e' (.int (c' : Nat))) ∧ SW w H V H' V' ∧ H'[H.length]? = some (.cells false [.int k, .int i, .str nm, .sl las t1, .sl kas t2]) ∧ H'[H.length + 1]? = some (.cells false [.int 0, .int 0, .str ⟨#[]⟩, .sl [] .nil, .sl [] .nil]) ∧ E 5 = .ptr H.length 0 ∧ E 8 = .ptr (H.length + 1) 0 ∧ E 10 = .sl ks tk ∧ LIs Tm.Is rs ks ∧ ks.length ≤ lenB ∧ c ≤ c' ∧ c' ≤ 4600 ∧ (c' ≤ 4096 → e' = (e || stEL ts d k 0 kids) ∧ rs = stL ts d k 0 kids ∧ c' = c + 1 + tszL (stL ts d k 0 kids))) ?_ ?_
    · refine seqE (fun E H' V' => H2 = H' ∧ V = V' ∧ StE w tas tt d E ∧ E 5 = .ptr H.length 0 ∧ E 8 = .ptr (H.length + 1) 0 ∧ E 10 = .sl [] .nil ∧ E 11 = .int (0 : Nat)) ?_ ?_
      · simp only [↓wpre, wall, simprocAttr]; exact EQ_in ⟨rfl, rfl, ⟨e0, e2, e3⟩, e5, e8, e10, rfl⟩
      clear e0 e2 e3 e5 e8 e10 E
      rintro E _ _ ⟨rfl, rfl, ⟨e0, e2, e3⟩, e5, e8, e10, e11⟩
      rw [W_block]
      refine W_loopE (fun j => kas.length - j) (fun j E H' V' => ∃ (ks : List AV) (tk : Tl) (rs : List Tm) (c' : Nat) (e' : Bool), H'[w]? = some (wkc e' (.int (c' : Nat))) ∧ SW w H V H' V' ∧ H'[H.length]? = some (.cells false [.int k, .int i, .str nm, .sl las t1, .sl kas t2]) ∧ H'[H.length + 1]? = some (.cells false [.int 0, .int 0, .str ⟨#[]⟩, .sl [] .nil, .sl [] .nil]) ∧ StE w tas tt d E ∧ E 5 = .ptr H.length 0 ∧ E 8 = .ptr (H.length + 1) 0 ∧ E 10 = .sl ks tk ∧ E 11 = .int (j : Nat) ∧ j ≤ kas.length ∧ LIs Tm.Is rs ks ∧ ks.length = j ∧ App V' ks tk ∧ (∀ (i v : Nat), tk = .tl i v → V.length ≤ i) ∧ c ≤ c' ∧ c' ≤ 4600 ∧ (c' ≤ 4096 → e' = (e || stEL ts d k 0 (kids.take j)) ∧ rs = stL ts d k 0 (kids.take j) ∧ c' = c + 1 + tszL (stL ts d k 0 (kids.take j)))) ?_ 0 ⟨[], .nil, [], c + 1, e, hw2, hS2, hx2, hz2, ⟨e0, e2, e3⟩, e5, e8, e10, e11, Nat.zero_le _, trivial, rfl, app_start _, fun i v h => (by cases h), by omega, by omega, fun _ => ⟨by rw [List.take_zero, stEL, Bool.or_false], by rw [List.take_zero, stL], by rw [List.take_zero, stL, tszL]⟩⟩
      clear e0 e2 e3 e5 e8 e10 e11 E
      rintro j E H3 V3 ⟨ks, tk, rs, c3, e3', hw3, hS3, hx3, hz3, ⟨e0, e2, e3⟩, e5, e8, e10, e11, hj, hks, hkn, hA, ho, hc3, hc4, hcc⟩
      rcases Nat.lt_or_ge j kas.length with hlt | hge
      · have hdec : decide ((j : Int) < kas.length) = true := by simpa using hlt
        obtain ⟨x, cx, d0, d1, d3, d4, d5, d6, d7, d8⟩ := g9.get tmAgg hlt
        have hall := g9.all tmAgg
        obtain ⟨_, rfl, c91⟩ := (below_ret k j).call rfl (by simp [pvs_cons, pvs_nil, pv_v])
        have hb01 := binder_01 k j
        have hdp : d + (binderG k j).toNat + x.dp ≤ 100000 := by
          have h1 := (tdp_split d0).2
          rw [Tm.dp] at hd
          omega
        have w98 : IntKind.i64.wrap ((d : Nat) + binderG k j) = ((d + (binderG k j).toNat : Nat) : Int) := by rw [wrap_in (by unfold in64; omega)]; omega
        obtain ⟨v, _, ⟨H4, V4, c5, e5', r, rfl, hv, hw4, hS4, hc5, hc6, hcd⟩, c92⟩ := (ih x d3 (V := V3) hw3 hc4 d8 (fun z hz => hr z (by rw [Tm.subs]; exact List.mem_cons_of_mem _ (mem_subsL.2 ⟨x, d3, hz⟩))) hdp).callRet rfl
        obtain ⟨cv, rfl, l1, l2, l3⟩ := tmCells hv
        have lx3 := lt_of_get hz3
        have hx4 : H4[H.length]? = some (.cells false [.int k, .int i, .str nm, .sl las t1, .sl kas t2]) := by rw [hS4.keep H.length (by omega) (by omega)]; exact hx3
        have hz4 : H4[H.length + 1]? = some (.cells false [.int 0, .int 0, .str ⟨#[]⟩, .sl [] .nil, .sl [] .nil]) := by rw [hS4.keep (H.length + 1) (by omega) (by omega)]; exact hz3
        have hA4 : App V4 ks tk := by
          rcases hA with h | ⟨h, i, v, h2, h3⟩
          · exact .inl h
          · exact .inr ⟨h, i, v, h2, hS4.vk i v h3⟩
        obtain ⟨tk', V5, f1, f2, f3⟩ := app_many (es := 5) (xs := [.agg cv]) hA4 (by show ks.length + 1 ≤ 1073741824; omega) (hks.all tmAgg) (by simp only [List.all_cons, List.all_nil, Bool.and_true, cells_agg, l1, l3]; rfl)
        have hq : eqAV (.sl ks tk) (.sl ks tk) = true := eqT _ _ (eqL (fun x a h => eqTm x h) hks)
        obtain ⟨s1, s2⟩ := stL_take (ts := ts) (d := d) (k := k) d0
        simp only [↓wpre, wall, simprocAttr, e0, e2, e3, e5, e10, e11, hdec, hx3, d4, d5, d6, d7, hall, c91, w98, c92, l1, l2, l3, f1, hq, kz_call, JW_f, JW_t]
        have hS4' := hS3.trans hS4
        refine EQ_in ⟨j + 1, by omega, _, tk', rs ++ [r], c5, e5', hw4, ⟨hS4'.le, hS4'.keep, Nat.le_trans hS4'.vl f3.1, fun i v h1 => f3.2.1 i v (hS4'.vk i v h1) fun ver h2 => ?_⟩, hx4, hz4, ⟨e0, e2, e3⟩, e5, e8, rfl, next_ixv (by omega), by omega, hks.append (.one hv), by simp [hkn], f2, fun i v h1 => ?_, by omega, hc6, fun h => ?_⟩
        · have := (List.getElem?_eq_some_iff.1 h1).1
          have := ho i ver h2
          omega
        · rcases f3.2.2 i v h1 with ⟨v0, h⟩ | h
          · exact ho i v0 h
          · exact Nat.le_trans hS4'.vl h
        · obtain ⟨n1, n2, n3⟩ := hcd h
          obtain ⟨m1, m2, m3⟩ := hcc (by omega)
          rw [s1, s2, n1, n2, m1, m2]
          refine ⟨by rw [Bool.or_assoc], rfl, ?_⟩
          rw [tszL_snoc, n3, m3]; omega
      · have hdec : decide ((j : Int) < kas.length) = false := by simpa using hge
        rw [List.take_of_length_le (by omega)] at hcc
        simp only [↓wpre, wall, simprocAttr, e5, e11, hx3, hdec]
        exact EQ_in ⟨ks, tk, rs, c3, e3', hw3, hS3, hx3, hz3, e5, e8, e10, hks, by omega, hc3, hc4, hcc⟩
    clear e0 e2 e3 e5 e8 e10 E
    rintro E H3 V3 ⟨ks, tk, rs, c3, e3', hw3, hS3, hx3, hz3, e5, e8, e10, hks, hkn, hc3, hc4, hcc⟩
    have lx3 := lt_of_get hz3
    have hpk := tmsPure hks
    have hpz := fun (s : ASt) => tm_pz (m := 17) (s := s) (k := k) (i := i) (n := nm) (t2 := tk) hpl hpk
    have hz4 : ∀ Y, (H3.set H.length Y)[H.length + 1]? = some (.cells false [.int 0, .int 0, .str ⟨#[]⟩, .sl [] .nil, .sl [] .nil]) := fun Y => by rw [List.getElem?_set, if_neg (by omega)]; exact hz3
    simp only [↓wpre, wall, simprocAttr, e5, e8, e10, hx3, get_set hx3, hz4, get_set (hz4 _)]
    exact ⟨_, hpz _, _, _, c3, e3', .mk k i nm ls rs, tm_frz hl1 hpk, Tm.Is.mk g1 (stripR_pure _ _ _) g3 g4 g5 g6 hkn g8 hks, by rw [List.getElem?_set, if_neg (by omega), List.getElem?_set, if_neg (by omega)]; exact hw3, (hS3.set (.inl (by omega)) _).set (.inl (by omega)) _, hc3, hc4, fun h => by
      obtain ⟨m1, m2, m3⟩ := hcc h
      exact ⟨m1, by rw [m2], by rw [Tm.sz]; omega⟩⟩
end Go.Proofs.Eng
