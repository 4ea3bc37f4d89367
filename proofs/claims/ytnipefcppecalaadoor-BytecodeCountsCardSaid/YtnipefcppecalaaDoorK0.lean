/- What the rows' list of laid variables gives. No conditions beyond those in the theorems. -/
import Derived.Test.YtnipefcppecalaaDoorT9
import Derived.Test.YtnipefcppecalaaDoorG5
import Derived.Test.YtnipefcppecalaaDoorG4
import Derived.Test.YtnipefcppecalaaDoorRows
import Derived.Lib.LaidTab
import Derived.Lay
import Derived.MakeChecks
import Derived.ProofKit
set_option linter.all false
set_option linter.deprecated false
set_option linter.unnecessarySimpa false
set_option linter.unusedVariables false
set_option linter.unusedSimpArgs false
set_option linter.defProp false
namespace Go.Proofs.Eng
open Go Go.Proofs
set_option maxRecDepth 100000
mutual
theorem small_bd : ∀ (e : Ex) {nd dp m : Int}, 0 ≤ nd → nd ≤ 60 → 0 ≤ dp → dp ≤ 60 → e.small nd dp = some m → 0 ≤ m ∧ m ≤ nd ∧ (e.nb : Int) ≤ 41 * (nd - m) ∧ (e.ni : Int) ≤ 82 * (nd - m) ∧ (e.dep : Int) ≤ dp
 | .mk k i n s kids, nd, dp, m, h1, h2, h3, h4, h => by
  rw [Ex.small] at h
  split at h
  ·cases h
  rename_i c1
  split at h
  ·cases h
  rename_i c2
  split at h
  ·cases h
  split at h
  ·cases h
  rename_i c4
  simp only [decide_eq_true_eq] at c1 c2 c4
  rw [w64_in (by unfold B62; omega) (by unfold B62; omega), w64_in (by unfold B62; omega) (by unfold B62; omega)] at h
  obtain ⟨g1, g2, g3, g4, g5⟩ := smallL_bd kids (nd := nd - 1) (dp := dp - 1) (by omega) (by omega) (by omega) (by omega) h
  rw [Ex.nb, Ex.ni, Ex.dep]
  refine ⟨g1, by omega, ?_, ?_, by omega⟩
  ·split
   ·omega
   ·split <;> omega
  ·split
   ·omega
   ·split
    ·omega
    ·split <;> omega
theorem smallL_bd : ∀ (l : List Ex) {nd dp m : Int}, 0 ≤ nd → nd ≤ 60 → 0 ≤ dp → dp ≤ 60 → smallL dp nd l = some m → 0 ≤ m ∧ m ≤ nd ∧ (nbL l : Int) ≤ 41 * (nd - m) ∧ (niL l : Int) ≤ 82 * (nd - m) ∧ (depL l : Int) ≤ dp
 | [], nd, dp, m, h1, h2, h3, h4, h => by
  rw [smallL] at h
  simp only [Option.some.injEq] at h; subst h
  rw [nbL, niL, depL]
  refine ⟨h1, Int.le_refl _, by omega, by omega, by omega⟩
 | e :: l, nd, dp, m, h1, h2, h3, h4, h => by
  rw [smallL] at h
  cases he : Ex.small nd dp e with
  | none => rw [he] at h; cases h
  | some m1 =>
   rw [he] at h
   obtain ⟨a1, a2, a3, a4, a5⟩ := small_bd e h1 h2 h3 h4 he
   obtain ⟨b1, b2, b3, b4, b5⟩ := smallL_bd l a1 (by omega) h3 h4 h
   rw [nbL, niL, depL]
   refine ⟨b1, by omega, by omega, by omega, by omega⟩
end
theorem decF {p : Prop} {d : Decidable p} (h : ¬ p) : @decide p d = false := decide_eq_false h
theorem whole_err {gl : ByteArray → Bool} {e : Ex} (h : e.whole gl = 0) : e.err gl 0 = 0 := by
 unfold Ex.whole at h
 split at h
 ·exact h
 ·rename_i h1; simpa [bne] using h1
theorem go_ok (p : Pr) : ∀ (gs prev : List Gl), p.go prev gs = 0 → (∀ g ∈ gs, isName g.1 = true ∧ g.2.err p.gl 0 = 0) ∧ twice (prev.map (·.1)) (gs.map (·.1)) = false ∧ p.main.err p.gl 0 = 0
 | [], prev, h => by rw [Pr.go] at h; exact ⟨fun g hg => (by cases hg), rfl, whole_err h⟩
 | g :: gs, prev, h => by
  rw [Pr.go] at h
  split at h
  ·omega
  rename_i h1
  split at h
  ·omega
  rename_i h2
  split at h
  ·rename_i h3
   rw [h] at h3; simp at h3
  rename_i h3
  obtain ⟨a1, a2, a3⟩ := go_ok p gs (prev ++ [g]) h
  refine ⟨fun g' hg' => ?_, ?_, a3⟩
  ·rcases List.mem_cons.1 hg' with rfl | hg'
   ·exact ⟨by simpa using h1, whole_err (by simpa [bne] using h3)⟩
   ·exact a1 g' hg'
  ·rw [List.map_cons, twice]
   have hm : ¬ (g.1 ∈ prev.map (·.1)) := fun hm => by
    obtain ⟨x, hx, e⟩ := List.mem_map.1 hm
    exact h2 (List.any_eq_true.2 ⟨x, hx, decide_eq_true e⟩)
   rw [Bool.or_eq_false_iff]
   rw [List.map_append] at a2
   exact ⟨decF hm, a2⟩
theorem few_facts {p : Pr} (h : p.few = true) : (∀ e ∈ p.es, ∃ m, e.small 60 60 = some m) ∧ p.gs.length ≤ 6 := by
 unfold Pr.few at h
 simp only [Bool.and_eq_true, decide_eq_true_eq, List.all_eq_true] at h
 obtain ⟨⟨h1, h2⟩, h3⟩ := h
 refine ⟨fun e he => ?_, by omega⟩
 rcases List.mem_cons.1 he with rfl | he
 ·exact Option.isSome_iff_exists.1 h1
 ·obtain ⟨g, hg, rfl⟩ := List.mem_map.1 he
  have := h2 g hg
  unfold Gl.few at this
  simp only [Bool.and_eq_true] at this
  exact Option.isSome_iff_exists.1 this.1
theorem few_dep {p : Pr} (h : p.few = true) {e : Ex} (he : e ∈ p.es) : e.dep ≤ 60 ∧ e.nb ≤ 2460 ∧ e.ni ≤ 4920 := by
 obtain ⟨m, hm⟩ := (few_facts h).1 e he
 obtain ⟨a1, a2, a3, a4, a5⟩ := small_bd e (by omega) (by omega) (by omega) (by omega) hm
 omega
theorem nbL_le : ∀ {l : List Ex} {a b : Nat}, (∀ e ∈ l, e.nb ≤ a ∧ e.ni ≤ b) → nbL l ≤ a * l.length ∧ niL l ≤ b * l.length
 | [], a, b, _ => by simp [nbL, niL]
 | x :: l, a, b, h => by
  have h1 := h x (by simp)
  have h2 := nbL_le (l := l) (a := a) (b := b) fun e he => h e (by simp [he])
  rw [nbL, niL, List.length_cons, Nat.mul_add, Nat.mul_add]; omega
theorem few_sum {p : Pr} (h : p.few = true) : nbL p.es ≤ 17220 ∧ niL p.es ≤ 34440 := by
 have h1 := nbL_le (l := p.es) (a := 2460) (b := 4920) fun e he => (few_dep h he).2
 have h2 := (few_facts h).2
 rw [es_len] at h1
 have : 2460 * (p.gs.length + 1) ≤ 2460 * 7 := Nat.mul_le_mul_left _ (by omega)
 have : 4920 * (p.gs.length + 1) ≤ 4920 * 7 := Nat.mul_le_mul_left _ (by omega)
 omega
theorem few_ok {p : Pr} (h : p.few = true) (hc : p.check = 0) : PrOK p 3840 := by
 unfold Pr.check at hc
 split at hc
 ·omega
 obtain ⟨a1, a2, a3⟩ := go_ok p p.gs [] hc
 have hd : ∀ e ∈ p.es, (0 : Int) + 64 * e.dep ≤ 3840 := fun e he => by have := (few_dep h he).1; omega
 refine ⟨⟨a3, Int.le_refl _, hd p.main (by simp [Pr.es])⟩, fun g hg => ⟨(a1 g hg).1, (a1 g hg).2, Int.le_refl _, hd g.2 ?_⟩, a2, by unfold B62; omega⟩
 exact List.mem_cons_of_mem _ (List.mem_map_of_mem hg)
theorem few_comp {p : Pr} (h : p.few = true) (hc : p.check = 0) : PrOK p 3840 ∧ (compC p).bl.length = p.gs.length + 1 + nbL p.es ∧ ((compC p).bl.map List.length).sum = p.gs.length + 1 + niL p.es ∧ (compC p).bl.length ≤ 20000 ∧ ((compC p).bl.map List.length).sum ≤ 40000 := by
 have hP := few_ok h hc
 have h1 := comp_cnt hP
 have h2 := few_sum h
 have h3 := (few_facts h).2
 exact ⟨hP, h1.1, h1.2, by omega, by omega⟩
theorem Compile_few {p : Pr} {pa : AV} (hp : p.Is pa) (h : p.few = true) : Out md pfs2 15 [pa] (fun v => (p.check ≠ 0 ∧ v = .tup [.agg [.sl [] .nil, .sl [] .nil, .sl [] .nil], .int p.check]) ∨ (p.check = 0 ∧ ∃ a, v = .tup [a, .int 0] ∧ (compC p).Is a)) fun _ => False :=
 (Compile_ret hp (B := 3840) fun hc => by
  obtain ⟨a, _, _, b, c⟩ := few_comp h hc
  have : capB = 1073741824 := rfl
  exact ⟨a, by omega, by omega⟩).ext pfs_le
set_option maxHeartbeats 16000000
theorem blocks_ret (e : Ex) : ∀ {a}, e.Is a → e.nb ≤ 1000000 → e.ni ≤ 1000000 → Out md pfs 16 [a] (· = .tup [.int (e.nb : Nat), .int (e.ni : Nat)]) fun _ => False := by
 induction e using Ex.ind with
 | h k i n s kids ih =>
 intro a h hb hi
 obtain ⟨t1, t2, kas, rfl, g1, g2, g3, g4, g5, g6⟩ := h.opn
 have hkl := g6.len
 rw [Ex.nb] at hb ⊢
 rw [Ex.ni] at hi ⊢
 have hall := g6.all exAgg
 obtain ⟨b0, hb0⟩ : ∃ b0 : Nat, b0 = if k = 1 then 1 else if k = 4 then s.length else 0 := ⟨_, rfl⟩
 obtain ⟨i0, hi0⟩ : ∃ i0 : Nat, i0 = if k = 1 then 2 else if k = 4 then 1 + 2 * s.length else if k = 7 then 2 else 1 := ⟨_, rfl⟩
 rw [← hb0] at hb ⊢
 rw [← hi0] at hi ⊢
 refine out_of pf16_is (Nat.le_of_ble_eq_true rfl) ?_
 have pre : ∀ j, nbL (kids.take j) ≤ nbL kids ∧ niL (kids.take j) ≤ niL kids := fun j => by
  have h1 := nbL_app (kids.take j) (kids.drop j)
  have h2 := niL_app (kids.take j) (kids.drop j)
  rw [List.take_append_drop] at h1 h2; omega
 have w2 : k = 4 → IntKind.i64.wrap (2 * ((s.length : Nat) : Int)) = ((2 * s.length : Nat) : Int) ∧ IntKind.i64.wrap (1 + ((2 * s.length : Nat) : Int)) = ((1 + 2 * s.length : Nat) : Int) := fun h => by
  rw [if_neg (by omega), if_pos h] at hi0
  rw [wrap_in (by unfold in64; omega), wrap_in (by unfold in64; omega)]; omega
 have hcase : ((k == 1) = true ∧ b0 = 1 ∧ i0 = 2) ∨ ((k == 1) = false ∧ (k == 4) = true ∧ b0 = s.length ∧ i0 = 1 + 2 * s.length) ∨ ((k == 1) = false ∧ (k == 4) = false ∧ (k == 7) = true ∧ b0 = 0 ∧ i0 = 2) ∨ ((k == 1) = false ∧ (k == 4) = false ∧ (k == 7) = false ∧ b0 = 0 ∧ i0 = 1) := by
  simp only [beq_iff_eq, beq_eq_false_iff_ne]
  by_cases h1 : k = 1
  ·rw [if_pos h1] at hb0 hi0; exact .inl ⟨h1, hb0, hi0⟩
  rw [if_neg h1] at hb0 hi0
  by_cases h4 : k = 4
  ·rw [if_pos h4] at hb0 hi0; exact .inr (.inl ⟨h1, h4, hb0, hi0⟩)
  rw [if_neg h4] at hb0 hi0
  by_cases h7 : k = 7
  ·rw [if_pos h7] at hi0; exact .inr (.inr (.inl ⟨h1, h4, h7, hb0, hi0⟩))
  ·rw [if_neg h7] at hi0; exact .inr (.inr (.inr ⟨h1, h4, h7, hb0, hi0⟩))
 clear hb0 hi0
 let I : Nat → Env → List AObj → List Nat → Prop := fun j E H T => E 1 = .ptr 0 0 ∧ E 4 = .int ((b0 + nbL (kids.take j) : Nat) : Int) ∧ E 5 = .int ((i0 + niL (kids.take j) : Nat) : Int) ∧ E 6 = .int j ∧ j ≤ kas.length ∧ ∃ G, H = .cells false [.int k, .int i, .str n, .sl (ints s) t1, .sl kas t2] :: G
 rcases hcase with ⟨c1, hb1, hi1⟩ | ⟨c1, c4, hb1, hi1⟩ | ⟨c1, c4, c7, hb1, hi1⟩ | ⟨c1, c4, c7, hb1, hi1⟩
 ·simp only [pf16, ↓wpre, wall, simprocAttr, List.length_append, List.append_assoc, app_get_len, app_get_add, app_set_len, app_set_add, c1]
  refine W_loopE (fun j => kas.length - j) I ?_ 0 ⟨rfl, by rw [hb1]; rfl, by rw [hi1]; rfl, rfl, Nat.zero_le _, _, rfl⟩
  rintro j E H T ⟨e1, e4, e5, e6, hj, G, rfl⟩
  rcases Nat.lt_or_ge j kas.length with hlt | hge
  ·obtain ⟨y, c2, d0, d1, d3, d4, d5, d6, d7, d8⟩ := g6.get exAgg hlt
   have hdec : decide ((j : Int) < kas.length) = true := by simpa using hlt
   have htk : kids.take (j + 1) = kids.take j ++ [y] := by rw [List.take_add_one, d0]; rfl
   have hn1 := nbL_app (kids.take j) [y]
   have hn2 := niL_app (kids.take j) [y]
   rw [← htk, nbL, nbL, Nat.add_zero] at hn1
   rw [← htk, niL, niL, Nat.add_zero] at hn2
   have hp := pre (j + 1)
   obtain ⟨_, rfl, cy⟩ := (ih y d3 d8 (by omega) (by omega)).call rfl (by simp [pvs_cons, pvs_nil, exPure _ d8])
   have w3 : IntKind.i64.wrap (((b0 + nbL (kids.take j) : Nat) : Int) + ((y.nb : Nat) : Int)) = ((b0 + nbL (kids.take (j + 1)) : Nat) : Int) := by rw [wrap_in (by unfold in64; omega)]; omega
   have w4 : IntKind.i64.wrap (((i0 + niL (kids.take j) : Nat) : Int) + ((y.ni : Nat) : Int)) = ((i0 + niL (kids.take (j + 1)) : Nat) : Int) := by rw [wrap_in (by unfold in64; omega)]; omega
   simp only [↓wpre, wall, simprocAttr, List.length_append, List.append_assoc, app_get_len, app_get_add, app_set_len, app_set_add, e1, e4, e5, e6, hdec, hall, d4, d5, d6, d7, cy, w3, w4]
   exact EQ_in ⟨j + 1, by omega, e1, rfl, rfl, next_ixv (by omega), by omega, _, rfl⟩
  ·have hdec : decide ((j : Int) < kas.length) = false := by simpa using hge
   rw [List.take_of_length_le (by omega)] at e4 e5
   simp only [↓wpre, wall, simprocAttr, List.length_append, List.append_assoc, app_get_len, app_get_add, app_set_len, app_set_add, e1, e4, e5, e6, hdec]
 ·obtain ⟨w21, w22⟩ := w2 (eq_of_beq c4)
  simp only [pf16, ↓wpre, wall, simprocAttr, List.length_append, List.append_assoc, app_get_len, app_get_add, app_set_len, app_set_add, c1, c4, ints_len, w21, w22]
  refine W_loopE (fun j => kas.length - j) I ?_ 0 ⟨rfl, by rw [hb1]; rfl, by rw [hi1]; rfl, rfl, Nat.zero_le _, _, rfl⟩
  rintro j E H T ⟨e1, e4, e5, e6, hj, G, rfl⟩
  rcases Nat.lt_or_ge j kas.length with hlt | hge
  ·obtain ⟨y, c2, d0, d1, d3, d4, d5, d6, d7, d8⟩ := g6.get exAgg hlt
   have hdec : decide ((j : Int) < kas.length) = true := by simpa using hlt
   have htk : kids.take (j + 1) = kids.take j ++ [y] := by rw [List.take_add_one, d0]; rfl
   have hn1 := nbL_app (kids.take j) [y]
   have hn2 := niL_app (kids.take j) [y]
   rw [← htk, nbL, nbL, Nat.add_zero] at hn1
   rw [← htk, niL, niL, Nat.add_zero] at hn2
   have hp := pre (j + 1)
   obtain ⟨_, rfl, cy⟩ := (ih y d3 d8 (by omega) (by omega)).call rfl (by simp [pvs_cons, pvs_nil, exPure _ d8])
   have w3 : IntKind.i64.wrap (((b0 + nbL (kids.take j) : Nat) : Int) + ((y.nb : Nat) : Int)) = ((b0 + nbL (kids.take (j + 1)) : Nat) : Int) := by rw [wrap_in (by unfold in64; omega)]; omega
   have w4 : IntKind.i64.wrap (((i0 + niL (kids.take j) : Nat) : Int) + ((y.ni : Nat) : Int)) = ((i0 + niL (kids.take (j + 1)) : Nat) : Int) := by rw [wrap_in (by unfold in64; omega)]; omega
   simp only [↓wpre, wall, simprocAttr, List.length_append, List.append_assoc, app_get_len, app_get_add, app_set_len, app_set_add, e1, e4, e5, e6, hdec, hall, d4, d5, d6, d7, cy, w3, w4]
   exact EQ_in ⟨j + 1, by omega, e1, rfl, rfl, next_ixv (by omega), by omega, _, rfl⟩
  ·have hdec : decide ((j : Int) < kas.length) = false := by simpa using hge
   rw [List.take_of_length_le (by omega)] at e4 e5
   simp only [↓wpre, wall, simprocAttr, List.length_append, List.append_assoc, app_get_len, app_get_add, app_set_len, app_set_add, e1, e4, e5, e6, hdec]
 ·simp only [pf16, ↓wpre, wall, simprocAttr, List.length_append, List.append_assoc, app_get_len, app_get_add, app_set_len, app_set_add, c1, c4, c7]
  refine W_loopE (fun j => kas.length - j) I ?_ 0 ⟨rfl, by rw [hb1]; rfl, by rw [hi1]; rfl, rfl, Nat.zero_le _, _, rfl⟩
  rintro j E H T ⟨e1, e4, e5, e6, hj, G, rfl⟩
  rcases Nat.lt_or_ge j kas.length with hlt | hge
  ·obtain ⟨y, c2, d0, d1, d3, d4, d5, d6, d7, d8⟩ := g6.get exAgg hlt
   have hdec : decide ((j : Int) < kas.length) = true := by simpa using hlt
   have htk : kids.take (j + 1) = kids.take j ++ [y] := by rw [List.take_add_one, d0]; rfl
   have hn1 := nbL_app (kids.take j) [y]
   have hn2 := niL_app (kids.take j) [y]
   rw [← htk, nbL, nbL, Nat.add_zero] at hn1
   rw [← htk, niL, niL, Nat.add_zero] at hn2
   have hp := pre (j + 1)
   obtain ⟨_, rfl, cy⟩ := (ih y d3 d8 (by omega) (by omega)).call rfl (by simp [pvs_cons, pvs_nil, exPure _ d8])
   have w3 : IntKind.i64.wrap (((b0 + nbL (kids.take j) : Nat) : Int) + ((y.nb : Nat) : Int)) = ((b0 + nbL (kids.take (j + 1)) : Nat) : Int) := by rw [wrap_in (by unfold in64; omega)]; omega
   have w4 : IntKind.i64.wrap (((i0 + niL (kids.take j) : Nat) : Int) + ((y.ni : Nat) : Int)) = ((i0 + niL (kids.take (j + 1)) : Nat) : Int) := by rw [wrap_in (by unfold in64; omega)]; omega
   simp only [↓wpre, wall, simprocAttr, List.length_append, List.append_assoc, app_get_len, app_get_add, app_set_len, app_set_add, e1, e4, e5, e6, hdec, hall, d4, d5, d6, d7, cy, w3, w4]
   exact EQ_in ⟨j + 1, by omega, e1, rfl, rfl, next_ixv (by omega), by omega, _, rfl⟩
  ·have hdec : decide ((j : Int) < kas.length) = false := by simpa using hge
   rw [List.take_of_length_le (by omega)] at e4 e5
   simp only [↓wpre, wall, simprocAttr, List.length_append, List.append_assoc, app_get_len, app_get_add, app_set_len, app_set_add, e1, e4, e5, e6, hdec]
 ·simp only [pf16, ↓wpre, wall, simprocAttr, List.length_append, List.append_assoc, app_get_len, app_get_add, app_set_len, app_set_add, c1, c4, c7]
  refine W_loopE (fun j => kas.length - j) I ?_ 0 ⟨rfl, by rw [hb1]; rfl, by rw [hi1]; rfl, rfl, Nat.zero_le _, _, rfl⟩
  rintro j E H T ⟨e1, e4, e5, e6, hj, G, rfl⟩
  rcases Nat.lt_or_ge j kas.length with hlt | hge
  ·obtain ⟨y, c2, d0, d1, d3, d4, d5, d6, d7, d8⟩ := g6.get exAgg hlt
   have hdec : decide ((j : Int) < kas.length) = true := by simpa using hlt
   have htk : kids.take (j + 1) = kids.take j ++ [y] := by rw [List.take_add_one, d0]; rfl
   have hn1 := nbL_app (kids.take j) [y]
   have hn2 := niL_app (kids.take j) [y]
   rw [← htk, nbL, nbL, Nat.add_zero] at hn1
   rw [← htk, niL, niL, Nat.add_zero] at hn2
   have hp := pre (j + 1)
   obtain ⟨_, rfl, cy⟩ := (ih y d3 d8 (by omega) (by omega)).call rfl (by simp [pvs_cons, pvs_nil, exPure _ d8])
   have w3 : IntKind.i64.wrap (((b0 + nbL (kids.take j) : Nat) : Int) + ((y.nb : Nat) : Int)) = ((b0 + nbL (kids.take (j + 1)) : Nat) : Int) := by rw [wrap_in (by unfold in64; omega)]; omega
   have w4 : IntKind.i64.wrap (((i0 + niL (kids.take j) : Nat) : Int) + ((y.ni : Nat) : Int)) = ((i0 + niL (kids.take (j + 1)) : Nat) : Int) := by rw [wrap_in (by unfold in64; omega)]; omega
   simp only [↓wpre, wall, simprocAttr, List.length_append, List.append_assoc, app_get_len, app_get_add, app_set_len, app_set_add, e1, e4, e5, e6, hdec, hall, d4, d5, d6, d7, cy, w3, w4]
   exact EQ_in ⟨j + 1, by omega, e1, rfl, rfl, next_ixv (by omega), by omega, _, rfl⟩
  ·have hdec : decide ((j : Int) < kas.length) = false := by simpa using hge
   rw [List.take_of_length_le (by omega)] at e4 e5
   simp only [↓wpre, wall, simprocAttr, List.length_append, List.append_assoc, app_get_len, app_get_add, app_set_len, app_set_add, e1, e4, e5, e6, hdec]
theorem pf2 {f : Nat} {pf : PF} (h : pfs f = some pf) : pfs2 f = some pf := pfs_le f pf h
theorem blAll {l : List (List Ins)} {Bs : List AV} (h : LIs blIs l Bs) : (Bs.all fun x => x.cells.length == 1) = true := List.all_eq_true.2 fun y hy => by
 obtain ⟨q, hq⟩ := List.mem_iff_getElem?.1 hy
 obtain ⟨b, a, _, _, _, e4, ⟨t, rfl, _⟩⟩ := h.at (i := q) (List.getElem?_eq_some_iff.1 hq).1
 rw [hq] at e4; cases e4; rfl
theorem counts_law {p : Pr} {pa : AV} (hp : p.Is pa) : Out md pfs2 6 [pa] (· = .bool true) fun _ => False := by
 obtain ⟨gas, tg, c, rfl, h1, h2, h3, h4, h5, h6, h7, h8, h9, h10⟩ := id hp
 have hpp := prPure hp
 have hgl := h3.len
 refine out_of (pf2 pf6_is) (Nat.le_of_ble_eq_true rfl) ?_
 obtain ⟨_, rfl, cf⟩ := ((Few_ret hp).ext pfs_le).call rfl (by simp [pvs_cons, pvs_nil, hpp])
 obtain ⟨_, rfl, ca⟩ := awake_ret.call rfl rfl
 cases hf : p.few
 ·rw [hf] at cf
  simp only [pf6, ↓wpre, wall, simprocAttr, List.length_append, List.append_assoc, app_get_len, app_get_add, app_set_len, app_set_add, h5, h6, h10, cf, ca]
 rw [hf] at cf
 obtain ⟨v, hv, cc⟩ := (Compile_few hp hf).call rfl (by simp [pvs_cons, pvs_nil, hpp])
 rcases hv with ⟨hc, rfl⟩ | ⟨hc, a, rfl, Bs, t1, t2, t3, rfl, b1, b2, b3, b4, b5, b6, b7⟩
 ·have hne : (p.check != 0) = true := by simpa [bne] using hc
  simp only [pf6, ↓wpre, wall, simprocAttr, List.length_append, List.append_assoc, app_get_len, app_get_add, app_set_len, app_set_add, h5, h6, h10, cf, ca, cc, hne]
 obtain ⟨hP, n1, n2, n3, n4⟩ := few_comp hf hc
 have hfs := few_sum hf
 have hg6 := (few_facts hf).2
 have hbn : ∀ e ∈ p.es, e.nb ≤ 1000000 ∧ e.ni ≤ 1000000 := fun e he => by have := few_dep hf he; omega
 obtain ⟨_, rfl, cm⟩ := ((blocks_ret p.main h4 (hbn p.main (by simp [Pr.es])).1 (hbn p.main (by simp [Pr.es])).2).ext pfs_le).call rfl (by simp [pvs_cons, pvs_nil, exPure _ h4])
 have hBl := b1.len
 have hBa := blAll b1
 simp only [pf6, ↓wpre, wall, simprocAttr, List.length_append, List.append_assoc, app_get_len, app_get_add, app_set_len, app_set_add, h5, h6, h10, cf, ca, cc, cm]
 have hpre : ∀ j, nbL ((p.gs.take j).map (·.2)) ≤ nbL (p.gs.map (·.2)) ∧ niL ((p.gs.take j).map (·.2)) ≤ niL (p.gs.map (·.2)) := fun j => by
  have e : p.gs.map (·.2) = (p.gs.take j).map (·.2) ++ (p.gs.drop j).map (·.2) := by rw [← List.map_append, List.take_append_drop]
  have q1 := nbL_app ((p.gs.take j).map (·.2)) ((p.gs.drop j).map (·.2))
  have q2 := niL_app ((p.gs.take j).map (·.2)) ((p.gs.drop j).map (·.2))
  rw [← e] at q1 q2; omega
 have hes1 : nbL p.es = p.main.nb + nbL (p.gs.map (·.2)) := by rw [Pr.es, nbL]
 have hes2 : niL p.es = p.main.ni + niL (p.gs.map (·.2)) := by rw [Pr.es, niL]
 refine W_loopE (fun j => gas.length - j) (fun j E H T => E 1 = .ptr 0 0 ∧ E 3 = .ptr 1 0 ∧ E 5 = .int ((p.main.nb + nbL ((p.gs.take j).map (·.2)) : Nat) : Int) ∧ E 6 = .int ((p.main.ni + niL ((p.gs.take j).map (·.2)) : Nat) : Int) ∧ E 7 = .int j ∧ j ≤ gas.length ∧ ∃ G, H = .cells false (.sl gas tg :: c) :: .cells false [.sl Bs t1, .sl (nmA (compC p).gl) t2, .sl (ints (compC p).st) t3] :: G) ?_ 0 ⟨rfl, rfl, rfl, rfl, rfl, Nat.zero_le _, _, rfl⟩
 rintro j E H T ⟨e1, e3, e5, e6, e7, hj, G, rfl⟩
 rcases Nat.lt_or_ge j gas.length with hlt | hge
 ·obtain ⟨g, _, d0, d1, d3, d4, ⟨c2, rfl, hns, hg⟩⟩ := h3.at hlt
  obtain ⟨c3, e, g1, g2⟩ := exAgg.cells hg
  cases e
  have g3 : c2.take 5 = c2 := List.take_of_length_le (by omega)
  have hdec : decide ((j : Int) < gas.length) = true := by simpa using hlt
  have hin : g.2 ∈ p.es := List.mem_cons_of_mem _ (List.mem_map_of_mem d3)
  obtain ⟨_, rfl, cg⟩ := ((blocks_ret g.2 hg (hbn _ hin).1 (hbn _ hin).2).ext pfs_le).call rfl (by simp [pvs_cons, pvs_nil, exPure _ hg])
  have htk : (p.gs.take (j + 1)).map (·.2) = (p.gs.take j).map (·.2) ++ [g.2] := by rw [List.take_add_one, d0]; simp
  have hn1 := nbL_app ((p.gs.take j).map (·.2)) [g.2]
  have hn2 := niL_app ((p.gs.take j).map (·.2)) [g.2]
  rw [← htk, nbL, nbL, Nat.add_zero] at hn1
  rw [← htk, niL, niL, Nat.add_zero] at hn2
  have hp1 := hpre (j + 1)
  have w3 : IntKind.i64.wrap (((p.main.nb + nbL ((p.gs.take j).map (·.2)) : Nat) : Int) + ((g.2.nb : Nat) : Int)) = ((p.main.nb + nbL ((p.gs.take (j + 1)).map (·.2)) : Nat) : Int) := by rw [wrap_in (by unfold in64; omega)]; omega
  have w4 : IntKind.i64.wrap (((p.main.ni + niL ((p.gs.take j).map (·.2)) : Nat) : Int) + ((g.2.ni : Nat) : Int)) = ((p.main.ni + niL ((p.gs.take (j + 1)).map (·.2)) : Nat) : Int) := by rw [wrap_in (by unfold in64; omega)]; omega
  simp only [↓wpre, wall, simprocAttr, List.length_append, List.append_assoc, app_get_len, app_get_add, app_set_len, app_set_add, e1, e3, e5, e6, e7, hdec, h10, d4, g1, g2, g3, cg, w3, w4]
  exact EQ_in ⟨j + 1, by omega, e1, e3, rfl, rfl, next_ixv (by omega), by omega, _, rfl⟩
 ·have hdec : decide ((j : Int) < gas.length) = false := by simpa using hge
  rw [List.take_of_length_le (by omega), ← hes1] at e5
  rw [List.take_of_length_le (by omega), ← hes2] at e6
  simp only [↓wpre, wall, simprocAttr, List.length_append, List.append_assoc, app_get_len, app_get_add, app_set_len, app_set_add, e1, e3, e5, e6, e7, hdec]
  refine W_loopE (fun j => Bs.length - j) (fun j E H T => E 1 = .ptr 0 0 ∧ E 3 = .ptr 1 0 ∧ E 5 = .int ((nbL p.es : Nat) : Int) ∧ E 6 = .int ((niL p.es : Nat) : Int) ∧ E 10 = .int ((((compC p).bl.map List.length).take j).sum : Nat) ∧ E 11 = .int j ∧ j ≤ Bs.length ∧ ∃ G, H = .cells false (.sl gas tg :: c) :: .cells false [.sl Bs t1, .sl (nmA (compC p).gl) t2, .sl (ints (compC p).st) t3] :: G) ?_ 0 ⟨e1, e3, e5, e6, by simp [updE], rfl, Nat.zero_le _, _, rfl⟩
  rintro j E H T ⟨e1, e3, e5, e6, e10, e11, hj, G, rfl⟩
  rcases Nat.lt_or_ge j Bs.length with hlt | hge
  ·have hdec : decide ((j : Int) < Bs.length) = true := by simpa using hlt
   obtain ⟨l, a, d0, d1, d3, d4, ⟨tb, rfl, htb, hll⟩⟩ := b1.at hlt
   have htk : (((compC p).bl.map List.length).take (j + 1)).sum = (((compC p).bl.map List.length).take j).sum + l.length := by
    rw [List.take_add_one, List.getElem?_map, d0]; simp
   have hle := sum_take ((compC p).bl.map List.length) (j + 1)
   have w5 : IntKind.i64.wrap (((((compC p).bl.map List.length).take j).sum : Nat) + ((l.length : Nat) : Int)) = ((((compC p).bl.map List.length).take (j + 1)).sum : Nat) := by rw [wrap_in (by unfold in64; omega)]; omega
   simp only [↓wpre, wall, simprocAttr, List.length_append, List.append_assoc, app_get_len, app_get_add, app_set_len, app_set_add, e1, e3, e5, e6, e10, e11, hdec, hBa, d4, insA_len, w5]
   exact EQ_in ⟨j + 1, by omega, e1, e3, e5, e6, rfl, next_ixv (by omega), by omega, _, rfl⟩
  ·have hdec : decide ((j : Int) < Bs.length) = false := by simpa using hge
   rw [List.take_of_length_le (by rw [List.length_map]; omega), n2] at e10
   have w6 : IntKind.i64.wrap (1 + ((gas.length : Nat) : Int)) = ((1 + gas.length : Nat) : Int) := by rw [wrap_in (by unfold in64; omega)]; omega
   have w7 : IntKind.i64.wrap (((1 + gas.length : Nat) : Int) + ((nbL p.es : Nat) : Int)) = ((1 + gas.length + nbL p.es : Nat) : Int) := by rw [wrap_in (by unfold in64; omega)]; omega
   have w8 : IntKind.i64.wrap (((niL p.es : Nat) : Int) + 1) = ((niL p.es + 1 : Nat) : Int) := by rw [wrap_in (by unfold in64; omega)]; omega
   have w9 : IntKind.i64.wrap (((niL p.es + 1 : Nat) : Int) + ((gas.length : Nat) : Int)) = ((niL p.es + 1 + gas.length : Nat) : Int) := by rw [wrap_in (by unfold in64; omega)]; omega
   have q1 : (((Bs.length : Nat) : Int) == ((1 + gas.length + nbL p.es : Nat) : Int)) = true := by rw [beq_iff_eq]; omega
   have q2 : (((p.gs.length + 1 + niL p.es : Nat) : Int) == ((niL p.es + 1 + gas.length : Nat) : Int)) = true := by rw [beq_iff_eq]; omega
   simp only [↓wpre, wall, simprocAttr, List.length_append, List.append_assoc, app_get_len, app_get_add, app_set_len, app_set_add, e1, e3, e5, e6, e10, e11, hdec, ca, w6, w7, w8, w9, q1, q2]
theorem cells3 : 0 < Tryd.prog.cellsOf 3 := by rw [show Tryd.prog.cellsOf 3 = 1 from by kernel_rfl]; decide
theorem cells36 : 0 < Tryd.prog.cellsOf 36 := by rw [show Tryd.prog.cellsOf 36 = 5 from by kernel_rfl]; decide
theorem cells45 : 0 < Tryd.prog.cellsOf 45 := by rw [show Tryd.prog.cellsOf 45 = 6 from by kernel_rfl]; decide
theorem oft_int {n : Nat} {l : List AV} (h : OfT Tryd.prog n 3 l) : ∃ i, l = [.int i] ∧ in64 i := by
 cases n with
 | zero => exact h.elim
 | succ n =>
  simp only [OfT, Tryd.underlying3] at h
  obtain ⟨i, rfl, hw⟩ := h
  refine ⟨i, rfl, ?_⟩
  unfold in64
  simp [Lit.wf, IntKind.min, IntKind.max, IntKind.signed, IntKind.bits] at hw
  omega
theorem oft_str {n : Nat} {l : List AV} (h : OfT Tryd.prog n 9 l) : ∃ s, l = [.str s] ∧ s.size ≤ lenB := by
 cases n with
 | zero => exact h.elim
 | succ n =>
  simp only [OfT, Tryd.underlying9] at h
  obtain ⟨s, rfl, hw⟩ := h
  exact ⟨s, rfl, by unfold lenB; simpa [maxLen] using hw⟩
theorem oft_slice {α : Type} {R : α → AV → Prop} {n : Nat} {t e : TypeId} {l : List AV} (hu : Tryd.prog.underlying t = some (.slice e)) (hc : 0 < Tryd.prog.cellsOf e) (hR : ∀ n l, OfT Tryd.prog n e l → ∃ x, R x (mkE (isAgg Tryd.prog e) l)) (h : OfT Tryd.prog n t l) : ∃ (xs : List α) (al : List AV) (tl : Tl), l = [.sl al tl] ∧ LIs R xs al ∧ tl.pure = true ∧ al.length ≤ lenB := by
 cases n with
 | zero => exact h.elim
 | succ n =>
  simp only [OfT, hu, if_pos hc] at h
  obtain ⟨xs, tl, rfl, h1, h2, h3⟩ := h
  have key : ∀ xs : List (List AV), (∀ x ∈ xs, OfT Tryd.prog n e x) → ∃ ys : List α, LIs R ys (xs.map (mkE (isAgg Tryd.prog e))) := by
   intro xs
   induction xs with
   | nil => intro _; exact ⟨[], trivial⟩
   | cons x xs ih =>
    intro h
    obtain ⟨y, hy⟩ := hR n x (h x (by simp))
    obtain ⟨ys, hys⟩ := ih fun z hz => h z (by simp [hz])
    exact ⟨y :: ys, hy, hys⟩
  obtain ⟨ys, hys⟩ := key xs h3
  refine ⟨ys, _, tl, rfl, hys, ?_, by rw [List.length_map]; unfold lenB; simpa [maxLen] using h2⟩
  rcases h1 with rfl | ⟨rfl, _⟩ <;> rfl
theorem oft_ints {n : Nat} {l : List AV} (h : OfT Tryd.prog n 24 l) : ∃ s tl, l = [.sl (ints s) tl] ∧ tl.pure = true ∧ s.length ≤ lenB := by
 obtain ⟨xs, al, tl, rfl, h1, h2, h3⟩ := oft_slice (R := fun (i : Int) a => a = .int i) Tryd.underlying24 cells3 (fun n l h => by
  obtain ⟨i, rfl, _⟩ := oft_int h
  exact ⟨i, by rw [show isAgg Tryd.prog 3 = false from by kernel_rfl]; rfl⟩) h
 have : ∀ {xs : List Int} {al : List AV}, LIs (fun (i : Int) a => a = .int i) xs al → al = ints xs := by
  intro xs
  induction xs with
  | nil => intro al h; cases al with
   | nil => rfl
   | cons => exact h.elim
  | cons x xs ih => intro al h; cases al with
   | nil => exact h.elim
   | cons a al => obtain ⟨rfl, h⟩ := h; rw [ih h]; rfl
 have e := this h1
 subst e
 exact ⟨xs, tl, rfl, h2, by rw [← ints_len]; exact h3⟩
theorem five {α : Type} {l : List α} (h : l.length = 5) : ∃ a b c d e, l = [a, b, c, d, e] := by
 match l, h with
 | [a, b, c, d, e], _ => exact ⟨a, b, c, d, e, rfl⟩
theorem two {α : Type} {l : List α} (h : l.length = 2) : ∃ a b, l = [a, b] := by
 match l, h with
 | [a, b], _ => exact ⟨a, b, rfl⟩
theorem oft_ex : ∀ (n : Nat) (l : List AV), OfT Tryd.prog n 36 l → ∃ e : Ex, e.Is (.agg l)
 | 0, _, h => h.elim
 | 1, l, h => by
  simp only [OfT, Tryd.underlying36] at h
  rw [if_pos (by kernel_rfl)] at h
  obtain ⟨xs, rfl, hl, hx⟩ := h
  obtain ⟨a, b, c, d, e, rfl⟩ := five hl
  exact (hx 0 _ a rfl rfl).elim
 | n + 2, l, h => by
  unfold OfT at h
  simp only [Tryd.underlying36] at h
  rw [if_pos (by kernel_rfl)] at h
  obtain ⟨xs, rfl, hl, hx⟩ := h
  obtain ⟨a, b, c, d, e, rfl⟩ := five hl
  obtain ⟨k, rfl, _⟩ := oft_int (hx 0 _ a rfl rfl)
  obtain ⟨i, rfl, hi⟩ := oft_int (hx 1 _ b rfl rfl)
  obtain ⟨nm, rfl, hn⟩ := oft_str (hx 2 _ c rfl rfl)
  obtain ⟨s, t1, rfl, h1, hs⟩ := oft_ints (hx 3 _ d rfl rfl)
  have he : OfT Tryd.prog (n + 1) 34 e := hx 4 _ e rfl rfl
  unfold OfT at he
  simp only [Tryd.underlying34] at he
  rw [if_pos cells36] at he
  obtain ⟨ys, t2, rfl, g1, g2, g3⟩ := he
  have key : ∀ ys : List (List AV), (∀ x ∈ ys, OfT Tryd.prog n 36 x) → ∃ kids : List Ex, LIs Ex.Is kids (ys.map (mkE (isAgg Tryd.prog 36))) := by
   intro ys
   induction ys with
   | nil => intro _; exact ⟨[], trivial⟩
   | cons x xs ih =>
    intro h
    obtain ⟨y, hy⟩ := oft_ex n x (h x (by simp))
    obtain ⟨ys, hys⟩ := ih fun z hz => h z (by simp [hz])
    exact ⟨y :: ys, by rw [show isAgg Tryd.prog 36 = true from by kernel_rfl]; exact hy, hys⟩
  obtain ⟨kids, hk⟩ := key ys g3
  exact ⟨.mk k i nm s kids, Ex.Is.mk h1 (by rcases g1 with rfl | ⟨rfl, _⟩ <;> rfl) ⟨hi, hn⟩ hs (by rw [List.length_map]; unfold lenB; simpa [maxLen] using g2) hk⟩
theorem oft_gl {n : Nat} {l : List AV} (h : OfT Tryd.prog n 45 l) : ∃ g : Gl, glIs g (.agg l) := by
 cases n with
 | zero => exact h.elim
 | succ n =>
  simp only [OfT, Tryd.underlying45] at h
  rw [if_pos (by kernel_rfl)] at h
  obtain ⟨xs, rfl, hl, hx⟩ := h
  obtain ⟨a, b, rfl⟩ := two hl
  obtain ⟨nm, rfl, hn⟩ := oft_str (hx 0 _ a rfl rfl)
  obtain ⟨e, he⟩ := oft_ex n b (hx 1 _ b rfl rfl)
  refine ⟨(nm, e), b, ?_, hn, he⟩
  simp
theorem oft_pr {n : Nat} {l : List AV} (h : OfT Tryd.prog n 38 l) : ∃ p : Pr, p.Is (.agg l) := by
 cases n with
 | zero => exact h.elim
 | succ n =>
  simp only [OfT, Tryd.underlying38] at h
  rw [if_pos (by kernel_rfl)] at h
  obtain ⟨xs, rfl, hl, hx⟩ := h
  obtain ⟨a, b, rfl⟩ := two hl
  obtain ⟨gs, gas, tg, rfl, g1, g2, g3⟩ := oft_slice (R := glIs) Tryd.underlying33 cells45 (fun n l h => by
   obtain ⟨g, hg⟩ := oft_gl h
   exact ⟨g, by rw [show isAgg Tryd.prog 45 = true from by kernel_rfl]; exact hg⟩) (hx 0 _ a rfl rfl)
  obtain ⟨e, he⟩ := oft_ex n b (hx 1 _ b rfl rfl)
  obtain ⟨c, q, hl2, ho⟩ := exAgg.cells he
  cases q
  have hp := exPure _ he
  rw [pv_agg] at hp
  refine ⟨⟨gs, e⟩, gas, tg, b, by simp, g2, g3, g1, he, hl2, List.take_of_length_le (by omega), ho, hp, g1.pure fun _ _ h => glAgg.pure h, g1.all glAgg⟩
theorem purify_v_inv {n : Nat} {s : ASt} {x : AV} {y : Value} (h : purify n s x = some (.v y)) : x = .v y := by
 cases n with
 | zero => rw [purify] at h; cases h
 | succ n =>
  unfold purify at h
  split at h
  ·cases h; rfl
  ·split at h
   all_goals first
    | (cases h; done)
    | (rw [Option.map_eq_some_iff] at h; obtain ⟨_, _, h⟩ := h; cases h; done)
    | skip
   split at h
   ·split at h
    ·rw [Option.map_eq_some_iff] at h; obtain ⟨_, _, h⟩ := h; cases h
    ·cases h
   ·cases h
theorem law_true {f : FuncId} {ls : List AV} (h : Out md pfs2 f ls (· = .bool true) fun _ => False) : ∃ s', run md pfs2 f ls ⟨[], []⟩ = some (.ret (.v (.bool true)), s') := by
 obtain ⟨out, s, out', h1, h2, h3⟩ := h
 cases out' with
 | pan v => exact h3.elim
 | ret v =>
  subst h3
  cases out with
  | pan w => simp [Outc.purify] at h2
  | ret w =>
   simp only [Outc.purify, Option.map_eq_some_iff] at h2
   obtain ⟨y, h2, h3⟩ := h2
   cases h3
   exact ⟨s, by rw [h1, purify_v_inv h2]⟩
open Go Go.Proofs Go.Proofs.YtnipefcppecalaaDoor
open Go.ChangeShapes Go.WideShapes Go.ChangeAt Go.RowKit
def laid56 : List (String × DataW Unit) := Rows.bytecodeCountsRow.laid
theorem lm_tail {P : Program} {x : String × DataW Unit} {r : List (String × DataW Unit)} {w : World} (h : laidMet P (x :: r) w) : laidMet P r w := by
 obtain ⟨n, d⟩ := x
 obtain ⟨ps, ⟨g, t, cs, fuel, p, q, _, _, _, _, hq, rfl⟩, hn, hc⟩ := h
 exact ⟨q, hq, (List.nodup_append.1 hn).2.1, fun b off hm => hc b off (List.mem_append_right _ hm)⟩
theorem kn_of {W : World} (h : laidMetH Tryd.prog laid56 W) : Kn W := by
 rw [MakeChecks.laidMetH_plain _ _ _ (by kernel_rfl)] at h
 have h2 := lm_tail (lm_tail h)
 have h3 := Lib.tabIs_of_head (name := "internal/strconv.uint64pow10") (zs := Lib.pow10Tab) (k := .u64) (g := 0) (t := 153) (e := 125) (n := 20) (by kernel_rfl) (by kernel_rfl) (by kernel_rfl) (by kernel_rfl) (by kernel_rfl) (by kernel_rfl) h2
 intro b hb
 obtain rfl : b = 0 := hb
 unfold Lib.TabIs World.var? at h3
 rw [show Tryd.prog.globalNamed "internal/strconv.uint64pow10" = some 0 from by kernel_rfl] at h3
 simp only [Option.bind_some] at h3
 split at h3
 ·rename_i cs t z hh
  simp only [Option.some.injEq] at h3
  subst h3
  exact ⟨(Array.getElem?_eq_some_iff.1 hh).1, t, z, hh⟩
 ·cases h3
theorem try_own : ownKnob Tryd.prog.godebug = none := by kernel_rfl
theorem try_laid : laidOutB Tryd.prog = true := by kernel_rfl
end Go.Proofs.Eng
