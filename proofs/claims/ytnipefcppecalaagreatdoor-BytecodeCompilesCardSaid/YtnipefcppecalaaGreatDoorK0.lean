/- What the rows' list of laid variables gives. No conditions beyond those in the theorems. -/
import Derived.Test.YtnipefcppecalaaGreatDoorT8
import Derived.Test.YtnipefcppecalaaGreatDoorQ5
import Derived.Test.YtnipefcppecalaaGreatDoorG5
import Derived.Test.YtnipefcppecalaaGreatDoorG4
import Derived.Test.YtnipefcppecalaaGreatDoorRows
import Derived.Lib.LaidTab
import Derived.Lay
import Derived.MakeChecks
import Derived.ProofKit
set_option linter.all false
set_option linter.deprecated false
set_option linter.unnecessarySimpa false
set_option linter.unusedVariables false
set_option linter.unusedSimpArgs false
set_option linter.defProp false
namespace Go.Proofs.Eng
open Go Go.Proofs
set_option maxRecDepth 100000
mutual
theorem small_bd : ∀ (e : Ex) {nd dp m : Int}, 0 ≤ nd → nd ≤ 60 → 0 ≤ dp → dp ≤ 60 → e.small nd dp = some m → 0 ≤ m ∧ m ≤ nd ∧ (e.nb : Int) ≤ 41 * (nd - m) ∧ (e.ni : Int) ≤ 82 * (nd - m) ∧ (e.dep : Int) ≤ dp
 | .mk k i n s kids, nd, dp, m, h1, h2, h3, h4, h => by
  rw [Ex.small] at h
  split at h
  ·cases h
  rename_i c1
  split at h
  ·cases h
  rename_i c2
  split at h
  ·cases h
  split at h
  ·cases h
  rename_i c4
  simp only [decide_eq_true_eq] at c1 c2 c4
  rw [w64_in (by unfold B62; omega) (by unfold B62; omega), w64_in (by unfold B62; omega) (by unfold B62; omega)] at h
  obtain ⟨g1, g2, g3, g4, g5⟩ := smallL_bd kids (nd := nd - 1) (dp := dp - 1) (by omega) (by omega) (by omega) (by omega) h
  rw [Ex.nb, Ex.ni, Ex.dep]
  refine ⟨g1, by omega, ?_, ?_, by omega⟩
  ·split
   ·omega
   ·split <;> omega
  ·split
   ·omega
   ·split
    ·omega
    ·split <;> omega
theorem smallL_bd : ∀ (l : List Ex) {nd dp m : Int}, 0 ≤ nd → nd ≤ 60 → 0 ≤ dp → dp ≤ 60 → smallL dp nd l = some m → 0 ≤ m ∧ m ≤ nd ∧ (nbL l : Int) ≤ 41 * (nd - m) ∧ (niL l : Int) ≤ 82 * (nd - m) ∧ (depL l : Int) ≤ dp
 | [], nd, dp, m, h1, h2, h3, h4, h => by
  rw [smallL] at h
  simp only [Option.some.injEq] at h; subst h
  rw [nbL, niL, depL]
  refine ⟨h1, Int.le_refl _, by omega, by omega, by omega⟩
 | e :: l, nd, dp, m, h1, h2, h3, h4, h => by
  rw [smallL] at h
  cases he : Ex.small nd dp e with
  | none => rw [he] at h; cases h
  | some m1 =>
   rw [he] at h
   obtain ⟨a1, a2, a3, a4, a5⟩ := small_bd e h1 h2 h3 h4 he
   obtain ⟨b1, b2, b3, b4, b5⟩ := smallL_bd l a1 (by omega) h3 h4 h
   rw [nbL, niL, depL]
   refine ⟨b1, by omega, by omega, by omega, by omega⟩
end
theorem decF {p : Prop} {d : Decidable p} (h : ¬ p) : @decide p d = false := decide_eq_false h
theorem whole_err {gl : ByteArray → Bool} {e : Ex} (h : e.whole gl = 0) : e.err gl 0 = 0 := by
 unfold Ex.whole at h
 split at h
 ·exact h
 ·rename_i h1; simpa [bne] using h1
theorem go_ok (p : Pr) : ∀ (gs prev : List Gl), p.go prev gs = 0 → (∀ g ∈ gs, isName g.1 = true ∧ g.2.err p.gl 0 = 0) ∧ twice (prev.map (·.1)) (gs.map (·.1)) = false ∧ p.main.err p.gl 0 = 0
 | [], prev, h => by rw [Pr.go] at h; exact ⟨fun g hg => (by cases hg), rfl, whole_err h⟩
 | g :: gs, prev, h => by
  rw [Pr.go] at h
  split at h
  ·omega
  rename_i h1
  split at h
  ·omega
  rename_i h2
  split at h
  ·rename_i h3
   rw [h] at h3; simp at h3
  rename_i h3
  obtain ⟨a1, a2, a3⟩ := go_ok p gs (prev ++ [g]) h
  refine ⟨fun g' hg' => ?_, ?_, a3⟩
  ·rcases List.mem_cons.1 hg' with rfl | hg'
   ·exact ⟨by simpa using h1, whole_err (by simpa [bne] using h3)⟩
   ·exact a1 g' hg'
  ·rw [List.map_cons, twice]
   have hm : ¬ (g.1 ∈ prev.map (·.1)) := fun hm => by
    obtain ⟨x, hx, e⟩ := List.mem_map.1 hm
    exact h2 (List.any_eq_true.2 ⟨x, hx, decide_eq_true e⟩)
   rw [Bool.or_eq_false_iff]
   rw [List.map_append] at a2
   exact ⟨decF hm, a2⟩
theorem few_facts {p : Pr} (h : p.few = true) : (∀ e ∈ p.es, ∃ m, e.small 60 60 = some m) ∧ p.gs.length ≤ 6 := by
 unfold Pr.few at h
 simp only [Bool.and_eq_true, decide_eq_true_eq, List.all_eq_true] at h
 obtain ⟨⟨h1, h2⟩, h3⟩ := h
 refine ⟨fun e he => ?_, by omega⟩
 rcases List.mem_cons.1 he with rfl | he
 ·exact Option.isSome_iff_exists.1 h1
 ·obtain ⟨g, hg, rfl⟩ := List.mem_map.1 he
  have := h2 g hg
  unfold Gl.few at this
  simp only [Bool.and_eq_true] at this
  exact Option.isSome_iff_exists.1 this.1
theorem few_dep {p : Pr} (h : p.few = true) {e : Ex} (he : e ∈ p.es) : e.dep ≤ 60 ∧ e.nb ≤ 2460 ∧ e.ni ≤ 4920 := by
 obtain ⟨m, hm⟩ := (few_facts h).1 e he
 obtain ⟨a1, a2, a3, a4, a5⟩ := small_bd e (by omega) (by omega) (by omega) (by omega) hm
 omega
theorem nbL_le : ∀ {l : List Ex} {a b : Nat}, (∀ e ∈ l, e.nb ≤ a ∧ e.ni ≤ b) → nbL l ≤ a * l.length ∧ niL l ≤ b * l.length
 | [], a, b, _ => by simp [nbL, niL]
 | x :: l, a, b, h => by
  have h1 := h x (by simp)
  have h2 := nbL_le (l := l) (a := a) (b := b) fun e he => h e (by simp [he])
  rw [nbL, niL, List.length_cons, Nat.mul_add, Nat.mul_add]; omega
theorem few_sum {p : Pr} (h : p.few = true) : nbL p.es ≤ 17220 ∧ niL p.es ≤ 34440 := by
 have h1 := nbL_le (l := p.es) (a := 2460) (b := 4920) fun e he => (few_dep h he).2
 have h2 := (few_facts h).2
 rw [es_len] at h1
 have : 2460 * (p.gs.length + 1) ≤ 2460 * 7 := Nat.mul_le_mul_left _ (by omega)
 have : 4920 * (p.gs.length + 1) ≤ 4920 * 7 := Nat.mul_le_mul_left _ (by omega)
 omega
theorem few_ok {p : Pr} (h : p.few = true) (hc : p.check = 0) : PrOK p 3840 := by
 unfold Pr.check at hc
 split at hc
 ·omega
 obtain ⟨a1, a2, a3⟩ := go_ok p p.gs [] hc
 have hd : ∀ e ∈ p.es, (0 : Int) + 64 * e.dep ≤ 3840 := fun e he => by have := (few_dep h he).1; omega
 refine ⟨⟨a3, Int.le_refl _, hd p.main (by simp [Pr.es])⟩, fun g hg => ⟨(a1 g hg).1, (a1 g hg).2, Int.le_refl _, hd g.2 ?_⟩, a2, by unfold B62; omega⟩
 exact List.mem_cons_of_mem _ (List.mem_map_of_mem hg)
theorem few_comp {p : Pr} (h : p.few = true) (hc : p.check = 0) : PrOK p 3840 ∧ (compC p).bl.length = p.gs.length + 1 + nbL p.es ∧ ((compC p).bl.map List.length).sum = p.gs.length + 1 + niL p.es ∧ (compC p).bl.length ≤ 20000 ∧ ((compC p).bl.map List.length).sum ≤ 40000 := by
 have hP := few_ok h hc
 have h1 := comp_cnt hP
 have h2 := few_sum h
 have h3 := (few_facts h).2
 exact ⟨hP, h1.1, h1.2, by omega, by omega⟩
theorem Compile_few {p : Pr} {pa : AV} (hp : p.Is pa) (h : p.few = true) : Out md pfs2 7 [pa] (fun v => (p.check ≠ 0 ∧ v = .tup [.agg [.sl [] .nil, .sl [] .nil, .sl [] .nil], .int p.check]) ∨ (p.check = 0 ∧ ∃ a, v = .tup [a, .int 0] ∧ (compC p).Is a)) fun _ => False :=
 (Compile_ret hp (B := 3840) fun hc => by
  obtain ⟨a, _, _, b, c⟩ := few_comp h hc
  have : capB = 1073741824 := rfl
  exact ⟨a, by omega, by omega⟩).ext pfs_le
set_option maxHeartbeats 16000000
theorem pf2 {f : Nat} {pf : PF} (h : pfs f = some pf) : pfs2 f = some pf := pfs_le f pf h
theorem rCompile_few {p : Pr} {pa : AV} (hp : p.Is pa) (hf : p.few = true) : Out md pfs2 8 [pa] (fun v => (p.check ≠ 0 ∧ v = .tup [.agg [.sl [] .nil, .sl [] .nil, .sl [] .nil], .int p.check]) ∨ (p.check = 0 ∧ ∃ a, v = .tup [a, .int 0] ∧ (compC p).Is a)) fun _ => False :=
 (rCompile_ret hp (B := 3840) fun hc => by
  obtain ⟨a, _, _, b, c⟩ := few_comp hf hc
  have : capB = 1073741824 := rfl
  exact ⟨a, by omega, by omega⟩).ext pfs_le
theorem cdNil : (⟨[], [], []⟩ : Cd).Is (.agg [.sl [] .nil, .sl [] .nil, .sl [] .nil]) := ⟨[], .nil, .nil, .nil, rfl, trivial, rfl, rfl, rfl, by simp, by simp, by simp⟩
theorem compiles_law {p : Pr} {pa : AV} (hp : p.Is pa) : Out md pfs2 3 [pa] (· = .bool true) fun _ => False := by
 obtain ⟨gas, tg, c, rfl, h1, h2, h3, h4, h5, h6, h7, h8, h9, h10⟩ := id hp
 have hpp := prPure hp
 refine out_of (pf2 pf3_is) (Nat.le_of_ble_eq_true rfl) ?_
 obtain ⟨_, rfl, cf⟩ := ((Few_ret hp).ext pfs_le).call rfl (by simp [pvs_cons, pvs_nil, hpp])
 obtain ⟨_, rfl, ca⟩ := awake_ret.call rfl rfl
 cases hf : p.few
 ·rw [hf] at cf
  simp only [pf3, ↓wpre, wall, simprocAttr, List.length_append, List.append_assoc, app_get_len, app_get_add, app_set_len, app_set_add, h5, h6, h10, cf, ca]
 rw [hf] at cf
 obtain ⟨v, hv, cc⟩ := (Compile_few hp hf).call rfl (by simp [pvs_cons, pvs_nil, hpp])
 obtain ⟨w, hw, cd⟩ := (rCompile_few hp hf).call rfl (by simp [pvs_cons, pvs_nil, hpp])
 rcases hv with ⟨hc, rfl⟩ | ⟨hc, a, rfl, ha⟩
 ·rcases hw with ⟨_, rfl⟩ | ⟨hc', _⟩
  ·have he : (p.check == p.check) = true := by simp
   obtain ⟨_, rfl, cs⟩ := ((rSame_ret cdNil cdNil).ext pfs_le).call rfl (by simp [pvs_cons, pvs_nil, cdPure cdNil])
   simp only [pf3, ↓wpre, wall, simprocAttr, List.length_append, List.append_assoc, app_get_len, app_get_add, app_set_len, app_set_add, h5, h6, h10, cf, ca, cc, cd, cs, he]
  ·exact absurd hc' hc
 ·rcases hw with ⟨hc', _⟩ | ⟨_, b, rfl, hb⟩
  ·exact absurd hc hc'
  ·obtain ⟨_, rfl, cs⟩ := ((rSame_ret ha hb).ext pfs_le).call rfl (by simp [pvs_cons, pvs_nil, cdPure ha, cdPure hb])
   obtain ⟨Bs, t1, t2, t3, rfl, _⟩ := ha
   obtain ⟨Cs, u1, u2, u3, rfl, _⟩ := hb
   simp only [pf3, ↓wpre, wall, simprocAttr, List.length_append, List.append_assoc, app_get_len, app_get_add, app_set_len, app_set_add, h5, h6, h10, cf, ca, cc, cd, cs]
theorem cells3 : 0 < Tryz.prog.cellsOf 3 := by rw [show Tryz.prog.cellsOf 3 = 1 from by kernel_rfl]; decide
theorem cells36 : 0 < Tryz.prog.cellsOf 26 := by rw [show Tryz.prog.cellsOf 26 = 5 from by kernel_rfl]; decide
theorem cells45 : 0 < Tryz.prog.cellsOf 69 := by rw [show Tryz.prog.cellsOf 69 = 6 from by kernel_rfl]; decide
theorem oft_int {n : Nat} {l : List AV} (h : OfT Tryz.prog n 3 l) : ∃ i, l = [.int i] ∧ in64 i := by
 cases n with
 | zero => exact h.elim
 | succ n =>
  simp only [OfT, Tryz.underlying3] at h
  obtain ⟨i, rfl, hw⟩ := h
  refine ⟨i, rfl, ?_⟩
  unfold in64
  simp [Lit.wf, IntKind.min, IntKind.max, IntKind.signed, IntKind.bits] at hw
  omega
theorem oft_str {n : Nat} {l : List AV} (h : OfT Tryz.prog n 9 l) : ∃ s, l = [.str s] ∧ s.size ≤ lenB := by
 cases n with
 | zero => exact h.elim
 | succ n =>
  simp only [OfT, Tryz.underlying9] at h
  obtain ⟨s, rfl, hw⟩ := h
  exact ⟨s, rfl, by unfold lenB; simpa [maxLen] using hw⟩
theorem oft_slice {α : Type} {R : α → AV → Prop} {n : Nat} {t e : TypeId} {l : List AV} (hu : Tryz.prog.underlying t = some (.slice e)) (hc : 0 < Tryz.prog.cellsOf e) (hR : ∀ n l, OfT Tryz.prog n e l → ∃ x, R x (mkE (isAgg Tryz.prog e) l)) (h : OfT Tryz.prog n t l) : ∃ (xs : List α) (al : List AV) (tl : Tl), l = [.sl al tl] ∧ LIs R xs al ∧ tl.pure = true ∧ al.length ≤ lenB := by
 cases n with
 | zero => exact h.elim
 | succ n =>
  simp only [OfT, hu, if_pos hc] at h
  obtain ⟨xs, tl, rfl, h1, h2, h3⟩ := h
  have key : ∀ xs : List (List AV), (∀ x ∈ xs, OfT Tryz.prog n e x) → ∃ ys : List α, LIs R ys (xs.map (mkE (isAgg Tryz.prog e))) := by
   intro xs
   induction xs with
   | nil => intro _; exact ⟨[], trivial⟩
   | cons x xs ih =>
    intro h
    obtain ⟨y, hy⟩ := hR n x (h x (by simp))
    obtain ⟨ys, hys⟩ := ih fun z hz => h z (by simp [hz])
    exact ⟨y :: ys, hy, hys⟩
  obtain ⟨ys, hys⟩ := key xs h3
  refine ⟨ys, _, tl, rfl, hys, ?_, by rw [List.length_map]; unfold lenB; simpa [maxLen] using h2⟩
  rcases h1 with rfl | ⟨rfl, _⟩ <;> rfl
theorem oft_ints {n : Nat} {l : List AV} (h : OfT Tryz.prog n 23 l) : ∃ s tl, l = [.sl (ints s) tl] ∧ tl.pure = true ∧ s.length ≤ lenB := by
 obtain ⟨xs, al, tl, rfl, h1, h2, h3⟩ := oft_slice (R := fun (i : Int) a => a = .int i) Tryz.underlying23 cells3 (fun n l h => by
  obtain ⟨i, rfl, _⟩ := oft_int h
  exact ⟨i, by rw [show isAgg Tryz.prog 3 = false from by kernel_rfl]; rfl⟩) h
 have : ∀ {xs : List Int} {al : List AV}, LIs (fun (i : Int) a => a = .int i) xs al → al = ints xs := by
  intro xs
  induction xs with
  | nil => intro al h; cases al with
   | nil => rfl
   | cons => exact h.elim
  | cons x xs ih => intro al h; cases al with
   | nil => exact h.elim
   | cons a al => obtain ⟨rfl, h⟩ := h; rw [ih h]; rfl
 have e := this h1
 subst e
 exact ⟨xs, tl, rfl, h2, by rw [← ints_len]; exact h3⟩
theorem five {α : Type} {l : List α} (h : l.length = 5) : ∃ a b c d e, l = [a, b, c, d, e] := by
 match l, h with
 | [a, b, c, d, e], _ => exact ⟨a, b, c, d, e, rfl⟩
theorem two {α : Type} {l : List α} (h : l.length = 2) : ∃ a b, l = [a, b] := by
 match l, h with
 | [a, b], _ => exact ⟨a, b, rfl⟩
theorem oft_ex : ∀ (n : Nat) (l : List AV), OfT Tryz.prog n 26 l → ∃ e : Ex, e.Is (.agg l)
 | 0, _, h => h.elim
 | 1, l, h => by
  simp only [OfT, Tryz.underlying26] at h
  rw [if_pos (by kernel_rfl)] at h
  obtain ⟨xs, rfl, hl, hx⟩ := h
  obtain ⟨a, b, c, d, e, rfl⟩ := five hl
  exact (hx 0 _ a rfl rfl).elim
 | n + 2, l, h => by
  unfold OfT at h
  simp only [Tryz.underlying26] at h
  rw [if_pos (by kernel_rfl)] at h
  obtain ⟨xs, rfl, hl, hx⟩ := h
  obtain ⟨a, b, c, d, e, rfl⟩ := five hl
  obtain ⟨k, rfl, _⟩ := oft_int (hx 0 _ a rfl rfl)
  obtain ⟨i, rfl, hi⟩ := oft_int (hx 1 _ b rfl rfl)
  obtain ⟨nm, rfl, hn⟩ := oft_str (hx 2 _ c rfl rfl)
  obtain ⟨s, t1, rfl, h1, hs⟩ := oft_ints (hx 3 _ d rfl rfl)
  have he : OfT Tryz.prog (n + 1) 24 e := hx 4 _ e rfl rfl
  unfold OfT at he
  simp only [Tryz.underlying24] at he
  rw [if_pos cells36] at he
  obtain ⟨ys, t2, rfl, g1, g2, g3⟩ := he
  have key : ∀ ys : List (List AV), (∀ x ∈ ys, OfT Tryz.prog n 26 x) → ∃ kids : List Ex, LIs Ex.Is kids (ys.map (mkE (isAgg Tryz.prog 26))) := by
   intro ys
   induction ys with
   | nil => intro _; exact ⟨[], trivial⟩
   | cons x xs ih =>
    intro h
    obtain ⟨y, hy⟩ := oft_ex n x (h x (by simp))
    obtain ⟨ys, hys⟩ := ih fun z hz => h z (by simp [hz])
    exact ⟨y :: ys, by rw [show isAgg Tryz.prog 26 = true from by kernel_rfl]; exact hy, hys⟩
  obtain ⟨kids, hk⟩ := key ys g3
  exact ⟨.mk k i nm s kids, Ex.Is.mk h1 (by rcases g1 with rfl | ⟨rfl, _⟩ <;> rfl) ⟨hi, hn⟩ hs (by rw [List.length_map]; unfold lenB; simpa [maxLen] using g2) hk⟩
theorem oft_gl {n : Nat} {l : List AV} (h : OfT Tryz.prog n 69 l) : ∃ g : Gl, glIs g (.agg l) := by
 cases n with
 | zero => exact h.elim
 | succ n =>
  simp only [OfT, Tryz.underlying69] at h
  rw [if_pos (by kernel_rfl)] at h
  obtain ⟨xs, rfl, hl, hx⟩ := h
  obtain ⟨a, b, rfl⟩ := two hl
  obtain ⟨nm, rfl, hn⟩ := oft_str (hx 0 _ a rfl rfl)
  obtain ⟨e, he⟩ := oft_ex n b (hx 1 _ b rfl rfl)
  refine ⟨(nm, e), b, ?_, hn, he⟩
  simp
theorem oft_pr {n : Nat} {l : List AV} (h : OfT Tryz.prog n 28 l) : ∃ p : Pr, p.Is (.agg l) := by
 cases n with
 | zero => exact h.elim
 | succ n =>
  simp only [OfT, Tryz.underlying28] at h
  rw [if_pos (by kernel_rfl)] at h
  obtain ⟨xs, rfl, hl, hx⟩ := h
  obtain ⟨a, b, rfl⟩ := two hl
  obtain ⟨gs, gas, tg, rfl, g1, g2, g3⟩ := oft_slice (R := glIs) Tryz.underlying22 cells45 (fun n l h => by
   obtain ⟨g, hg⟩ := oft_gl h
   exact ⟨g, by rw [show isAgg Tryz.prog 69 = true from by kernel_rfl]; exact hg⟩) (hx 0 _ a rfl rfl)
  obtain ⟨e, he⟩ := oft_ex n b (hx 1 _ b rfl rfl)
  obtain ⟨c, q, hl2, ho⟩ := exAgg.cells he
  cases q
  have hp := exPure _ he
  rw [pv_agg] at hp
  refine ⟨⟨gs, e⟩, gas, tg, b, by simp, g2, g3, g1, he, hl2, List.take_of_length_le (by omega), ho, hp, g1.pure fun _ _ h => glAgg.pure h, g1.all glAgg⟩
theorem purify_v_inv {n : Nat} {s : ASt} {x : AV} {y : Value} (h : purify n s x = some (.v y)) : x = .v y := by
 cases n with
 | zero => rw [purify] at h; cases h
 | succ n =>
  unfold purify at h
  split at h
  ·cases h; rfl
  ·split at h
   all_goals first
    | (cases h; done)
    | (rw [Option.map_eq_some_iff] at h; obtain ⟨_, _, h⟩ := h; cases h; done)
    | skip
   split at h
   ·split at h
    ·rw [Option.map_eq_some_iff] at h; obtain ⟨_, _, h⟩ := h; cases h
    ·cases h
   ·cases h
theorem law_true {pfs2 : FuncId → Option PF} {f : FuncId} {ls : List AV} (h : Out md pfs2 f ls (· = .bool true) fun _ => False) : ∃ s', run md pfs2 f ls ⟨[], []⟩ = some (.ret (.v (.bool true)), s') := by
 obtain ⟨out, s, out', h1, h2, h3⟩ := h
 cases out' with
 | pan v => exact h3.elim
 | ret v =>
  subst h3
  cases out with
  | pan w => simp [Outc.purify] at h2
  | ret w =>
   simp only [Outc.purify, Option.map_eq_some_iff] at h2
   obtain ⟨y, h2, h3⟩ := h2
   cases h3
   exact ⟨s, by rw [h1, purify_v_inv h2]⟩
open Go Go.Proofs Go.Proofs.YtnipefcppecalaaGreatDoor
open Go.ChangeShapes Go.WideShapes Go.ChangeAt Go.RowKit
def laid56 : List (String × DataW Unit) := Rows.bytecodeCompilesRow.laid
theorem lm_tail {P : Program} {x : String × DataW Unit} {r : List (String × DataW Unit)} {w : World} (h : laidMet P (x :: r) w) : laidMet P r w := by
 obtain ⟨n, d⟩ := x
 obtain ⟨ps, ⟨g, t, cs, fuel, p, q, _, _, _, _, hq, rfl⟩, hn, hc⟩ := h
 exact ⟨q, hq, (List.nodup_append.1 hn).2.1, fun b off hm => hc b off (List.mem_append_right _ hm)⟩
theorem kn_of {W : World} (h : laidMetH Tryz.prog laid56 W) : Kn W := by
 rw [MakeChecks.laidMetH_plain _ _ _ (by kernel_rfl)] at h
 have h2 := lm_tail (lm_tail h)
 have h3 := Lib.tabIs_of_head (name := "internal/strconv.uint64pow10") (zs := Lib.pow10Tab) (k := .u64) (g := 0) (t := 199) (e := 175) (n := 20) (by kernel_rfl) (by kernel_rfl) (by kernel_rfl) (by kernel_rfl) (by kernel_rfl) (by kernel_rfl) h2
 intro b hb
 obtain rfl : b = 0 := hb
 unfold Lib.TabIs World.var? at h3
 rw [show Tryz.prog.globalNamed "internal/strconv.uint64pow10" = some 0 from by kernel_rfl] at h3
 simp only [Option.bind_some] at h3
 split at h3
 ·rename_i cs t z hh
  simp only [Option.some.injEq] at h3
  subst h3
  exact ⟨(Array.getElem?_eq_some_iff.1 hh).1, t, z, hh⟩
 ·cases h3
theorem try_own : ownKnob Tryz.prog.godebug = none := by kernel_rfl
theorem try_laid : laidOutB Tryz.prog = true := by kernel_rfl
end Go.Proofs.Eng
