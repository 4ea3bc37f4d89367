/- The law of changed operands. No conditions beyond those in the theorems. -/
import Derived.Test.YtnipefcppecalaaDoorT9
import Derived.Test.YtnipefcppecalaaDoorG5
import Derived.Test.YtnipefcppecalaaDoorG4
set_option linter.all false
set_option linter.deprecated false
set_option linter.unnecessarySimpa false
set_option linter.unusedVariables false
set_option linter.unusedSimpArgs false
set_option linter.defProp false
namespace Go.Proofs.Eng
open Go Go.Proofs
set_option maxRecDepth 100000
mutual
theorem small_bd : ∀ (e : Ex) {nd dp m : Int}, 0 ≤ nd → nd ≤ 60 → 0 ≤ dp → dp ≤ 60 → e.small nd dp = some m → 0 ≤ m ∧ m ≤ nd ∧ (e.nb : Int) ≤ 41 * (nd - m) ∧ (e.ni : Int) ≤ 82 * (nd - m) ∧ (e.dep : Int) ≤ dp
 | .mk k i n s kids, nd, dp, m, h1, h2, h3, h4, h => by
  rw [Ex.small] at h
  split at h
  ·cases h
  rename_i c1
  split at h
  ·cases h
  rename_i c2
  split at h
  ·cases h
  split at h
  ·cases h
  rename_i c4
  simp only [decide_eq_true_eq] at c1 c2 c4
  rw [w64_in (by unfold B62; omega) (by unfold B62; omega), w64_in (by unfold B62; omega) (by unfold B62; omega)] at h
  obtain ⟨g1, g2, g3, g4, g5⟩ := smallL_bd kids (nd := nd - 1) (dp := dp - 1) (by omega) (by omega) (by omega) (by omega) h
  rw [Ex.nb, Ex.ni, Ex.dep]
  refine ⟨g1, by omega, ?_, ?_, by omega⟩
  ·split
   ·omega
   ·split <;> omega
  ·split
   ·omega
   ·split
    ·omega
    ·split <;> omega
theorem smallL_bd : ∀ (l : List Ex) {nd dp m : Int}, 0 ≤ nd → nd ≤ 60 → 0 ≤ dp → dp ≤ 60 → smallL dp nd l = some m → 0 ≤ m ∧ m ≤ nd ∧ (nbL l : Int) ≤ 41 * (nd - m) ∧ (niL l : Int) ≤ 82 * (nd - m) ∧ (depL l : Int) ≤ dp
 | [], nd, dp, m, h1, h2, h3, h4, h => by
  rw [smallL] at h
  simp only [Option.some.injEq] at h; subst h
  rw [nbL, niL, depL]
  refine ⟨h1, Int.le_refl _, by omega, by omega, by omega⟩
 | e :: l, nd, dp, m, h1, h2, h3, h4, h => by
  rw [smallL] at h
  cases he : Ex.small nd dp e with
  | none => rw [he] at h; cases h
  | some m1 =>
   rw [he] at h
   obtain ⟨a1, a2, a3, a4, a5⟩ := small_bd e h1 h2 h3 h4 he
   obtain ⟨b1, b2, b3, b4, b5⟩ := smallL_bd l a1 (by omega) h3 h4 h
   rw [nbL, niL, depL]
   refine ⟨b1, by omega, by omega, by omega, by omega⟩
end
theorem decF {p : Prop} {d : Decidable p} (h : ¬ p) : @decide p d = false := decide_eq_false h
theorem whole_err {gl : ByteArray → Bool} {e : Ex} (h : e.whole gl = 0) : e.err gl 0 = 0 := by
 unfold Ex.whole at h
 split at h
 ·exact h
 ·rename_i h1; simpa [bne] using h1
theorem go_ok (p : Pr) : ∀ (gs prev : List Gl), p.go prev gs = 0 → (∀ g ∈ gs, isName g.1 = true ∧ g.2.err p.gl 0 = 0) ∧ twice (prev.map (·.1)) (gs.map (·.1)) = false ∧ p.main.err p.gl 0 = 0
 | [], prev, h => by rw [Pr.go] at h; exact ⟨fun g hg => (by cases hg), rfl, whole_err h⟩
 | g :: gs, prev, h => by
  rw [Pr.go] at h
  split at h
  ·omega
  rename_i h1
  split at h
  ·omega
  rename_i h2
  split at h
  ·rename_i h3
   rw [h] at h3; simp at h3
  rename_i h3
  obtain ⟨a1, a2, a3⟩ := go_ok p gs (prev ++ [g]) h
  refine ⟨fun g' hg' => ?_, ?_, a3⟩
  ·rcases List.mem_cons.1 hg' with rfl | hg'
   ·exact ⟨by simpa using h1, whole_err (by simpa [bne] using h3)⟩
   ·exact a1 g' hg'
  ·rw [List.map_cons, twice]
   have hm : ¬ (g.1 ∈ prev.map (·.1)) := fun hm => by
    obtain ⟨x, hx, e⟩ := List.mem_map.1 hm
    exact h2 (List.any_eq_true.2 ⟨x, hx, decide_eq_true e⟩)
   rw [Bool.or_eq_false_iff]
   rw [List.map_append] at a2
   exact ⟨decF hm, a2⟩
theorem few_facts {p : Pr} (h : p.few = true) : (∀ e ∈ p.es, ∃ m, e.small 60 60 = some m) ∧ p.gs.length ≤ 6 := by
 unfold Pr.few at h
 simp only [Bool.and_eq_true, decide_eq_true_eq, List.all_eq_true] at h
 obtain ⟨⟨h1, h2⟩, h3⟩ := h
 refine ⟨fun e he => ?_, by omega⟩
 rcases List.mem_cons.1 he with rfl | he
 ·exact Option.isSome_iff_exists.1 h1
 ·obtain ⟨g, hg, rfl⟩ := List.mem_map.1 he
  have := h2 g hg
  unfold Gl.few at this
  simp only [Bool.and_eq_true] at this
  exact Option.isSome_iff_exists.1 this.1
theorem few_dep {p : Pr} (h : p.few = true) {e : Ex} (he : e ∈ p.es) : e.dep ≤ 60 ∧ e.nb ≤ 2460 ∧ e.ni ≤ 4920 := by
 obtain ⟨m, hm⟩ := (few_facts h).1 e he
 obtain ⟨a1, a2, a3, a4, a5⟩ := small_bd e (by omega) (by omega) (by omega) (by omega) hm
 omega
theorem nbL_le : ∀ {l : List Ex} {a b : Nat}, (∀ e ∈ l, e.nb ≤ a ∧ e.ni ≤ b) → nbL l ≤ a * l.length ∧ niL l ≤ b * l.length
 | [], a, b, _ => by simp [nbL, niL]
 | x :: l, a, b, h => by
  have h1 := h x (by simp)
  have h2 := nbL_le (l := l) (a := a) (b := b) fun e he => h e (by simp [he])
  rw [nbL, niL, List.length_cons, Nat.mul_add, Nat.mul_add]; omega
theorem few_sum {p : Pr} (h : p.few = true) : nbL p.es ≤ 17220 ∧ niL p.es ≤ 34440 := by
 have h1 := nbL_le (l := p.es) (a := 2460) (b := 4920) fun e he => (few_dep h he).2
 have h2 := (few_facts h).2
 rw [es_len] at h1
 have : 2460 * (p.gs.length + 1) ≤ 2460 * 7 := Nat.mul_le_mul_left _ (by omega)
 have : 4920 * (p.gs.length + 1) ≤ 4920 * 7 := Nat.mul_le_mul_left _ (by omega)
 omega
theorem few_ok {p : Pr} (h : p.few = true) (hc : p.check = 0) : PrOK p 3840 := by
 unfold Pr.check at hc
 split at hc
 ·omega
 obtain ⟨a1, a2, a3⟩ := go_ok p p.gs [] hc
 have hd : ∀ e ∈ p.es, (0 : Int) + 64 * e.dep ≤ 3840 := fun e he => by have := (few_dep h he).1; omega
 refine ⟨⟨a3, Int.le_refl _, hd p.main (by simp [Pr.es])⟩, fun g hg => ⟨(a1 g hg).1, (a1 g hg).2, Int.le_refl _, hd g.2 ?_⟩, a2, by unfold B62; omega⟩
 exact List.mem_cons_of_mem _ (List.mem_map_of_mem hg)
theorem few_comp {p : Pr} (h : p.few = true) (hc : p.check = 0) : PrOK p 3840 ∧ (compC p).bl.length = p.gs.length + 1 + nbL p.es ∧ ((compC p).bl.map List.length).sum = p.gs.length + 1 + niL p.es ∧ (compC p).bl.length ≤ 20000 ∧ ((compC p).bl.map List.length).sum ≤ 40000 := by
 have hP := few_ok h hc
 have h1 := comp_cnt hP
 have h2 := few_sum h
 have h3 := (few_facts h).2
 exact ⟨hP, h1.1, h1.2, by omega, by omega⟩
theorem Compile_few {p : Pr} {pa : AV} (hp : p.Is pa) (h : p.few = true) : Out md pfs2 15 [pa] (fun v => (p.check ≠ 0 ∧ v = .tup [.agg [.sl [] .nil, .sl [] .nil, .sl [] .nil], .int p.check]) ∨ (p.check = 0 ∧ ∃ a, v = .tup [a, .int 0] ∧ (compC p).Is a)) fun _ => False :=
 (Compile_ret hp (B := 3840) fun hc => by
  obtain ⟨a, _, _, b, c⟩ := few_comp h hc
  have : capB = 1073741824 := rfl
  exact ⟨a, by omega, by omega⟩).ext pfs_le
theorem cd_size {c : Cd} (h : c.check = 0) (h1 : c.bl.length ≤ 1000000) (h2 : (c.bl.map List.length).sum ≤ 1000000) (h3 : c.gl.length ≤ 1000000) : (∀ g ∈ c.gl, g.size ≤ lenB) ∧ (∀ b ∈ c.bl, ∀ x ∈ b, x.n.size ≤ lenB) := by
 obtain ⟨hi, _, hg, _⟩ := check_ins h (by omega) (by omega) (by omega)
 have : lenB = 9223372036854775807 := rfl
 exact ⟨fun g hg' => by have := hg g hg'; omega, fun b hb x hx => by have := (hi b hb x hx).2.2.2.2; omega⟩
set_option maxHeartbeats 16000000
theorem blAll {l : List (List Ins)} {Bs : List AV} (h : LIs blIs l Bs) : (Bs.all fun x => x.cells.length == 1) = true := List.all_eq_true.2 fun y hy => by
 obtain ⟨q, hq⟩ := List.mem_iff_getElem?.1 hy
 obtain ⟨b, a, _, _, _, e4, ⟨t, rfl, _⟩⟩ := h.at (i := q) (List.getElem?_eq_some_iff.1 hq).1
 rw [hq] at e4; cases e4; rfl
theorem cells3 : 0 < Tryd.prog.cellsOf 3 := by rw [show Tryd.prog.cellsOf 3 = 1 from by kernel_rfl]; decide
theorem cells36 : 0 < Tryd.prog.cellsOf 36 := by rw [show Tryd.prog.cellsOf 36 = 5 from by kernel_rfl]; decide
theorem cells45 : 0 < Tryd.prog.cellsOf 45 := by rw [show Tryd.prog.cellsOf 45 = 6 from by kernel_rfl]; decide
theorem oft_int {n : Nat} {l : List AV} (h : OfT Tryd.prog n 3 l) : ∃ i, l = [.int i] ∧ in64 i := by
 cases n with
 | zero => exact h.elim
 | succ n =>
  simp only [OfT, Tryd.underlying3] at h
  obtain ⟨i, rfl, hw⟩ := h
  refine ⟨i, rfl, ?_⟩
  unfold in64
  simp [Lit.wf, IntKind.min, IntKind.max, IntKind.signed, IntKind.bits] at hw
  omega
theorem oft_str {n : Nat} {l : List AV} (h : OfT Tryd.prog n 9 l) : ∃ s, l = [.str s] ∧ s.size ≤ lenB := by
 cases n with
 | zero => exact h.elim
 | succ n =>
  simp only [OfT, Tryd.underlying9] at h
  obtain ⟨s, rfl, hw⟩ := h
  exact ⟨s, rfl, by unfold lenB; simpa [maxLen] using hw⟩
theorem oft_slice {α : Type} {R : α → AV → Prop} {n : Nat} {t e : TypeId} {l : List AV} (hu : Tryd.prog.underlying t = some (.slice e)) (hc : 0 < Tryd.prog.cellsOf e) (hR : ∀ n l, OfT Tryd.prog n e l → ∃ x, R x (mkE (isAgg Tryd.prog e) l)) (h : OfT Tryd.prog n t l) : ∃ (xs : List α) (al : List AV) (tl : Tl), l = [.sl al tl] ∧ LIs R xs al ∧ tl.pure = true ∧ al.length ≤ lenB := by
 cases n with
 | zero => exact h.elim
 | succ n =>
  simp only [OfT, hu, if_pos hc] at h
  obtain ⟨xs, tl, rfl, h1, h2, h3⟩ := h
  have key : ∀ xs : List (List AV), (∀ x ∈ xs, OfT Tryd.prog n e x) → ∃ ys : List α, LIs R ys (xs.map (mkE (isAgg Tryd.prog e))) := by
   intro xs
   induction xs with
   | nil => intro _; exact ⟨[], trivial⟩
   | cons x xs ih =>
    intro h
    obtain ⟨y, hy⟩ := hR n x (h x (by simp))
    obtain ⟨ys, hys⟩ := ih fun z hz => h z (by simp [hz])
    exact ⟨y :: ys, hy, hys⟩
  obtain ⟨ys, hys⟩ := key xs h3
  refine ⟨ys, _, tl, rfl, hys, ?_, by rw [List.length_map]; unfold lenB; simpa [maxLen] using h2⟩
  rcases h1 with rfl | ⟨rfl, _⟩ <;> rfl
theorem oft_ints {n : Nat} {l : List AV} (h : OfT Tryd.prog n 24 l) : ∃ s tl, l = [.sl (ints s) tl] ∧ tl.pure = true ∧ s.length ≤ lenB := by
 obtain ⟨xs, al, tl, rfl, h1, h2, h3⟩ := oft_slice (R := fun (i : Int) a => a = .int i) Tryd.underlying24 cells3 (fun n l h => by
  obtain ⟨i, rfl, _⟩ := oft_int h
  exact ⟨i, by rw [show isAgg Tryd.prog 3 = false from by kernel_rfl]; rfl⟩) h
 have : ∀ {xs : List Int} {al : List AV}, LIs (fun (i : Int) a => a = .int i) xs al → al = ints xs := by
  intro xs
  induction xs with
  | nil => intro al h; cases al with
   | nil => rfl
   | cons => exact h.elim
  | cons x xs ih => intro al h; cases al with
   | nil => exact h.elim
   | cons a al => obtain ⟨rfl, h⟩ := h; rw [ih h]; rfl
 have e := this h1
 subst e
 exact ⟨xs, tl, rfl, h2, by rw [← ints_len]; exact h3⟩
theorem five {α : Type} {l : List α} (h : l.length = 5) : ∃ a b c d e, l = [a, b, c, d, e] := by
 match l, h with
 | [a, b, c, d, e], _ => exact ⟨a, b, c, d, e, rfl⟩
theorem two {α : Type} {l : List α} (h : l.length = 2) : ∃ a b, l = [a, b] := by
 match l, h with
 | [a, b], _ => exact ⟨a, b, rfl⟩
theorem oft_ex : ∀ (n : Nat) (l : List AV), OfT Tryd.prog n 36 l → ∃ e : Ex, e.Is (.agg l)
 | 0, _, h => h.elim
 | 1, l, h => by
  simp only [OfT, Tryd.underlying36] at h
  rw [if_pos (by kernel_rfl)] at h
  obtain ⟨xs, rfl, hl, hx⟩ := h
  obtain ⟨a, b, c, d, e, rfl⟩ := five hl
  exact (hx 0 _ a rfl rfl).elim
 | n + 2, l, h => by
  unfold OfT at h
  simp only [Tryd.underlying36] at h
  rw [if_pos (by kernel_rfl)] at h
  obtain ⟨xs, rfl, hl, hx⟩ := h
  obtain ⟨a, b, c, d, e, rfl⟩ := five hl
  obtain ⟨k, rfl, _⟩ := oft_int (hx 0 _ a rfl rfl)
  obtain ⟨i, rfl, hi⟩ := oft_int (hx 1 _ b rfl rfl)
  obtain ⟨nm, rfl, hn⟩ := oft_str (hx 2 _ c rfl rfl)
  obtain ⟨s, t1, rfl, h1, hs⟩ := oft_ints (hx 3 _ d rfl rfl)
  have he : OfT Tryd.prog (n + 1) 34 e := hx 4 _ e rfl rfl
  unfold OfT at he
  simp only [Tryd.underlying34] at he
  rw [if_pos cells36] at he
  obtain ⟨ys, t2, rfl, g1, g2, g3⟩ := he
  have key : ∀ ys : List (List AV), (∀ x ∈ ys, OfT Tryd.prog n 36 x) → ∃ kids : List Ex, LIs Ex.Is kids (ys.map (mkE (isAgg Tryd.prog 36))) := by
   intro ys
   induction ys with
   | nil => intro _; exact ⟨[], trivial⟩
   | cons x xs ih =>
    intro h
    obtain ⟨y, hy⟩ := oft_ex n x (h x (by simp))
    obtain ⟨ys, hys⟩ := ih fun z hz => h z (by simp [hz])
    exact ⟨y :: ys, by rw [show isAgg Tryd.prog 36 = true from by kernel_rfl]; exact hy, hys⟩
  obtain ⟨kids, hk⟩ := key ys g3
  exact ⟨.mk k i nm s kids, Ex.Is.mk h1 (by rcases g1 with rfl | ⟨rfl, _⟩ <;> rfl) ⟨hi, hn⟩ hs (by rw [List.length_map]; unfold lenB; simpa [maxLen] using g2) hk⟩
theorem oft_gl {n : Nat} {l : List AV} (h : OfT Tryd.prog n 45 l) : ∃ g : Gl, glIs g (.agg l) := by
 cases n with
 | zero => exact h.elim
 | succ n =>
  simp only [OfT, Tryd.underlying45] at h
  rw [if_pos (by kernel_rfl)] at h
  obtain ⟨xs, rfl, hl, hx⟩ := h
  obtain ⟨a, b, rfl⟩ := two hl
  obtain ⟨nm, rfl, hn⟩ := oft_str (hx 0 _ a rfl rfl)
  obtain ⟨e, he⟩ := oft_ex n b (hx 1 _ b rfl rfl)
  refine ⟨(nm, e), b, ?_, hn, he⟩
  simp
theorem oft_pr {n : Nat} {l : List AV} (h : OfT Tryd.prog n 38 l) : ∃ p : Pr, p.Is (.agg l) := by
 cases n with
 | zero => exact h.elim
 | succ n =>
  simp only [OfT, Tryd.underlying38] at h
  rw [if_pos (by kernel_rfl)] at h
  obtain ⟨xs, rfl, hl, hx⟩ := h
  obtain ⟨a, b, rfl⟩ := two hl
  obtain ⟨gs, gas, tg, rfl, g1, g2, g3⟩ := oft_slice (R := glIs) Tryd.underlying33 cells45 (fun n l h => by
   obtain ⟨g, hg⟩ := oft_gl h
   exact ⟨g, by rw [show isAgg Tryd.prog 45 = true from by kernel_rfl]; exact hg⟩) (hx 0 _ a rfl rfl)
  obtain ⟨e, he⟩ := oft_ex n b (hx 1 _ b rfl rfl)
  obtain ⟨c, q, hl2, ho⟩ := exAgg.cells he
  cases q
  have hp := exPure _ he
  rw [pv_agg] at hp
  refine ⟨⟨gs, e⟩, gas, tg, b, by simp, g2, g3, g1, he, hl2, List.take_of_length_le (by omega), ho, hp, g1.pure fun _ _ h => glAgg.pure h, g1.all glAgg⟩
theorem purify_v_inv {n : Nat} {s : ASt} {x : AV} {y : Value} (h : purify n s x = some (.v y)) : x = .v y := by
 cases n with
 | zero => rw [purify] at h; cases h
 | succ n =>
  unfold purify at h
  split at h
  ·cases h; rfl
  ·split at h
   all_goals first
    | (cases h; done)
    | (rw [Option.map_eq_some_iff] at h; obtain ⟨_, _, h⟩ := h; cases h; done)
    | skip
   split at h
   ·split at h
    ·rw [Option.map_eq_some_iff] at h; obtain ⟨_, _, h⟩ := h; cases h
    ·cases h
   ·cases h
theorem law_true {f : FuncId} {ls : List AV} (h : Out md pfs2 f ls (· = .bool true) fun _ => False) : ∃ s', run md pfs2 f ls ⟨[], []⟩ = some (.ret (.v (.bool true)), s') := by
 obtain ⟨out, s, out', h1, h2, h3⟩ := h
 cases out' with
 | pan v => exact h3.elim
 | ret v =>
  subst h3
  cases out with
  | pan w => simp [Outc.purify] at h2
  | ret w =>
   simp only [Outc.purify, Option.map_eq_some_iff] at h2
   obtain ⟨y, h2, h3⟩ := h2
   cases h3
   exact ⟨s, by rw [h1, purify_v_inv h2]⟩
def pf7 : PF := ⟨119,[.t 6],.seq (.reg [⟨some 3,none,.box (.t 0),0,[]⟩,⟨some 6,none,.mov (.c (.v (.bool false))),0,[]⟩]) (.seq (.seq (.reg [⟨some 15,none,.load true 6 (.t 3),0,[]⟩,
 ⟨some 16,none,.call (.c (.fn 14 [])) [.t 15],0,[]⟩,⟨some 17,none,.un .not (.t 16),0,[]⟩]) (.cond (.t 17) (.seq (.reg [⟨some 18,none,.call (.c (.fn 9 [])) [],0,[]⟩,
 ⟨some 6,none,.mov (.t 18),0,[]⟩]) .ret) .skip)) (.seq (.reg [⟨some 20,none,.load true 6 (.t 3),0,[]⟩,⟨some 21,none,.call (.c (.fn 15 [])) [.t 20],0,[]⟩,⟨some 19,none,
 .mov (.t 21),0,[]⟩,⟨some 22,none,.ext (.t 19) 0,0,[]⟩,⟨some 23,none,.ext (.t 19) 1,0,[]⟩,⟨some 7,none,.alloc [.sl [] .nil,.sl [] .nil,.sl [] .nil],0,[]⟩,⟨none,none,
 .store 3 (.t 7) (.t 22),0,[]⟩,⟨some 8,none,.mov (.t 23),0,[]⟩]) (.seq (.seq (.reg [⟨some 24,none,.mov (.t 8),0,[]⟩,⟨some 25,none,.bin .neq (.t 24) (.c (.v (.int .i64 0))
 ),0,[]⟩,⟨some 26,none,.mov (.t 25),0,[]⟩,⟨some 27,some (26,false),.faddr 0 (.t 7),0,[]⟩,⟨some 28,some (26,false),.load false 1 (.t 27),0,[]⟩,⟨some 29,some (26,false),
 .lenS (.t 28),0,[]⟩,⟨some 30,some (26,false),.bin .eql (.t 29) (.c (.v (.int .i64 0))),0,[]⟩,⟨some 31,none,.pick (.t 26) (.c (.v (.bool true))) (.t 30),0,[]⟩])
  (.cond (.t 31) (.seq (.reg [⟨some 32,none,.call (.c (.fn 9 [])) [],0,[]⟩,⟨some 33,none,.mov (.t 32),0,[]⟩,⟨some 34,some (33,true),.mov (.t 8),0,[]⟩,⟨some 35,some (33,
 true),.bin .neq (.t 34) (.c (.v (.int .i64 0))),0,[]⟩,⟨some 36,none,.pick (.t 33) (.t 35) (.c (.v (.bool false))),0,[]⟩,⟨some 6,none,.mov (.t 36),0,[]⟩]) .ret) .skip))
  (.seq (.reg [⟨some 37,none,.mov (.t 1),0,[]⟩,⟨some 38,none,.conv .i64 (.t 37),0,[]⟩,⟨some 39,none,.faddr 0 (.t 7),0,[]⟩,⟨some 40,none,.load false 1 (.t 39),0,[]⟩,
 ⟨some 41,none,.lenS (.t 40),0,[]⟩,⟨some 42,none,.bin .rem (.t 38) (.t 41),0,[]⟩,⟨some 9,none,.mov (.t 42),0,[]⟩]) (.seq (.seq (.reg [⟨some 43,none,.faddr 0 (.t 7),0,[]⟩,
 ⟨some 44,none,.load false 1 (.t 43),0,[]⟩,⟨some 45,none,.mov (.t 9),0,[]⟩,⟨some 46,none,.iaddr 1 (.t 44) (.t 45),0,[]⟩,⟨some 47,none,.load false 1 (.t 46),0,[]⟩,
 ⟨some 48,none,.lenS (.t 47),0,[]⟩,⟨some 49,none,.bin .eql (.t 48) (.c (.v (.int .i64 0))),0,[]⟩]) (.cond (.t 49) (.seq (.reg [⟨some 6,none,.mov (.c (.v (.bool false))),
 0,[]⟩]) .ret) .skip)) (.seq (.reg [⟨some 50,none,.mov (.t 2),0,[]⟩,⟨some 51,none,.conv .i64 (.t 50),0,[]⟩,⟨some 52,none,.faddr 0 (.t 7),0,[]⟩,⟨some 53,none,
 .load false 1 (.t 52),0,[]⟩,⟨some 54,none,.mov (.t 9),0,[]⟩,⟨some 55,none,.iaddr 1 (.t 53) (.t 54),0,[]⟩,⟨some 56,none,.load false 1 (.t 55),0,[]⟩,⟨some 57,none,
 .lenS (.t 56),0,[]⟩,⟨some 58,none,.bin .rem (.t 51) (.t 57),0,[]⟩,⟨some 10,none,.mov (.t 58),0,[]⟩]) (.seq (.reg [⟨some 59,none,.bsl (.sl [] .nil) 0 [],0,[]⟩,⟨some 60,
 none,.faddr 0 (.t 7),0,[]⟩,⟨some 61,none,.load false 1 (.t 60),0,[]⟩,⟨some 62,none,.app 1 (some false) (.t 59) (.t 61),0,[]⟩,⟨some 11,none,.mov (.t 62),0,[]⟩])
  (.seq (.reg [⟨some 63,none,.mov (.t 11),0,[]⟩,⟨some 64,none,.mov (.t 9),0,[]⟩,⟨some 65,none,.bsl (.agg [.v (.int .i64 0),.v (.int .i64 0),.v (.int .i64 0),
 .v (.string (ByteArray.mk #[]))]) 0 [],0,[]⟩,⟨some 66,none,.faddr 0 (.t 7),0,[]⟩,⟨some 67,none,.load false 1 (.t 66),0,[]⟩,⟨some 68,none,.mov (.t 9),0,[]⟩,⟨some 69,none,
 .iaddr 1 (.t 67) (.t 68),0,[]⟩,⟨some 70,none,.load false 1 (.t 69),0,[]⟩,⟨some 71,none,.app 4 (some true) (.t 65) (.t 70),0,[]⟩,⟨some 72,none,.iaddr 1 (.t 63) (.t 64),0,
 []⟩,⟨none,none,.store 1 (.t 72) (.t 71),0,[]⟩]) (.seq (.reg [⟨some 73,none,.mov (.t 11),0,[]⟩,⟨some 74,none,.mov (.t 9),0,[]⟩,⟨some 75,none,.iaddr 1 (.t 73) (.t 74),0,[]
 ⟩,⟨some 76,none,.load false 1 (.t 75),0,[]⟩,⟨some 77,none,.mov (.t 10),0,[]⟩,⟨some 78,none,.iaddr 4 (.t 76) (.t 77),0,[]⟩,⟨some 79,none,.load true 4 (.t 78),0,[]⟩,
 ⟨some 12,none,.alloc [.v (.int .i64 0),.v (.int .i64 0),.v (.int .i64 0),.v (.string (ByteArray.mk #[]))],0,[]⟩,⟨none,none,.store 4 (.t 12) (.t 79),0,[]⟩])
  (.seq (.reg [⟨some 80,none,.mov (.t 11),0,[]⟩,⟨some 81,none,.mov (.t 9),0,[]⟩,⟨some 82,none,.iaddr 1 (.t 80) (.t 81),0,[]⟩,⟨some 83,none,.load false 1 (.t 82),0,[]⟩,
 ⟨some 84,none,.mov (.t 10),0,[]⟩,⟨some 85,none,.iaddr 4 (.t 83) (.t 84),0,[]⟩,⟨some 86,none,.faddr 1 (.t 85),0,[]⟩,⟨none,none,.store 1 (.t 86)
  (.c (.v (.int .i64 1000000))),0,[]⟩]) (.seq (.reg [⟨some 87,none,.mov (.t 11),0,[]⟩,⟨some 88,none,.faddr 1 (.t 7),0,[]⟩,⟨some 89,none,.load false 1 (.t 88),0,[]⟩,
 ⟨some 90,none,.faddr 2 (.t 7),0,[]⟩,⟨some 91,none,.load false 1 (.t 90),0,[]⟩,⟨some 92,none,.build [.sl [] .nil,.sl [] .nil,.sl [] .nil] [(0,1,.t 87),(1,1,.t 89),(2,1,
 .t 91)],0,[]⟩,⟨some 13,none,.alloc [.sl [] .nil,.sl [] .nil,.sl [] .nil],0,[]⟩,⟨none,none,.store 3 (.t 13) (.t 92),0,[]⟩]) (.seq (.reg [⟨some 93,none,
 .load true 3 (.t 13),0,[]⟩,⟨some 94,none,.call (.c (.fn 10 [])) [.t 93],0,[]⟩,⟨some 14,none,.mov (.t 94),0,[]⟩]) (.seq (.seq (.reg [⟨some 95,none,.faddr 0 (.t 12),0,[]⟩,
 ⟨some 96,none,.load false 1 (.t 95),0,[]⟩]) (.block 0 (.seq (.reg [⟨some 98,none,.bin .eql (.t 96) (.c (.v (.int .i64 0))),0,[]⟩,⟨some 97,none,.mov (.t 98),0,[]⟩])
  (.cond (.t 97) (.seq (.reg [⟨some 99,none,.call (.c (.fn 9 [])) [],0,[]⟩,⟨some 100,none,.mov (.t 99),0,[]⟩,⟨some 101,some (100,true),.mov (.t 14),0,[]⟩,⟨some 102,
 some (100,true),.bin .eql (.t 101) (.c (.v (.int .i64 24))),0,[]⟩,⟨some 103,none,.pick (.t 100) (.t 102) (.c (.v (.bool false))),0,[]⟩,⟨some 6,none,.mov (.t 103),0,[]⟩])
  .ret) (.seq (.seq (.reg [⟨some 105,none,.bin .eql (.t 96) (.c (.v (.int .i64 1))),0,[]⟩,⟨some 104,none,.mov (.t 105),0,[]⟩]) (.cond (.t 104)
  .skip (.seq (.reg [⟨some 106,none,.bin .eql (.t 96) (.c (.v (.int .i64 4))),0,[]⟩,⟨some 104,none,.mov (.t 106),0,[]⟩]) (.cond (.t 104) .skip (.seq (.reg [⟨some 107,
 none,.bin .eql (.t 96) (.c (.v (.int .i64 6))),0,[]⟩,⟨some 104,none,.mov (.t 107),0,[]⟩]) (.cond (.t 104) .skip (.reg [⟨some 108,none,.bin .eql (.t 96)
  (.c (.v (.int .i64 7))),0,[]⟩,⟨some 104,none,.mov (.t 108),0,[]⟩]))))))) (.cond (.t 104) (.seq (.reg [⟨some 109,none,.call (.c (.fn 9 [])) [],0,[]⟩,⟨some 110,none,
 .mov (.t 109),0,[]⟩,⟨some 111,some (110,true),.mov (.t 14),0,[]⟩,⟨some 112,some (110,true),.bin .eql (.t 111) (.c (.v (.int .i64 2))),0,[]⟩,⟨some 113,none,.pick (.t 110)
  (.t 112) (.c (.v (.bool false))),0,[]⟩,⟨some 6,none,.mov (.t 113),0,[]⟩]) .ret) .skip)))))) (.seq (.reg [⟨some 114,none,.call (.c (.fn 9 [])) [],0,[]⟩,⟨some 115,none,
 .mov (.t 114),0,[]⟩,⟨some 116,some (115,true),.mov (.t 14),0,[]⟩,⟨some 117,some (115,true),.bin .eql (.t 116) (.c (.v (.int .i64 3))),0,[]⟩,⟨some 118,none,.pick (.t 115)
  (.t 117) (.c (.v (.bool false))),0,[]⟩,⟨some 6,none,.mov (.t 118),0,[]⟩]) .ret))))))))))))))⟩
theorem pf7_is : pfs2 7 = some pf7 := by kernel_rfl
theorem goB_ne {nb ng : Nat} : ∀ {l : List (List Ins)} {n : Nat} {S : List Int}, goB nb ng n l S = 0 → ∀ b ∈ l, b ≠ []
 | [], _, _, _, b, hb => by cases hb
 | y :: l, n, S, h, b, hb => by
  rw [goB] at h
  split at h
  ·omega
  split at h
  ·omega
  rename_i hne
  split at h
  ·rename_i e he
   exact absurd h (irun_ne he)
  ·rcases List.mem_cons.1 hb with rfl | hb
   ·exact hne
   ·exact goB_ne h b hb
theorem check_ne {c : Cd} (h : c.check = 0) : ∀ b ∈ c.bl, b ≠ [] := by
 unfold Cd.check at h
 split at h
 ·rename_i h1; exact absurd h h1
 ·exact goB_ne h
theorem appA_new {H : List AObj} {V : List Nat} {es : Nat} {ag : Bool} {xs : List AV} (h0 : xs ≠ []) (hl : xs.length ≤ 1073741824) (hx : (xs.all fun x => x.cells.length == es && x.cells.all oneCell) = true) :
  appA ⟨H, V⟩ es (some ag) [] (.cap 0) xs = some (.bs H.length 0 xs.length es ag, ⟨H ++ [.cells false (flat xs)], V⟩) := by
 cases xs with
 | nil => exact absurd rfl h0
 | cons x xs =>
  unfold appA
  simp only
  rw [if_pos ⟨.inl (by simpa using hl), rfl, hx⟩, if_pos (by simp)]
  simp
theorem blOne {l : List (List Ins)} {Bs : List AV} (h : LIs blIs l Bs) : flat Bs = Bs ∧ (Bs.all fun x => x.cells.length == 1 && x.cells.all oneCell) = true := by
 have key : ∀ y ∈ Bs, y.cells = [y] ∧ oneCell y = true := fun y hy => by
  obtain ⟨q, hq⟩ := List.mem_iff_getElem?.1 hy
  obtain ⟨b, a, _, _, _, e4, ⟨t, rfl, _⟩⟩ := h.at (i := q) (List.getElem?_eq_some_iff.1 hq).1
  rw [hq] at e4; cases e4; exact ⟨rfl, rfl⟩
 refine ⟨flat_one fun y hy => (key y hy).1, List.all_eq_true.2 fun y hy => ?_⟩
 rw [(key y hy).1]; simp [(key y hy).2]
theorem insOne (l : List Ins) : ((insA l).all fun x => x.cells.length == 4 && x.cells.all oneCell) = true := List.all_eq_true.2 fun y hy => by
 obtain ⟨x, _, rfl⟩ := List.mem_map.1 hy; rfl
theorem sum_set : ∀ (l : List Nat) (i : Nat) {b : Nat}, l[i]? = some b → (l.set i b) = l
 | [], i, b, h => by simp at h
 | x :: l, 0, b, h => by simp only [List.getElem?_cons_zero, Option.some.injEq] at h; subst h; rfl
 | x :: l, i + 1, b, h => by simp only [List.getElem?_cons_succ] at h; rw [List.set_cons_succ, sum_set l i h]
theorem insA_ne {l : List Ins} (h : l ≠ []) : insA l ≠ [] := by
 cases l with
 | nil => exact absurd rfl h
 | cons x l => intro e; cases e
theorem flatIn_len : ∀ l : List Ins, (flat (insA l)).length = l.length * 4
 | [] => rfl
 | x :: l => by
  have := flatIn_len l
  rw [insA] at this ⊢
  rw [List.map_cons, flat_cons, List.length_append, this, List.length_cons, show (Ins.av x).cells = [.int x.op, .int x.a, .int x.b, .str x.n] from rfl]
  simp; omega
theorem flat_parts {b : List Ins} {J : Nat} {x : Ins} (h : b[J]? = some x) (y : Ins) : flat (insA (b.set J y)) = flat (insA (b.take J)) ++ ([.int y.op, .int y.a, .int y.b, .str y.n] ++ flat (insA (b.drop (J + 1)))) := by
 obtain ⟨hJ, rfl⟩ := List.getElem?_eq_some_iff.1 h
 rw [List.set_eq_take_append_cons_drop, if_pos hJ, insA_app, flat_append, show insA (y :: b.drop (J + 1)) = y.av :: insA (b.drop (J + 1)) from rfl, flat_cons]; rfl
theorem flatIn_set {b : List Ins} {J : Nat} {x : Ins} (h : b[J]? = some x) (z : Int) : (flat (insA b)).take (J * 4 + 1) ++ .v (.int .i64 z) :: (flat (insA b)).drop (J * 4 + 1 + 1) = flat (insA (b.set J { x with a := z })) ∧ (List.drop (J * 4) (flat (insA b))).take 4 = [.int x.op, .int x.a, .int x.b, .str x.n] ∧ J * 4 + 4 ≤ (flat (insA b)).length := by
 have hJ := (List.getElem?_eq_some_iff.1 h).1
 have e0 : b.set J x = b := by
  obtain ⟨h1, rfl⟩ := List.getElem?_eq_some_iff.1 h
  exact List.set_getElem_self h1
 have e1 := flat_parts h x
 rw [e0] at e1
 have hl : (flat (insA (b.take J))).length = J * 4 := by rw [flatIn_len, List.length_take]; omega
 have hF := flatIn_len b
 refine ⟨?_, ?_, by omega⟩
 ·rw [flat_parts h, e1]
  generalize flat (insA (b.take J)) = A at *
  generalize flat (insA (b.drop (J + 1))) = B at *
  rw [← hl, List.take_length_add_append, Nat.add_assoc, List.drop_length_add_append]
  simp
 ·rw [e1]
  generalize flat (insA (b.take J)) = A at *
  generalize flat (insA (b.drop (J + 1))) = B at *
  rw [← hl]
  simp [List.drop_append]
theorem mapO_set {α β : Type} {f : α → Option β} {x : α} {y : β} (hx : f x = some y) : ∀ {l : List α} {l' : List β} (i : Nat), mapO f l = some l' → mapO f (l.set i x) = some (l'.set i y)
 | [], l', i, h => by simp only [mapO, Option.some.injEq] at h; subst h; rfl
 | a :: l, l', i, h => by
  simp only [mapO] at h
  split at h
  ·rename_i b hb
   split at h
   ·rename_i r hr
    simp only [Option.some.injEq] at h; subst h
    cases i with
    | zero => rw [List.set_cons_zero, mapO, hx, hr]; rfl
    | succ i => rw [List.set_cons_succ, mapO, hb, mapO_set hx i hr]; rfl
   ·cases h
  ·cases h
theorem lisSet {α : Type} {R : α → AV → Prop} {x : α} {a : AV} (hx : R x a) : ∀ {l : List α} {al : List AV} (i : Nat), LIs R l al → LIs R (l.set i x) (al.set i a)
 | [], [], _, _ => trivial
 | [], _ :: _, _, h => h.elim
 | _ :: _, [], _, h => h.elim
 | y :: l, b :: al, 0, h => ⟨hx, h.2⟩
 | y :: l, b :: al, i + 1, h => ⟨h.1, lisSet hx i h.2⟩
theorem chunk1 : ∀ (n : Nat) (l : List AV), n ≤ l.length → chunk 1 false n l = l.take n
 | 0, l, _ => by simp [chunk]
 | n + 1, [], h => by simp at h
 | n + 1, x :: l, h => by
  have := chunk1 n l (by simpa using h)
  simp only [chunk, Bool.false_eq_true, if_false, List.headD_cons, List.drop_succ_cons, List.drop_zero, this, List.take_succ_cons]
theorem elems_one {s : ASt} {q : Nat} {fz : Bool} {L : List AV} (h : s.H[q]? = some (.cells fz L)) (h1 : L.all AV.one = true) : elemsA s (.bs q 0 L.length 1 false) = some L := by
 simp only [elemsA, h, Nat.zero_add, Nat.mul_one, List.drop_zero, List.take_length, h1]
 rw [if_pos ⟨Nat.le_refl _, rfl⟩, chunk1 _ _ (Nat.le_refl _), List.take_length]
theorem insAgg : AggR (fun (x : Ins) a => a = x.av) 4 := ⟨fun {x a} h => ⟨[.int x.op, .int x.a, .int x.b, .str x.n], h, rfl, rfl⟩, fun {x a} h => by subst h; simp [Ins.av, pv_agg, pvs_cons, pvs_nil, pv_v]⟩
theorem insLis : ∀ l : List Ins, LIs (fun (x : Ins) a => a = x.av) l (insA l)
 | [] => trivial
 | x :: l => ⟨rfl, insLis l⟩
theorem op_cases (op : Int) : op = 0 ∨ op = 1 ∨ op = 4 ∨ op = 6 ∨ op = 7 ∨ ((op == 0) = false ∧ (op == 1) = false ∧ (op == 4) = false ∧ (op == 6) = false ∧ (op == 7) = false) := by
 simp only [beq_eq_false_iff_ne]; omega
theorem names_law {p : Pr} {pa : AV} (hp : p.Is pa) {i j : Int} (i0 : 0 ≤ i) (i1 : i < 256) (j0 : 0 ≤ j) (j1 : j < 256) : Out md pfs2 7 [pa, .v (.int .u8 i), .v (.int .u8 j)] (· = .bool true) fun _ => False := by
 obtain ⟨gas, tg, c, rfl, h1, h2, h3, h4, h5, h6, h7, h8, h9, h10⟩ := id hp
 have hpp := prPure hp
 have hgl := h3.len
 obtain ⟨ni, rfl⟩ : ∃ n : Nat, i = n := ⟨i.toNat, by omega⟩
 obtain ⟨nj, rfl⟩ : ∃ n : Nat, j = n := ⟨j.toNat, by omega⟩
 refine out_of pf7_is (Nat.le_of_ble_eq_true rfl) ?_
 obtain ⟨_, rfl, cf⟩ := ((Few_ret hp).ext pfs_le).call rfl (by simp [pvs_cons, pvs_nil, hpp])
 obtain ⟨_, rfl, ca⟩ := awake_ret.call rfl rfl
 cases hf : p.few
 ·rw [hf] at cf
  simp only [pf7, ↓wpre, wall, simprocAttr, List.length_append, List.append_assoc, app_get_len, app_get_add, app_set_len, app_set_add, h5, h6, h10, cf, ca]
 rw [hf] at cf
 obtain ⟨v, hv, cc⟩ := (Compile_few hp hf).call rfl (by simp [pvs_cons, pvs_nil, hpp])
 rcases hv with ⟨hc, rfl⟩ | ⟨hc, a, rfl, hIs⟩
 ·have hne : (p.check != 0) = true := by simpa [bne] using hc
  simp only [pf7, ↓wpre, wall, simprocAttr, List.length_append, List.append_assoc, app_get_len, app_get_add, app_set_len, app_set_add, h5, h6, h10, cf, ca, cc, hne]
 obtain ⟨hP, n1, n2, n3, n4⟩ := few_comp hf hc
 have hg6 := (few_facts hf).2
 have hck := comp_ok hP
 have hgl2 : (compC p).gl.length = p.gs.length := by simp [compC]
 obtain ⟨hz1, hz2⟩ := cd_size hck (by omega) (by omega) (by omega)
 obtain ⟨Bs, t1, t2, t3, rfl, b1, b2, b3, b4, b5, b6, b7⟩ := id hIs
 have hBl := b1.len
 have hBn : 0 < Bs.length := by omega
 have q0 : (((Bs.length : Nat) : Int) == 0) = false := by rw [beq_eq_false_iff_ne]; omega
 have q0' : ¬ ((Bs.length : Nat) : Int) = 0 := by omega
 have wi : IntKind.i64.wrap (ni : Int) = ni := wrap_in (by unfold in64; omega)
 have wj : IntKind.i64.wrap (nj : Int) = nj := wrap_in (by unfold in64; omega)
 have hI : ni % Bs.length < Bs.length := Nat.mod_lt _ hBn
 have eI : Int.tmod (ni : Int) ((Bs.length : Nat) : Int) = ((ni % Bs.length : Nat) : Int) := rfl
 generalize ni % Bs.length = I at hI eI
 obtain ⟨b, ab, d0, _, d3, d4, ⟨tb, rfl, htb, hbl⟩⟩ := b1.at hI
 have hIl : (I : Int) < ((Bs.length : Nat) : Int) := by omega
 have hbn := check_ne hck b d3
 have hbpos : 0 < b.length := List.length_pos_iff.2 hbn
 have hbs := sum_mem (List.mem_map_of_mem (f := List.length) d3)
 have q1 : (((b.length : Nat) : Int) == 0) = false := by rw [beq_eq_false_iff_ne]; omega
 have q1' : ¬ ((b.length : Nat) : Int) = 0 := by omega
 have hJ : nj % b.length < b.length := Nat.mod_lt _ hbpos
 have eJ : Int.tmod (nj : Int) ((b.length : Nat) : Int) = ((nj % b.length : Nat) : Int) := rfl
 generalize nj % b.length = J at hJ eJ
 have hJl : (J : Int) < ((b.length : Nat) : Int) := by omega
 obtain ⟨x, x0, x4⟩ := insA_at hJ
 have hBa := blAll b1
 obtain ⟨fl1, ao1⟩ := blOne b1
 have fB := fun H V => appA_new (H := H) (V := V) (es := 1) (ag := false) (xs := Bs) (by intro e; rw [e] at hBn; simp at hBn) (by omega) ao1
 have fI := fun H V => appA_new (H := H) (V := V) (es := 4) (ag := true) (xs := insA b) (insA_ne hbn) (by rw [insA_len]; omega) (insOne b)
 rw [fl1] at fB
 rw [insA_len] at fI
 obtain ⟨g1, g2, g3⟩ := flatIn_set x0 1000000
 have s1 : Bs.take I ++ AV.bs 3 0 b.length 4 true :: Bs.drop (I + 1) = Bs.set I (.bs 3 0 b.length 4 true) := by rw [List.set_eq_take_append_cons_drop, if_pos hI]
 have s2 : (List.drop I (Bs.set I (AV.bs 3 0 b.length 4 true))).head? = some (.bs 3 0 b.length 4 true) := by rw [List.head?_drop, List.getElem?_set, if_pos rfl, if_pos hI]
 have s3 : I + 1 ≤ Bs.length := hI
 have s4 : 4 ≤ (List.drop (J * 4) (flat (insA b))).length := by rw [List.length_drop]; omega
 have s5 : J * 4 + 1 + 1 ≤ (flat (insA b)).length := by omega
 generalize hb' : b.set J { op := x.op, a := 1000000, b := x.b, n := x.n } = b' at g1
 have hbl' : b'.length = b.length := by rw [← hb', List.length_set]
 obtain ⟨S5, hS5⟩ : ∃ S5 : ASt, S5 = ⟨[.cells false (.sl gas tg :: c), .cells false [.sl Bs t1, .sl (nmA (compC p).gl) t2, .sl (ints (compC p).st) t3], .cells false (Bs.set I (.bs 3 0 b.length 4 true)), .cells false (flat (insA b')), .cells false [.int x.op, .int x.a, .int x.b, .str x.n], .cells false [.bs 2 0 Bs.length 1 false, .sl (nmA (compC p).gl) t2, .sl (ints (compC p).st) t3]], []⟩ := ⟨_, rfl⟩
 have u3 : purify 18 S5 (.bs 3 0 b.length 4 true) = some (.sl (insA b') .al) := purify_bs insAgg (n := 16) (insLis b') (fz := false) (by rw [hS5]; rfl) (by rw [insA_len, hbl'])
 have u4 : elemsA S5 (.bs 2 0 Bs.length 1 false) = some (Bs.set I (.bs 3 0 b.length 4 true)) := by
  have e := elems_one (s := S5) (q := 2) (fz := false) (L := Bs.set I (.bs 3 0 b.length 4 true)) (by rw [hS5]; rfl) (List.all_eq_true.2 fun y hy => by
   rcases List.mem_or_eq_of_mem_set hy with h | rfl
   ·obtain ⟨q, hq⟩ := List.mem_iff_getElem?.1 h
    obtain ⟨_, a, _, _, _, e4, ⟨t, rfl, _⟩⟩ := b1.at (i := q) (List.getElem?_eq_some_iff.1 hq).1
    rw [hq] at e4; cases e4; rfl
   ·rfl)
  rwa [List.length_set] at e
 have u5 : mapO (atCells (purify 18 S5)) (Bs.set I (.bs 3 0 b.length 4 true)) = some (Bs.set I (.sl (insA b') .al)) := mapO_set (f := atCells (purify 18 S5)) (show atCells (purify 18 S5) (.bs 3 0 b.length 4 true) = _ from u3) I (mapO_at (blsPure b1))
 have u6 : mapO (purify 20 S5) [.agg [.bs 2 0 Bs.length 1 false, .sl (nmA (compC p).gl) t2, .sl (ints (compC p).st) t3]] = some [.agg [.sl (Bs.set I (.sl (insA b') .al)) .al, .sl (nmA (compC p).gl) t2, .sl (ints (compC p).st) t3]] := by
  simp only [mapO, pz_agg, pz_bs, u4, u5, Option.bind_some, Option.map_some, purify_pure (n := 18) (show pureAV (.sl (nmA (compC p).gl) t2) = true by simp [pv_sl, b3, nmPure]), purify_pure (n := 18) (show pureAV (.sl (ints (compC p).st) t3) = true by simp [pv_sl, b4, ints_pure])]
 have hbig := comp_big hP d0 x0 (by omega) (by omega)
 have hbb : b.set J (big x) = b' := hb'
 rw [hbb] at hbig
 have hbi : (b'.length) ≤ lenB := by rw [hbl']; exact hbl
 have hIs' : (Cd.mk ((compC p).bl.set I b') (compC p).gl (compC p).st).Is (.agg [.sl (Bs.set I (.sl (insA b') .al)) .al, .sl (nmA (compC p).gl) t2, .sl (ints (compC p).st) t3]) :=
  ⟨_, _, _, _, rfl, lisSet (x := b') (a := .sl (insA b') .al) ⟨.al, rfl, rfl, hbi⟩ I b1, rfl, b3, b4, by rw [List.length_set]; exact b5, b6, b7⟩
 have hms : ((compC p).bl.set I b').map List.length = (compC p).bl.map List.length := by
  rw [List.map_set, hbl']
  exact sum_set _ _ (by rw [List.getElem?_map, d0]; rfl)
 have hnm' : ∀ l ∈ (compC p).bl.set I b', ∀ y ∈ l, y.n.size ≤ lenB := fun l hl y hy => by
  rcases List.mem_or_eq_of_mem_set hl with h | rfl
  ·exact hz2 l h y hy
  ·rw [← hb'] at hy
   rcases List.mem_or_eq_of_mem_set hy with h | rfl
   ·exact hz2 b d3 y h
   ·exact hz2 b d3 x (List.mem_of_getElem? x0)
 obtain ⟨_, rfl, ck⟩ := ((code_ret hIs' hz1 hnm' (by rw [List.length_set]; omega) (by rw [hms]; omega)).ext pfs_le).callP rfl (s := S5) (args := [.agg [.bs 2 0 Bs.length 1 false, .sl (nmA (compC p).gl) t2, .sl (ints (compC p).st) t3]]) u6
 rw [hbig] at ck
 have hfz := fold_le (frz_le 20) [.agg [.bs 2 0 Bs.length 1 false, .sl (nmA (compC p).gl) t2, .sl (ints (compC p).st) t3]] S5
 obtain ⟨fz, hx4, _⟩ := hfz.hcells 4 false [.int x.op, .int x.a, .int x.b, .str x.n] (by rw [hS5]; rfl)
 generalize List.foldl (frz 20) S5 [.agg [.bs 2 0 Bs.length 1 false, .sl (nmA (compC p).gl) t2, .sl (ints (compC p).st) t3]] = S6 at ck hx4
 rw [hS5] at ck
 obtain ⟨H6, V6⟩ := S6
 replace hx4 : H6[4]? = some (.cells fz [.int x.op, .int x.a, .int x.b, .str x.n]) := hx4
 obtain ⟨op, hop⟩ : ∃ op, op = x.op := ⟨_, rfl⟩
 rw [← hop] at hx4
 obtain ⟨z, hz⟩ : ∃ z, z = errN x.op := ⟨_, rfl⟩
 rw [← hz] at ck
 rw [← hop] at hz
 clear hfz u6 u5 u4 u3 hIs' hbig hms hnm' hS5
 have hxo := op_cases op
 clear hop
 rcases hxo with h | h | h | h | h | ⟨o0, o1, o4, o6, o7⟩
 ·rw [h] at hx4 hz
  replace hz : z = 24 := hz
  simp only [pf7, ↓wpre, wall, simprocAttr, List.length_append, List.append_assoc, app_get_len, app_get_add, app_set_len, app_set_add, h5, h6, h10, cf, ca, cc, q0, q0', wi, wj, eI, eJ, hBa, d4, hIl, hJl, insA_len, q1, q1', fB, fI, insA_all, Nat.mul_one, s1, s2, s3, s4, s5, g1, g2, g3, ck, hx4, hz]
 ·rw [h] at hx4 hz
  replace hz : z = 2 := hz
  simp only [pf7, ↓wpre, wall, simprocAttr, List.length_append, List.append_assoc, app_get_len, app_get_add, app_set_len, app_set_add, h5, h6, h10, cf, ca, cc, q0, q0', wi, wj, eI, eJ, hBa, d4, hIl, hJl, insA_len, q1, q1', fB, fI, insA_all, Nat.mul_one, s1, s2, s3, s4, s5, g1, g2, g3, ck, hx4, hz]
 ·rw [h] at hx4 hz
  replace hz : z = 2 := hz
  simp only [pf7, ↓wpre, wall, simprocAttr, List.length_append, List.append_assoc, app_get_len, app_get_add, app_set_len, app_set_add, h5, h6, h10, cf, ca, cc, q0, q0', wi, wj, eI, eJ, hBa, d4, hIl, hJl, insA_len, q1, q1', fB, fI, insA_all, Nat.mul_one, s1, s2, s3, s4, s5, g1, g2, g3, ck, hx4, hz]
 ·rw [h] at hx4 hz
  replace hz : z = 2 := hz
  simp only [pf7, ↓wpre, wall, simprocAttr, List.length_append, List.append_assoc, app_get_len, app_get_add, app_set_len, app_set_add, h5, h6, h10, cf, ca, cc, q0, q0', wi, wj, eI, eJ, hBa, d4, hIl, hJl, insA_len, q1, q1', fB, fI, insA_all, Nat.mul_one, s1, s2, s3, s4, s5, g1, g2, g3, ck, hx4, hz]
 ·rw [h] at hx4 hz
  replace hz : z = 2 := hz
  simp only [pf7, ↓wpre, wall, simprocAttr, List.length_append, List.append_assoc, app_get_len, app_get_add, app_set_len, app_set_add, h5, h6, h10, cf, ca, cc, q0, q0', wi, wj, eI, eJ, hBa, d4, hIl, hJl, insA_len, q1, q1', fB, fI, insA_all, Nat.mul_one, s1, s2, s3, s4, s5, g1, g2, g3, ck, hx4, hz]
 ·replace hz : z = 3 := by
   rw [hz, errN, if_neg (ne_of_beq_false o0), if_neg]
   rintro (h | h | h | h)
   ·exact ne_of_beq_false o1 h
   ·exact ne_of_beq_false o4 h
   ·exact ne_of_beq_false o6 h
   ·exact ne_of_beq_false o7 h
  simp only [pf7, ↓wpre, wall, simprocAttr, List.length_append, List.append_assoc, app_get_len, app_get_add, app_set_len, app_set_add, h5, h6, h10, cf, ca, cc, q0, q0', wi, wj, eI, eJ, hBa, d4, hIl, hJl, insA_len, q1, q1', fB, fI, insA_all, Nat.mul_one, s1, s2, s3, s4, s5, g1, g2, g3, ck, hx4, hz, o0, o1, o4, o6, o7]
end Go.Proofs.Eng
