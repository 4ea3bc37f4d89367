/- What the rows' list of laid variables gives. No conditions beyond those in the theorems. -/
import Derived.Test.YtnipefcppecalaaDoorT9
import Derived.Test.YtnipefcppecalaaDoorG5
import Derived.Test.YtnipefcppecalaaDoorG4
import Derived.Test.YtnipefcppecalaaDoorRows
import Derived.Lib.LaidTab
import Derived.Lay
import Derived.MakeChecks
import Derived.ProofKit
set_option linter.all false
set_option linter.deprecated false
set_option linter.unnecessarySimpa false
set_option linter.unusedVariables false
set_option linter.unusedSimpArgs false
set_option linter.defProp false
namespace Go.Proofs.Eng
open Go Go.Proofs
set_option maxRecDepth 100000
theorem numT_len {n : Int} (h : in64 n) : (bL (numT n)).length ≤ 21 := by rw [bL_len]; exact numT_size h
theorem opName_len (k : Nat) : (opNames.getD k ⟨#[]⟩).size ≤ 6 := by
 rcases Nat.lt_or_ge k 15 with h | h
 ·exact opName_size k h
 ·have : opNames[k]? = none := List.getElem?_eq_none (by exact h)
  rw [List.getD, this]; decide
theorem lineT_len {x : Ins} (h : InsB x) : (bL (lineT x)).length ≤ 130 := by
 obtain ⟨h1, h2, h3, h4, h5⟩ := h
 have ha := numT_size (n := x.a) (by unfold in64; omega)
 have hb := numT_size (n := x.b) (by unfold in64; omega)
 have ho := opName_len x.op.toNat
 rw [bL_len]
 have z1 : (⟨#[32]⟩ : ByteArray).size = 1 := rfl
 have z2 : (⟨#[32, 32]⟩ : ByteArray).size = 2 := rfl
 have z3 : (⟨#[10]⟩ : ByteArray).size = 1 := rfl
 unfold lineT
 cases usesA x.op <;> cases usesB x.op <;> cases usesN x.op <;> simp only [Bool.false_eq_true, if_false, if_true, ByteArray.size_append, z1, z2, z3] <;> omega
theorem bodyT_len : ∀ {l : List Ins}, (∀ x ∈ l, InsB x) → (bodyT l).length ≤ 130 * l.length
 | [], _ => by simp [bodyT]
 | x :: l, h => by
  have h1 := lineT_len (h x (by simp))
  have h2 := bodyT_len (l := l) fun y hy => h y (by simp [hy])
  rw [bodyT] at h2 ⊢
  rw [List.flatMap_cons, List.length_append, List.length_cons]; omega
theorem gnT_len {c : Cd} (h : ∀ g ∈ c.gl, g.size ≤ 64) (n : Nat) : (gnT c n).length ≤ 65 := by
 unfold gnT
 split
 ·simp
 ·rename_i j _
  rw [bL_len, ByteArray.size_append, List.getD]
  have z1 : (⟨#[32]⟩ : ByteArray).size = 1 := rfl
  cases hg : c.gl[j]? with
  | none => simp only [Option.getD_none]; rw [z1]; decide
  | some g => have := h g (List.mem_of_getElem? hg); simp only [Option.getD_some]; omega
theorem textTo_len {c : Cd} (hg : ∀ g ∈ c.gl, g.size ≤ 64) (hi : ∀ b ∈ c.bl, ∀ x ∈ b, InsB x) : ∀ n, n ≤ 1000000 → n ≤ c.bl.length → (textTo c n).length ≤ 100 * n + 130 * ((c.bl.map List.length).take n).sum
 | 0, _, _ => by simp [textTo]
 | n + 1, h1, h2 => by
  have ih := textTo_len hg hi n (by omega) (by omega)
  have hn := numT_len (n := (n : Int)) (by unfold in64; omega)
  have hgn := gnT_len hg n
  have hx : c.bl[n]? = some c.bl[n] := List.getElem?_eq_getElem (by omega)
  generalize c.bl[n] = l at hx
  have hgd : c.bl.getD n [] = l := by rw [List.getD, hx]; rfl
  have hb := bodyT_len (hi l (List.mem_of_getElem? hx))
  have htk : ((c.bl.map List.length).take (n + 1)).sum = ((c.bl.map List.length).take n).sum + l.length := by
   rw [List.take_add_one, List.getElem?_map, hx]; simp
  have z0 : (bL str1).length = 6 := rfl
  have z1 : (bL ⟨#[58]⟩).length = 1 := rfl
  have z2 : (bL ⟨#[10]⟩).length = 1 := rfl
  rw [textTo, hgd, htk, headT, bL_app, bL_app]
  simp only [List.length_append]
  omega
theorem inB_of {n : Int} (h0 : 0 ≤ n) (h1 : n ≤ 2000000000000000000) : inB n = true := by
 unfold inB
 rw [decide_eq_true (by omega), decide_eq_true (by omega)]; rfl
theorem okCd_of {c : Cd} (h : c.check = 0) (h1 : c.bl.length ≤ 900000) (h2 : (c.bl.map List.length).sum ≤ 1000000) (h3 : c.gl.length ≤ 1000000) : okCd c = true := by
 obtain ⟨hi, hne, hg, hst⟩ := check_ins h (by omega) (by omega) (by omega)
 have ht := textTo_len hg hi c.bl.length (by omega) (Nat.le_refl _)
 have hsum := sum_take (c.bl.map List.length) c.bl.length
 simp only [okCd, Bool.and_eq_true, decide_eq_true_eq, List.all_eq_true]
 refine ⟨⟨⟨⟨⟨⟨h1, by omega⟩, fun l hl => ⟨?_, fun x hx => ?_⟩⟩, fun g hg' => ?_⟩, h3⟩, by omega⟩, by rw [textL]; omega⟩
 ·have := sum_mem (List.mem_map_of_mem (f := List.length) hl)
  omega
 ·obtain ⟨a1, a2, a3, a4, a5⟩ := hi l hl x hx
  simp only [okIns, Bool.and_eq_true, decide_eq_true_eq]
  exact ⟨⟨inB_of a1 a2, inB_of a3 a4⟩, by omega⟩
 ·have := hg g hg'; omega
theorem textL_ne {c : Cd} (h : c.bl ≠ []) : textL c ≠ [] := by
 rw [textL]
 cases hb : c.bl with
 | nil => exact absurd hb h
 | cons l r =>
  rw [List.length_cons, textTo]
  intro e
  have := congrArg List.length e
  simp only [List.length_append, List.length_nil, headT, bL_app] at this
  have z0 : (bL str1).length = 6 := rfl
  omega
mutual
theorem small_bd : ∀ (e : Ex) {nd dp m : Int}, 0 ≤ nd → nd ≤ 60 → 0 ≤ dp → dp ≤ 60 → e.small nd dp = some m → 0 ≤ m ∧ m ≤ nd ∧ (e.nb : Int) ≤ 41 * (nd - m) ∧ (e.ni : Int) ≤ 82 * (nd - m) ∧ (e.dep : Int) ≤ dp
 | .mk k i n s kids, nd, dp, m, h1, h2, h3, h4, h => by
  rw [Ex.small] at h
  split at h
  ·cases h
  rename_i c1
  split at h
  ·cases h
  rename_i c2
  split at h
  ·cases h
  split at h
  ·cases h
  rename_i c4
  simp only [decide_eq_true_eq] at c1 c2 c4
  rw [w64_in (by unfold B62; omega) (by unfold B62; omega), w64_in (by unfold B62; omega) (by unfold B62; omega)] at h
  obtain ⟨g1, g2, g3, g4, g5⟩ := smallL_bd kids (nd := nd - 1) (dp := dp - 1) (by omega) (by omega) (by omega) (by omega) h
  rw [Ex.nb, Ex.ni, Ex.dep]
  refine ⟨g1, by omega, ?_, ?_, by omega⟩
  ·split
   ·omega
   ·split <;> omega
  ·split
   ·omega
   ·split
    ·omega
    ·split <;> omega
theorem smallL_bd : ∀ (l : List Ex) {nd dp m : Int}, 0 ≤ nd → nd ≤ 60 → 0 ≤ dp → dp ≤ 60 → smallL dp nd l = some m → 0 ≤ m ∧ m ≤ nd ∧ (nbL l : Int) ≤ 41 * (nd - m) ∧ (niL l : Int) ≤ 82 * (nd - m) ∧ (depL l : Int) ≤ dp
 | [], nd, dp, m, h1, h2, h3, h4, h => by
  rw [smallL] at h
  simp only [Option.some.injEq] at h; subst h
  rw [nbL, niL, depL]
  refine ⟨h1, Int.le_refl _, by omega, by omega, by omega⟩
 | e :: l, nd, dp, m, h1, h2, h3, h4, h => by
  rw [smallL] at h
  cases he : Ex.small nd dp e with
  | none => rw [he] at h; cases h
  | some m1 =>
   rw [he] at h
   obtain ⟨a1, a2, a3, a4, a5⟩ := small_bd e h1 h2 h3 h4 he
   obtain ⟨b1, b2, b3, b4, b5⟩ := smallL_bd l a1 (by omega) h3 h4 h
   rw [nbL, niL, depL]
   refine ⟨b1, by omega, by omega, by omega, by omega⟩
end
theorem decF {p : Prop} {d : Decidable p} (h : ¬ p) : @decide p d = false := decide_eq_false h
theorem whole_err {gl : ByteArray → Bool} {e : Ex} (h : e.whole gl = 0) : e.err gl 0 = 0 := by
 unfold Ex.whole at h
 split at h
 ·exact h
 ·rename_i h1; simpa [bne] using h1
theorem go_ok (p : Pr) : ∀ (gs prev : List Gl), p.go prev gs = 0 → (∀ g ∈ gs, isName g.1 = true ∧ g.2.err p.gl 0 = 0) ∧ twice (prev.map (·.1)) (gs.map (·.1)) = false ∧ p.main.err p.gl 0 = 0
 | [], prev, h => by rw [Pr.go] at h; exact ⟨fun g hg => (by cases hg), rfl, whole_err h⟩
 | g :: gs, prev, h => by
  rw [Pr.go] at h
  split at h
  ·omega
  rename_i h1
  split at h
  ·omega
  rename_i h2
  split at h
  ·rename_i h3
   rw [h] at h3; simp at h3
  rename_i h3
  obtain ⟨a1, a2, a3⟩ := go_ok p gs (prev ++ [g]) h
  refine ⟨fun g' hg' => ?_, ?_, a3⟩
  ·rcases List.mem_cons.1 hg' with rfl | hg'
   ·exact ⟨by simpa using h1, whole_err (by simpa [bne] using h3)⟩
   ·exact a1 g' hg'
  ·rw [List.map_cons, twice]
   have hm : ¬ (g.1 ∈ prev.map (·.1)) := fun hm => by
    obtain ⟨x, hx, e⟩ := List.mem_map.1 hm
    exact h2 (List.any_eq_true.2 ⟨x, hx, decide_eq_true e⟩)
   rw [Bool.or_eq_false_iff]
   rw [List.map_append] at a2
   exact ⟨decF hm, a2⟩
theorem few_facts {p : Pr} (h : p.few = true) : (∀ e ∈ p.es, ∃ m, e.small 60 60 = some m) ∧ p.gs.length ≤ 6 := by
 unfold Pr.few at h
 simp only [Bool.and_eq_true, decide_eq_true_eq, List.all_eq_true] at h
 obtain ⟨⟨h1, h2⟩, h3⟩ := h
 refine ⟨fun e he => ?_, by omega⟩
 rcases List.mem_cons.1 he with rfl | he
 ·exact Option.isSome_iff_exists.1 h1
 ·obtain ⟨g, hg, rfl⟩ := List.mem_map.1 he
  have := h2 g hg
  unfold Gl.few at this
  simp only [Bool.and_eq_true] at this
  exact Option.isSome_iff_exists.1 this.1
theorem few_dep {p : Pr} (h : p.few = true) {e : Ex} (he : e ∈ p.es) : e.dep ≤ 60 ∧ e.nb ≤ 2460 ∧ e.ni ≤ 4920 := by
 obtain ⟨m, hm⟩ := (few_facts h).1 e he
 obtain ⟨a1, a2, a3, a4, a5⟩ := small_bd e (by omega) (by omega) (by omega) (by omega) hm
 omega
theorem nbL_le : ∀ {l : List Ex} {a b : Nat}, (∀ e ∈ l, e.nb ≤ a ∧ e.ni ≤ b) → nbL l ≤ a * l.length ∧ niL l ≤ b * l.length
 | [], a, b, _ => by simp [nbL, niL]
 | x :: l, a, b, h => by
  have h1 := h x (by simp)
  have h2 := nbL_le (l := l) (a := a) (b := b) fun e he => h e (by simp [he])
  rw [nbL, niL, List.length_cons, Nat.mul_add, Nat.mul_add]; omega
theorem few_sum {p : Pr} (h : p.few = true) : nbL p.es ≤ 17220 ∧ niL p.es ≤ 34440 := by
 have h1 := nbL_le (l := p.es) (a := 2460) (b := 4920) fun e he => (few_dep h he).2
 have h2 := (few_facts h).2
 rw [es_len] at h1
 have : 2460 * (p.gs.length + 1) ≤ 2460 * 7 := Nat.mul_le_mul_left _ (by omega)
 have : 4920 * (p.gs.length + 1) ≤ 4920 * 7 := Nat.mul_le_mul_left _ (by omega)
 omega
theorem few_ok {p : Pr} (h : p.few = true) (hc : p.check = 0) : PrOK p 3840 := by
 unfold Pr.check at hc
 split at hc
 ·omega
 obtain ⟨a1, a2, a3⟩ := go_ok p p.gs [] hc
 have hd : ∀ e ∈ p.es, (0 : Int) + 64 * e.dep ≤ 3840 := fun e he => by have := (few_dep h he).1; omega
 refine ⟨⟨a3, Int.le_refl _, hd p.main (by simp [Pr.es])⟩, fun g hg => ⟨(a1 g hg).1, (a1 g hg).2, Int.le_refl _, hd g.2 ?_⟩, a2, by unfold B62; omega⟩
 exact List.mem_cons_of_mem _ (List.mem_map_of_mem hg)
theorem few_comp {p : Pr} (h : p.few = true) (hc : p.check = 0) : PrOK p 3840 ∧ (compC p).bl.length = p.gs.length + 1 + nbL p.es ∧ ((compC p).bl.map List.length).sum = p.gs.length + 1 + niL p.es ∧ (compC p).bl.length ≤ 20000 ∧ ((compC p).bl.map List.length).sum ≤ 40000 := by
 have hP := few_ok h hc
 have h1 := comp_cnt hP
 have h2 := few_sum h
 have h3 := (few_facts h).2
 exact ⟨hP, h1.1, h1.2, by omega, by omega⟩
theorem Compile_few {p : Pr} {pa : AV} (hp : p.Is pa) (h : p.few = true) : Out md pfs2 15 [pa] (fun v => (p.check ≠ 0 ∧ v = .tup [.agg [.sl [] .nil, .sl [] .nil, .sl [] .nil], .int p.check]) ∨ (p.check = 0 ∧ ∃ a, v = .tup [a, .int 0] ∧ (compC p).Is a)) fun _ => False :=
 (Compile_ret hp (B := 3840) fun hc => by
  obtain ⟨a, _, _, b, c⟩ := few_comp h hc
  have : capB = 1073741824 := rfl
  exact ⟨a, by omega, by omega⟩).ext pfs_le
theorem cd_size {c : Cd} (h : c.check = 0) (h1 : c.bl.length ≤ 1000000) (h2 : (c.bl.map List.length).sum ≤ 1000000) (h3 : c.gl.length ≤ 1000000) : (∀ g ∈ c.gl, g.size ≤ lenB) ∧ (∀ b ∈ c.bl, ∀ x ∈ b, x.n.size ≤ lenB) := by
 obtain ⟨hi, _, hg, _⟩ := check_ins h (by omega) (by omega) (by omega)
 have : lenB = 9223372036854775807 := rfl
 exact ⟨fun g hg' => by have := hg g hg'; omega, fun b hb x hx => by have := (hi b hb x hx).2.2.2.2; omega⟩
theorem mapO_of {α : Type} {f : AV → Option α} {R : α → AV → Prop} (hf : ∀ x a, R x a → f a = some x) : ∀ {l : List α} {al : List AV}, LIs R l al → mapO f al = some l
 | [], [], _ => rfl
 | [], _ :: _, h => h.elim
 | _ :: _, [], h => h.elim
 | x :: l, a :: al, ⟨h1, h2⟩ => by rw [mapO, hf x a h1, mapO_of hf h2]
theorem ins_of : ∀ (l : List Ins), mapO insOf (insA l) = some l
 | [] => rfl
 | x :: l => by
  have := ins_of l
  rw [insA] at this ⊢
  rw [List.map_cons, mapO, this]; rfl
theorem nm_of : ∀ (l : List ByteArray), mapO strOf (nmA l) = some l
 | [] => rfl
 | x :: l => by
  have := nm_of l
  rw [nmA] at this ⊢
  rw [List.map_cons, mapO, this]; rfl
theorem int_of : ∀ (l : List Int), mapO intOf (ints l) = some l
 | [] => rfl
 | x :: l => by
  have := int_of l
  rw [ints] at this ⊢
  rw [List.map_cons, mapO, this]; rfl
theorem cdOf_of {c : Cd} {a : AV} (h : c.Is a) : cdOf a = some c := by
 obtain ⟨Bs, t1, t2, t3, rfl, g1, g2, g3, g4, _⟩ := h
 have h1 : mapO blOf Bs = some c.bl := mapO_of (R := blIs) (fun l a ⟨t, e, ht, _⟩ => by rw [e, blOf, if_pos ht, ins_of]) g1
 rw [cdOf, if_pos ⟨g2, g3, g4⟩, h1, nm_of, int_of]
theorem Text_out {c : Cd} {a : AV} (h : cdOf a = some c) (hok : okCd c = true) : Out md pfs2 12 [a] (· = .str (if c.check = 0 then ⟨(textL c).toArray⟩ else ⟨#[]⟩)) fun _ => False := by
 have := run_ora (md := md) (pfs := pfs2) (f := 12) (pf := ⟨0, [], .ora textO⟩) (by simp [pfs2]) rfl (args := [a]) (v := .str (if c.check = 0 then ⟨(textL c).toArray⟩ else ⟨#[]⟩)) (s := ⟨[], []⟩) (s' := ⟨[], []⟩) (by
  simp only [textO, h]
  rw [if_pos hok])
 exact ⟨_, _, .ret _, this, rfl, rfl⟩
set_option maxHeartbeats 16000000
theorem pf2 {f : Nat} {pf : PF} (h : pfs f = some pf) : pfs2 f = some pf := pfs_le f pf h
theorem cells3 : 0 < Tryd.prog.cellsOf 3 := by rw [show Tryd.prog.cellsOf 3 = 1 from by kernel_rfl]; decide
theorem cells36 : 0 < Tryd.prog.cellsOf 36 := by rw [show Tryd.prog.cellsOf 36 = 5 from by kernel_rfl]; decide
theorem cells45 : 0 < Tryd.prog.cellsOf 45 := by rw [show Tryd.prog.cellsOf 45 = 6 from by kernel_rfl]; decide
theorem oft_int {n : Nat} {l : List AV} (h : OfT Tryd.prog n 3 l) : ∃ i, l = [.int i] ∧ in64 i := by
 cases n with
 | zero => exact h.elim
 | succ n =>
  simp only [OfT, Tryd.underlying3] at h
  obtain ⟨i, rfl, hw⟩ := h
  refine ⟨i, rfl, ?_⟩
  unfold in64
  simp [Lit.wf, IntKind.min, IntKind.max, IntKind.signed, IntKind.bits] at hw
  omega
theorem oft_str {n : Nat} {l : List AV} (h : OfT Tryd.prog n 9 l) : ∃ s, l = [.str s] ∧ s.size ≤ lenB := by
 cases n with
 | zero => exact h.elim
 | succ n =>
  simp only [OfT, Tryd.underlying9] at h
  obtain ⟨s, rfl, hw⟩ := h
  exact ⟨s, rfl, by unfold lenB; simpa [maxLen] using hw⟩
theorem oft_slice {α : Type} {R : α → AV → Prop} {n : Nat} {t e : TypeId} {l : List AV} (hu : Tryd.prog.underlying t = some (.slice e)) (hc : 0 < Tryd.prog.cellsOf e) (hR : ∀ n l, OfT Tryd.prog n e l → ∃ x, R x (mkE (isAgg Tryd.prog e) l)) (h : OfT Tryd.prog n t l) : ∃ (xs : List α) (al : List AV) (tl : Tl), l = [.sl al tl] ∧ LIs R xs al ∧ tl.pure = true ∧ al.length ≤ lenB := by
 cases n with
 | zero => exact h.elim
 | succ n =>
  simp only [OfT, hu, if_pos hc] at h
  obtain ⟨xs, tl, rfl, h1, h2, h3⟩ := h
  have key : ∀ xs : List (List AV), (∀ x ∈ xs, OfT Tryd.prog n e x) → ∃ ys : List α, LIs R ys (xs.map (mkE (isAgg Tryd.prog e))) := by
   intro xs
   induction xs with
   | nil => intro _; exact ⟨[], trivial⟩
   | cons x xs ih =>
    intro h
    obtain ⟨y, hy⟩ := hR n x (h x (by simp))
    obtain ⟨ys, hys⟩ := ih fun z hz => h z (by simp [hz])
    exact ⟨y :: ys, hy, hys⟩
  obtain ⟨ys, hys⟩ := key xs h3
  refine ⟨ys, _, tl, rfl, hys, ?_, by rw [List.length_map]; unfold lenB; simpa [maxLen] using h2⟩
  rcases h1 with rfl | ⟨rfl, _⟩ <;> rfl
theorem oft_ints {n : Nat} {l : List AV} (h : OfT Tryd.prog n 24 l) : ∃ s tl, l = [.sl (ints s) tl] ∧ tl.pure = true ∧ s.length ≤ lenB := by
 obtain ⟨xs, al, tl, rfl, h1, h2, h3⟩ := oft_slice (R := fun (i : Int) a => a = .int i) Tryd.underlying24 cells3 (fun n l h => by
  obtain ⟨i, rfl, _⟩ := oft_int h
  exact ⟨i, by rw [show isAgg Tryd.prog 3 = false from by kernel_rfl]; rfl⟩) h
 have : ∀ {xs : List Int} {al : List AV}, LIs (fun (i : Int) a => a = .int i) xs al → al = ints xs := by
  intro xs
  induction xs with
  | nil => intro al h; cases al with
   | nil => rfl
   | cons => exact h.elim
  | cons x xs ih => intro al h; cases al with
   | nil => exact h.elim
   | cons a al => obtain ⟨rfl, h⟩ := h; rw [ih h]; rfl
 have e := this h1
 subst e
 exact ⟨xs, tl, rfl, h2, by rw [← ints_len]; exact h3⟩
theorem five {α : Type} {l : List α} (h : l.length = 5) : ∃ a b c d e, l = [a, b, c, d, e] := by
 match l, h with
 | [a, b, c, d, e], _ => exact ⟨a, b, c, d, e, rfl⟩
theorem two {α : Type} {l : List α} (h : l.length = 2) : ∃ a b, l = [a, b] := by
 match l, h with
 | [a, b], _ => exact ⟨a, b, rfl⟩
theorem oft_ex : ∀ (n : Nat) (l : List AV), OfT Tryd.prog n 36 l → ∃ e : Ex, e.Is (.agg l)
 | 0, _, h => h.elim
 | 1, l, h => by
  simp only [OfT, Tryd.underlying36] at h
  rw [if_pos (by kernel_rfl)] at h
  obtain ⟨xs, rfl, hl, hx⟩ := h
  obtain ⟨a, b, c, d, e, rfl⟩ := five hl
  exact (hx 0 _ a rfl rfl).elim
 | n + 2, l, h => by
  unfold OfT at h
  simp only [Tryd.underlying36] at h
  rw [if_pos (by kernel_rfl)] at h
  obtain ⟨xs, rfl, hl, hx⟩ := h
  obtain ⟨a, b, c, d, e, rfl⟩ := five hl
  obtain ⟨k, rfl, _⟩ := oft_int (hx 0 _ a rfl rfl)
  obtain ⟨i, rfl, hi⟩ := oft_int (hx 1 _ b rfl rfl)
  obtain ⟨nm, rfl, hn⟩ := oft_str (hx 2 _ c rfl rfl)
  obtain ⟨s, t1, rfl, h1, hs⟩ := oft_ints (hx 3 _ d rfl rfl)
  have he : OfT Tryd.prog (n + 1) 34 e := hx 4 _ e rfl rfl
  unfold OfT at he
  simp only [Tryd.underlying34] at he
  rw [if_pos cells36] at he
  obtain ⟨ys, t2, rfl, g1, g2, g3⟩ := he
  have key : ∀ ys : List (List AV), (∀ x ∈ ys, OfT Tryd.prog n 36 x) → ∃ kids : List Ex, LIs Ex.Is kids (ys.map (mkE (isAgg Tryd.prog 36))) := by
   intro ys
   induction ys with
   | nil => intro _; exact ⟨[], trivial⟩
   | cons x xs ih =>
    intro h
    obtain ⟨y, hy⟩ := oft_ex n x (h x (by simp))
    obtain ⟨ys, hys⟩ := ih fun z hz => h z (by simp [hz])
    exact ⟨y :: ys, by rw [show isAgg Tryd.prog 36 = true from by kernel_rfl]; exact hy, hys⟩
  obtain ⟨kids, hk⟩ := key ys g3
  exact ⟨.mk k i nm s kids, Ex.Is.mk h1 (by rcases g1 with rfl | ⟨rfl, _⟩ <;> rfl) ⟨hi, hn⟩ hs (by rw [List.length_map]; unfold lenB; simpa [maxLen] using g2) hk⟩
theorem oft_gl {n : Nat} {l : List AV} (h : OfT Tryd.prog n 45 l) : ∃ g : Gl, glIs g (.agg l) := by
 cases n with
 | zero => exact h.elim
 | succ n =>
  simp only [OfT, Tryd.underlying45] at h
  rw [if_pos (by kernel_rfl)] at h
  obtain ⟨xs, rfl, hl, hx⟩ := h
  obtain ⟨a, b, rfl⟩ := two hl
  obtain ⟨nm, rfl, hn⟩ := oft_str (hx 0 _ a rfl rfl)
  obtain ⟨e, he⟩ := oft_ex n b (hx 1 _ b rfl rfl)
  refine ⟨(nm, e), b, ?_, hn, he⟩
  simp
theorem oft_pr {n : Nat} {l : List AV} (h : OfT Tryd.prog n 38 l) : ∃ p : Pr, p.Is (.agg l) := by
 cases n with
 | zero => exact h.elim
 | succ n =>
  simp only [OfT, Tryd.underlying38] at h
  rw [if_pos (by kernel_rfl)] at h
  obtain ⟨xs, rfl, hl, hx⟩ := h
  obtain ⟨a, b, rfl⟩ := two hl
  obtain ⟨gs, gas, tg, rfl, g1, g2, g3⟩ := oft_slice (R := glIs) Tryd.underlying33 cells45 (fun n l h => by
   obtain ⟨g, hg⟩ := oft_gl h
   exact ⟨g, by rw [show isAgg Tryd.prog 45 = true from by kernel_rfl]; exact hg⟩) (hx 0 _ a rfl rfl)
  obtain ⟨e, he⟩ := oft_ex n b (hx 1 _ b rfl rfl)
  obtain ⟨c, q, hl2, ho⟩ := exAgg.cells he
  cases q
  have hp := exPure _ he
  rw [pv_agg] at hp
  refine ⟨⟨gs, e⟩, gas, tg, b, by simp, g2, g3, g1, he, hl2, List.take_of_length_le (by omega), ho, hp, g1.pure fun _ _ h => glAgg.pure h, g1.all glAgg⟩
theorem purify_v_inv {n : Nat} {s : ASt} {x : AV} {y : Value} (h : purify n s x = some (.v y)) : x = .v y := by
 cases n with
 | zero => rw [purify] at h; cases h
 | succ n =>
  unfold purify at h
  split at h
  ·cases h; rfl
  ·split at h
   all_goals first
    | (cases h; done)
    | (rw [Option.map_eq_some_iff] at h; obtain ⟨_, _, h⟩ := h; cases h; done)
    | skip
   split at h
   ·split at h
    ·rw [Option.map_eq_some_iff] at h; obtain ⟨_, _, h⟩ := h; cases h
    ·cases h
   ·cases h
theorem law_true {f : FuncId} {ls : List AV} (h : Out md pfs2 f ls (· = .bool true) fun _ => False) : ∃ s', run md pfs2 f ls ⟨[], []⟩ = some (.ret (.v (.bool true)), s') := by
 obtain ⟨out, s, out', h1, h2, h3⟩ := h
 cases out' with
 | pan v => exact h3.elim
 | ret v =>
  subst h3
  cases out with
  | pan w => simp [Outc.purify] at h2
  | ret w =>
   simp only [Outc.purify, Option.map_eq_some_iff] at h2
   obtain ⟨y, h2, h3⟩ := h2
   cases h3
   exact ⟨s, by rw [h1, purify_v_inv h2]⟩
theorem accepts_law {p : Pr} {pa : AV} (hp : p.Is pa) : Out md pfs2 5 [pa] (· = .bool true) fun _ => False := by
 obtain ⟨gas, tg, c, rfl, h1, h2, h3, h4, h5, h6, h7, h8, h9, h10⟩ := id hp
 have hpp := prPure hp
 have hgl := h3.len
 refine out_of (pf2 pf5_is) (Nat.le_of_ble_eq_true rfl) ?_
 obtain ⟨_, rfl, cf⟩ := ((Few_ret hp).ext pfs_le).call rfl (by simp [pvs_cons, pvs_nil, hpp])
 obtain ⟨_, rfl, ca⟩ := awake_ret.call rfl rfl
 cases hf : p.few
 ·rw [hf] at cf
  simp only [pf5, ↓wpre, wall, simprocAttr, List.length_append, List.append_assoc, app_get_len, app_get_add, app_set_len, app_set_add, h5, h6, h10, cf, ca]
 rw [hf] at cf
 obtain ⟨v, hv, cc⟩ := (Compile_few hp hf).call rfl (by simp [pvs_cons, pvs_nil, hpp])
 rcases hv with ⟨hc, rfl⟩ | ⟨hc, a, rfl, hIs⟩
 ·have hne : (p.check != 0) = true := by simpa [bne] using hc
  have htx := Text_out (c := ⟨[], [], []⟩) (a := .agg [.sl [] .nil, .sl [] .nil, .sl [] .nil]) rfl (by rfl)
  rw [if_neg (by decide)] at htx
  obtain ⟨_, rfl, ct⟩ := htx.call rfl (by rfl)
  simp only [pf5, ↓wpre, wall, simprocAttr, List.length_append, List.append_assoc, app_get_len, app_get_add, app_set_len, app_set_add, h5, h6, h10, cf, ca, cc, hne, ct, str_eq, str_beq, decide_true]
 obtain ⟨hP, n1, n2, n3, n4⟩ := few_comp hf hc
 have hg6 := (few_facts hf).2
 have hck := comp_ok hP
 have hgl2 : (compC p).gl.length = p.gs.length := by simp [compC]
 obtain ⟨hz1, hz2⟩ := cd_size hck (by omega) (by omega) (by omega)
 obtain ⟨_, rfl, ck⟩ := ((code_ret hIs hz1 hz2 (by omega) (by omega)).ext pfs_le).call rfl (by simp [pvs_cons, pvs_nil, cdPure hIs])
 have htx := Text_out (cdOf_of hIs) (okCd_of hck (by omega) (by omega) (by omega))
 rw [if_pos hck] at htx
 obtain ⟨_, rfl, ct⟩ := htx.call rfl (by simp [pvs_cons, pvs_nil, cdPure hIs])
 rw [hck] at ck
 have hne : (compC p).bl ≠ [] := fun e => by rw [e] at n1; simp at n1; omega
 have htl := textL_ne hne
 have hd : decide ((⟨(textL (compC p)).toArray⟩ : ByteArray) = ⟨#[]⟩) = false := decide_eq_false fun e => htl (by
  have := congrArg (fun b : ByteArray => b.data.toList) e
  simpa using this)
 obtain ⟨Bs, t1, t2, t3, rfl, b1, b2, b3, b4, b5, b6, b7⟩ := hIs
 have hq : ((((compC p).gl.length : Nat) : Int) == ((gas.length : Nat) : Int)) = true := by rw [beq_iff_eq]; omega
 generalize (⟨(textL (compC p)).toArray⟩ : ByteArray) = tx at *
 simp only [pf5, ↓wpre, wall, simprocAttr, List.length_append, List.append_assoc, app_get_len, app_get_add, app_set_len, app_set_add, h5, h6, h10, cf, ca, cc, ck, ct, str_eq, str_beq, hd, nmA_len, hq]
open Go Go.Proofs Go.Proofs.YtnipefcppecalaaDoor
open Go.ChangeShapes Go.WideShapes Go.ChangeAt Go.RowKit
def laid56 : List (String × DataW Unit) := Rows.bytecodeCountsRow.laid
theorem lm_tail {P : Program} {x : String × DataW Unit} {r : List (String × DataW Unit)} {w : World} (h : laidMet P (x :: r) w) : laidMet P r w := by
 obtain ⟨n, d⟩ := x
 obtain ⟨ps, ⟨g, t, cs, fuel, p, q, _, _, _, _, hq, rfl⟩, hn, hc⟩ := h
 exact ⟨q, hq, (List.nodup_append.1 hn).2.1, fun b off hm => hc b off (List.mem_append_right _ hm)⟩
theorem kn_of {W : World} (h : laidMetH Tryd.prog laid56 W) : Kn W := by
 rw [MakeChecks.laidMetH_plain _ _ _ (by kernel_rfl)] at h
 have h2 := lm_tail (lm_tail h)
 have h3 := Lib.tabIs_of_head (name := "internal/strconv.uint64pow10") (zs := Lib.pow10Tab) (k := .u64) (g := 0) (t := 153) (e := 125) (n := 20) (by kernel_rfl) (by kernel_rfl) (by kernel_rfl) (by kernel_rfl) (by kernel_rfl) (by kernel_rfl) h2
 intro b hb
 obtain rfl : b = 0 := hb
 unfold Lib.TabIs World.var? at h3
 rw [show Tryd.prog.globalNamed "internal/strconv.uint64pow10" = some 0 from by kernel_rfl] at h3
 simp only [Option.bind_some] at h3
 split at h3
 ·rename_i cs t z hh
  simp only [Option.some.injEq] at h3
  subst h3
  exact ⟨(Array.getElem?_eq_some_iff.1 hh).1, t, z, hh⟩
 ·cases h3
theorem try_own : ownKnob Tryd.prog.godebug = none := by kernel_rfl
theorem try_laid : laidOutB Tryd.prog = true := by kernel_rfl
end Go.Proofs.Eng
