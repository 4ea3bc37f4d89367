/- The reference: the outline of a code. No conditions beyond those in the theorems. -/
import Derived.Test.YtnipefcppecalaaDoorT9
import Derived.Test.YtnipefcppecalaaDoorG5
import Derived.Test.YtnipefcppecalaaDoorG4
set_option linter.all false
set_option linter.deprecated false
set_option linter.unnecessarySimpa false
set_option linter.unusedVariables false
set_option linter.unusedSimpArgs false
set_option linter.defProp false
namespace Go.Proofs.Eng
open Go Go.Proofs
set_option maxRecDepth 100000
theorem numT_len {n : Int} (h : in64 n) : (bL (numT n)).length ≤ 21 := by rw [bL_len]; exact numT_size h
theorem opName_len (k : Nat) : (opNames.getD k ⟨#[]⟩).size ≤ 6 := by
 rcases Nat.lt_or_ge k 15 with h | h
 ·exact opName_size k h
 ·have : opNames[k]? = none := List.getElem?_eq_none (by exact h)
  rw [List.getD, this]; decide
theorem lineT_len {x : Ins} (h : InsB x) : (bL (lineT x)).length ≤ 130 := by
 obtain ⟨h1, h2, h3, h4, h5⟩ := h
 have ha := numT_size (n := x.a) (by unfold in64; omega)
 have hb := numT_size (n := x.b) (by unfold in64; omega)
 have ho := opName_len x.op.toNat
 rw [bL_len]
 have z1 : (⟨#[32]⟩ : ByteArray).size = 1 := rfl
 have z2 : (⟨#[32, 32]⟩ : ByteArray).size = 2 := rfl
 have z3 : (⟨#[10]⟩ : ByteArray).size = 1 := rfl
 unfold lineT
 cases usesA x.op <;> cases usesB x.op <;> cases usesN x.op <;> simp only [Bool.false_eq_true, if_false, if_true, ByteArray.size_append, z1, z2, z3] <;> omega
theorem bodyT_len : ∀ {l : List Ins}, (∀ x ∈ l, InsB x) → (bodyT l).length ≤ 130 * l.length
 | [], _ => by simp [bodyT]
 | x :: l, h => by
  have h1 := lineT_len (h x (by simp))
  have h2 := bodyT_len (l := l) fun y hy => h y (by simp [hy])
  rw [bodyT] at h2 ⊢
  rw [List.flatMap_cons, List.length_append, List.length_cons]; omega
theorem gnT_len {c : Cd} (h : ∀ g ∈ c.gl, g.size ≤ 64) (n : Nat) : (gnT c n).length ≤ 65 := by
 unfold gnT
 split
 ·simp
 ·rename_i j _
  rw [bL_len, ByteArray.size_append, List.getD]
  have z1 : (⟨#[32]⟩ : ByteArray).size = 1 := rfl
  cases hg : c.gl[j]? with
  | none => simp only [Option.getD_none]; rw [z1]; decide
  | some g => have := h g (List.mem_of_getElem? hg); simp only [Option.getD_some]; omega
theorem textTo_len {c : Cd} (hg : ∀ g ∈ c.gl, g.size ≤ 64) (hi : ∀ b ∈ c.bl, ∀ x ∈ b, InsB x) : ∀ n, n ≤ 1000000 → n ≤ c.bl.length → (textTo c n).length ≤ 100 * n + 130 * ((c.bl.map List.length).take n).sum
 | 0, _, _ => by simp [textTo]
 | n + 1, h1, h2 => by
  have ih := textTo_len hg hi n (by omega) (by omega)
  have hn := numT_len (n := (n : Int)) (by unfold in64; omega)
  have hgn := gnT_len hg n
  have hx : c.bl[n]? = some c.bl[n] := List.getElem?_eq_getElem (by omega)
  generalize c.bl[n] = l at hx
  have hgd : c.bl.getD n [] = l := by rw [List.getD, hx]; rfl
  have hb := bodyT_len (hi l (List.mem_of_getElem? hx))
  have htk : ((c.bl.map List.length).take (n + 1)).sum = ((c.bl.map List.length).take n).sum + l.length := by
   rw [List.take_add_one, List.getElem?_map, hx]; simp
  have z0 : (bL str1).length = 6 := rfl
  have z1 : (bL ⟨#[58]⟩).length = 1 := rfl
  have z2 : (bL ⟨#[10]⟩).length = 1 := rfl
  rw [textTo, hgd, htk, headT, bL_app, bL_app]
  simp only [List.length_append]
  omega
mutual
theorem small_bd : ∀ (e : Ex) {nd dp m : Int}, 0 ≤ nd → nd ≤ 60 → 0 ≤ dp → dp ≤ 60 → e.small nd dp = some m → 0 ≤ m ∧ m ≤ nd ∧ (e.nb : Int) ≤ 41 * (nd - m) ∧ (e.ni : Int) ≤ 82 * (nd - m) ∧ (e.dep : Int) ≤ dp
 | .mk k i n s kids, nd, dp, m, h1, h2, h3, h4, h => by
  rw [Ex.small] at h
  split at h
  ·cases h
  rename_i c1
  split at h
  ·cases h
  rename_i c2
  split at h
  ·cases h
  split at h
  ·cases h
  rename_i c4
  simp only [decide_eq_true_eq] at c1 c2 c4
  rw [w64_in (by unfold B62; omega) (by unfold B62; omega), w64_in (by unfold B62; omega) (by unfold B62; omega)] at h
  obtain ⟨g1, g2, g3, g4, g5⟩ := smallL_bd kids (nd := nd - 1) (dp := dp - 1) (by omega) (by omega) (by omega) (by omega) h
  rw [Ex.nb, Ex.ni, Ex.dep]
  refine ⟨g1, by omega, ?_, ?_, by omega⟩
  ·split
   ·omega
   ·split <;> omega
  ·split
   ·omega
   ·split
    ·omega
    ·split <;> omega
theorem smallL_bd : ∀ (l : List Ex) {nd dp m : Int}, 0 ≤ nd → nd ≤ 60 → 0 ≤ dp → dp ≤ 60 → smallL dp nd l = some m → 0 ≤ m ∧ m ≤ nd ∧ (nbL l : Int) ≤ 41 * (nd - m) ∧ (niL l : Int) ≤ 82 * (nd - m) ∧ (depL l : Int) ≤ dp
 | [], nd, dp, m, h1, h2, h3, h4, h => by
  rw [smallL] at h
  simp only [Option.some.injEq] at h; subst h
  rw [nbL, niL, depL]
  refine ⟨h1, Int.le_refl _, by omega, by omega, by omega⟩
 | e :: l, nd, dp, m, h1, h2, h3, h4, h => by
  rw [smallL] at h
  cases he : Ex.small nd dp e with
  | none => rw [he] at h; cases h
  | some m1 =>
   rw [he] at h
   obtain ⟨a1, a2, a3, a4, a5⟩ := small_bd e h1 h2 h3 h4 he
   obtain ⟨b1, b2, b3, b4, b5⟩ := smallL_bd l a1 (by omega) h3 h4 h
   rw [nbL, niL, depL]
   refine ⟨b1, by omega, by omega, by omega, by omega⟩
end
end Go.Proofs.Eng
namespace Go.Proofs.Eng
open Go Go.Proofs
set_option maxRecDepth 100000
theorem mapO_of {α : Type} {f : AV → Option α} {R : α → AV → Prop} (hf : ∀ x a, R x a → f a = some x) : ∀ {l : List α} {al : List AV}, LIs R l al → mapO f al = some l
 | [], [], _ => rfl
 | [], _ :: _, h => h.elim
 | _ :: _, [], h => h.elim
 | x :: l, a :: al, ⟨h1, h2⟩ => by rw [mapO, hf x a h1, mapO_of hf h2]
theorem ins_of : ∀ (l : List Ins), mapO insOf (insA l) = some l
 | [] => rfl
 | x :: l => by
  have := ins_of l
  rw [insA] at this ⊢
  rw [List.map_cons, mapO, this]; rfl
theorem nm_of : ∀ (l : List ByteArray), mapO strOf (nmA l) = some l
 | [] => rfl
 | x :: l => by
  have := nm_of l
  rw [nmA] at this ⊢
  rw [List.map_cons, mapO, this]; rfl
theorem int_of : ∀ (l : List Int), mapO intOf (ints l) = some l
 | [] => rfl
 | x :: l => by
  have := int_of l
  rw [ints] at this ⊢
  rw [List.map_cons, mapO, this]; rfl
theorem cdOf_of {c : Cd} {a : AV} (h : c.Is a) : cdOf a = some c := by
 obtain ⟨Bs, t1, t2, t3, rfl, g1, g2, g3, g4, _⟩ := h
 have h1 : mapO blOf Bs = some c.bl := mapO_of (R := blIs) (fun l a ⟨t, e, ht, _⟩ => by rw [e, blOf, if_pos ht, ins_of]) g1
 rw [cdOf, if_pos ⟨g2, g3, g4⟩, h1, nm_of, int_of]
theorem Text_out {c : Cd} {a : AV} (h : cdOf a = some c) (hok : okCd c = true) : Out md pfs2 12 [a] (· = .str (if c.check = 0 then ⟨(textL c).toArray⟩ else ⟨#[]⟩)) fun _ => False := by
 have := run_ora (md := md) (pfs := pfs2) (f := 12) (pf := ⟨0, [], .ora textO⟩) (by simp [pfs2]) rfl (args := [a]) (v := .str (if c.check = 0 then ⟨(textL c).toArray⟩ else ⟨#[]⟩)) (s := ⟨[], []⟩) (s' := ⟨[], []⟩) (by
  simp only [textO, h]
  rw [if_pos hok])
 exact ⟨_, _, .ret _, this, rfl, rfl⟩
end Go.Proofs.Eng
namespace Go.Proofs.Eng
open Go Go.Proofs
set_option maxRecDepth 100000
set_option maxHeartbeats 16000000
end Go.Proofs.Eng
namespace Go.Proofs.Eng
open Go Go.Proofs
set_option maxRecDepth 100000
set_option maxHeartbeats 16000000
end Go.Proofs.Eng
namespace Go.Proofs.Eng
open Go Go.Proofs
set_option maxRecDepth 100000
theorem cells3 : 0 < Tryd.prog.cellsOf 3 := by rw [show Tryd.prog.cellsOf 3 = 1 from by kernel_rfl]; decide
theorem oft_int {n : Nat} {l : List AV} (h : OfT Tryd.prog n 3 l) : ∃ i, l = [.int i] ∧ in64 i := by
 cases n with
 | zero => exact h.elim
 | succ n =>
  simp only [OfT, Tryd.underlying3] at h
  obtain ⟨i, rfl, hw⟩ := h
  refine ⟨i, rfl, ?_⟩
  unfold in64
  simp [Lit.wf, IntKind.min, IntKind.max, IntKind.signed, IntKind.bits] at hw
  omega
theorem oft_str {n : Nat} {l : List AV} (h : OfT Tryd.prog n 9 l) : ∃ s, l = [.str s] ∧ s.size ≤ lenB := by
 cases n with
 | zero => exact h.elim
 | succ n =>
  simp only [OfT, Tryd.underlying9] at h
  obtain ⟨s, rfl, hw⟩ := h
  exact ⟨s, rfl, by unfold lenB; simpa [maxLen] using hw⟩
theorem oft_slice {α : Type} {R : α → AV → Prop} {n : Nat} {t e : TypeId} {l : List AV} (hu : Tryd.prog.underlying t = some (.slice e)) (hc : 0 < Tryd.prog.cellsOf e) (hR : ∀ n l, OfT Tryd.prog n e l → ∃ x, R x (mkE (isAgg Tryd.prog e) l)) (h : OfT Tryd.prog n t l) : ∃ (xs : List α) (al : List AV) (tl : Tl), l = [.sl al tl] ∧ LIs R xs al ∧ tl.pure = true ∧ al.length ≤ lenB := by
 cases n with
 | zero => exact h.elim
 | succ n =>
  simp only [OfT, hu, if_pos hc] at h
  obtain ⟨xs, tl, rfl, h1, h2, h3⟩ := h
  have key : ∀ xs : List (List AV), (∀ x ∈ xs, OfT Tryd.prog n e x) → ∃ ys : List α, LIs R ys (xs.map (mkE (isAgg Tryd.prog e))) := by
   intro xs
   induction xs with
   | nil => intro _; exact ⟨[], trivial⟩
   | cons x xs ih =>
    intro h
    obtain ⟨y, hy⟩ := hR n x (h x (by simp))
    obtain ⟨ys, hys⟩ := ih fun z hz => h z (by simp [hz])
    exact ⟨y :: ys, hy, hys⟩
  obtain ⟨ys, hys⟩ := key xs h3
  refine ⟨ys, _, tl, rfl, hys, ?_, by rw [List.length_map]; unfold lenB; simpa [maxLen] using h2⟩
  rcases h1 with rfl | ⟨rfl, _⟩ <;> rfl
theorem oft_ints {n : Nat} {l : List AV} (h : OfT Tryd.prog n 24 l) : ∃ s tl, l = [.sl (ints s) tl] ∧ tl.pure = true ∧ s.length ≤ lenB := by
 obtain ⟨xs, al, tl, rfl, h1, h2, h3⟩ := oft_slice (R := fun (i : Int) a => a = .int i) Tryd.underlying24 cells3 (fun n l h => by
  obtain ⟨i, rfl, _⟩ := oft_int h
  exact ⟨i, by rw [show isAgg Tryd.prog 3 = false from by kernel_rfl]; rfl⟩) h
 have : ∀ {xs : List Int} {al : List AV}, LIs (fun (i : Int) a => a = .int i) xs al → al = ints xs := by
  intro xs
  induction xs with
  | nil => intro al h; cases al with
   | nil => rfl
   | cons => exact h.elim
  | cons x xs ih => intro al h; cases al with
   | nil => exact h.elim
   | cons a al => obtain ⟨rfl, h⟩ := h; rw [ih h]; rfl
 have e := this h1
 subst e
 exact ⟨xs, tl, rfl, h2, by rw [← ints_len]; exact h3⟩
theorem two {α : Type} {l : List α} (h : l.length = 2) : ∃ a b, l = [a, b] := by
 match l, h with
 | [a, b], _ => exact ⟨a, b, rfl⟩
theorem purify_v_inv {n : Nat} {s : ASt} {x : AV} {y : Value} (h : purify n s x = some (.v y)) : x = .v y := by
 cases n with
 | zero => rw [purify] at h; cases h
 | succ n =>
  unfold purify at h
  split at h
  ·cases h; rfl
  ·split at h
   all_goals first
    | (cases h; done)
    | (rw [Option.map_eq_some_iff] at h; obtain ⟨_, _, h⟩ := h; cases h; done)
    | skip
   split at h
   ·split at h
    ·rw [Option.map_eq_some_iff] at h; obtain ⟨_, _, h⟩ := h; cases h
    ·cases h
   ·cases h
theorem law_true {pfs2 : FuncId → Option PF} {f : FuncId} {ls : List AV} (h : Out md pfs2 f ls (· = .bool true) fun _ => False) : ∃ s', run md pfs2 f ls ⟨[], []⟩ = some (.ret (.v (.bool true)), s') := by
 obtain ⟨out, s, out', h1, h2, h3⟩ := h
 cases out' with
 | pan v => exact h3.elim
 | ret v =>
  subst h3
  cases out with
  | pan w => simp [Outc.purify] at h2
  | ret w =>
   simp only [Outc.purify, Option.map_eq_some_iff] at h2
   obtain ⟨y, h2, h3⟩ := h2
   cases h3
   exact ⟨s, by rw [h1, purify_v_inv h2]⟩
end Go.Proofs.Eng
namespace Go.Proofs.Eng
open Go Go.Proofs
set_option maxRecDepth 100000
set_option maxHeartbeats 16000000
theorem uses_ret (op : Int) : Out md pfs 28 [.int op] (· = .tup [.bool (usesA op), .bool (usesB op), .bool (usesN op)]) fun _ => False := by
 refine out_of pf28_is (Nat.le_of_ble_eq_true rfl) ?_
 have h : op = 0 ∨ op = 1 ∨ op = 5 ∨ op = 7 ∨ op = 6 ∨ op = 4 ∨ ((op == 0) = false ∧ (op == 1) = false ∧ (op == 5) = false ∧ (op == 7) = false ∧ (op == 6) = false ∧ (op == 4) = false) := by
  simp only [beq_eq_false_iff_ne]; omega
 rcases h with rfl | rfl | rfl | rfl | rfl | rfl | ⟨h0, h1, h5, h7, h6, h4⟩
 all_goals first
  | (simp only [pf28, ↓wpre, wall, simprocAttr, usesA, usesB, usesN]; done)
  | (simp only [pf28, ↓wpre, wall, simprocAttr, usesA, usesB, usesN]; rfl)
  | (simp only [pf28, ↓wpre, wall, simprocAttr, usesA, usesB, usesN, h0, h1, h5, h7, h6, h4]; first | done | rfl)
theorem pops_ret (x : Ins) (h0 : 0 ≤ x.op) (h1 : x.op ≤ 14) : Out md pfs 49 [x.av] (· = .tup [.int (popI x), .int (pushI x)]) fun _ => False := by
 obtain ⟨op, a, b, n⟩ := x
 simp only at h0 h1
 refine out_of pf49_is (Nat.le_of_ble_eq_true rfl) ?_
 have h : op = 0 ∨ op = 1 ∨ op = 2 ∨ op = 3 ∨ op = 4 ∨ op = 5 ∨ op = 6 ∨ op = 7 ∨ op = 8 ∨ op = 9 ∨ op = 10 ∨ op = 11 ∨ op = 12 ∨ op = 13 ∨ op = 14 := by omega
 rcases h with rfl | rfl | rfl | rfl | rfl | rfl | rfl | rfl | rfl | rfl | rfl | rfl | rfl | rfl | rfl
 all_goals
  simp only [pf49, ↓wpre, wall, simprocAttr, Ins.av, popI, pushI]
  first | done | rfl | simp
section
variable {ki si : Nat} {Bs : List AV} {t1 t2 t3 : Tl} {c : Cd} {S : List Int} {H : List AObj} {V : List Nat}
theorem rent_sh (h : KS ki si Bs t1 t2 t3 c S H) {n : Nat} {b : Int} {m : Int} (h0 : 0 ≤ b) (h1 : b < c.bl.length) :
  Sh md pfs 48 [.ptr ki 0, .int b, .int m, .int n] ⟨H, V⟩ (fun v s => match entE n S b m with | .error e => v = .int e ∧ s = ⟨H, V⟩ | .ok S' => v = .int 0 ∧ s = ⟨H.set si (.cells false (ints S')), V⟩) fun _ _ => False := by
 obtain ⟨b, rfl⟩ : ∃ k : Nat, b = k := ⟨b.toNat, by omega⟩
 have hk := h.k
 have hs := h.s
 have hlt : b < S.length := by rw [h.sl]; omega
 have hb : (List.drop b (ints S)).head? = some (.int (S.getD b 0)) := by rw [List.head?_drop]; exact ints_atD hlt
 have hbs : (b : Int) < ((ints S).length : Nat) := by rw [ints_len]; omega
 have hset := set_ints (v := m) hlt
 have hlb : (b : Int) < c.bl.length := h1
 rw [entE]
 simp only [Int.toNat_natCast]
 cases d1 : decide (S.getD b 0 ≥ 0)
 ·rw [if_neg (by simpa using d1)]
  cases d2 : decide ((b : Int) ≤ (n : Nat))
  ·rw [if_neg (by simpa using d2)]
   refine sh_of pf48_is (Nat.le_of_ble_eq_true rfl) ?_
   simp only [pf48, ↓wpre, wall, simprocAttr, List.length_append, List.append_assoc, app_get_len, app_get_add, app_set_len, app_set_add, hk, hs, Nat.mul_one, hb, hbs, hlb, d1, d2, hset]
   rw [ints_len]; omega
  ·rw [if_pos (by simpa using d2)]
   refine sh_of pf48_is (Nat.le_of_ble_eq_true rfl) ?_
   simp only [pf48, ↓wpre, wall, simprocAttr, List.length_append, List.append_assoc, app_get_len, app_get_add, app_set_len, app_set_add, hk, hs, Nat.mul_one, hb, hbs, hlb, d1, d2]
 ·rw [if_pos (by simpa using d1)]
  refine sh_of pf48_is (Nat.le_of_ble_eq_true rfl) ?_
  simp only [pf48, ↓wpre, wall, simprocAttr, List.length_append, List.append_assoc, app_get_len, app_get_add, app_set_len, app_set_add, hk, hs, Nat.mul_one, hb, hbs, hlb, d1]
end
end Go.Proofs.Eng
namespace Go.Proofs.Eng
open Go Go.Proofs
set_option maxRecDepth 100000
set_option maxHeartbeats 16000000
theorem starts_ret {c : Cd} {a : AV} (h : c.Is a) (hn : ∀ g ∈ c.gl, g.size ≤ lenB) : Out md pfs 20 [a] (· = .int c.outE) fun _ => False := by
 obtain ⟨Bs, t1, t2, t3, rfl, g1, g2, g3, g4, g5, g6, g7⟩ := id h
 have hBl := g1.len
 refine out_of pf20_is (Nat.le_of_ble_eq_true rfl) ?_
 have hR : c.outE = if c.bl = [] ∨ c.st.length ≠ c.gl.length ∨ (c.st.any fun s => decide (s < 1) || decide ((c.bl.length : Int) ≤ s)) = true ∨ twice [] c.st = true then 3 else if (c.gl.any fun g => !isName g) = true then 29 else if twice [] c.gl = true then 8 else 0 := rfl
 have hbl : c.bl = [] ↔ Bs.length = 0 := by rw [hBl]; exact ⟨fun h => by rw [h]; rfl, fun h => List.length_eq_zero_iff.1 h⟩
 cases q1 : (((Bs.length : Nat) : Int) == 0)
 case true =>
  have q1' : c.bl = [] := by rw [hbl]; have := eq_of_beq q1; omega
  rw [hR, if_pos (.inl q1')]
  simp only [pf20, ↓wpre, wall, simprocAttr, List.length_append, List.append_assoc, app_get_len, app_get_add, app_set_len, app_set_add, ints_len, nmA_len, q1]
 have q1' : ¬ c.bl = [] := by rw [hbl]; have := ne_of_beq_false q1; omega
 cases q2 : (((c.st.length : Nat) : Int) != ((c.gl.length : Nat) : Int))
 case true =>
  have q2' : c.st.length ≠ c.gl.length := by simp only [bne_iff_ne, ne_eq] at q2; omega
  rw [hR, if_pos (.inr (.inl q2'))]
  simp only [pf20, ↓wpre, wall, simprocAttr, List.length_append, List.append_assoc, app_get_len, app_get_add, app_set_len, app_set_add, ints_len, nmA_len, q1, q2]
 have q2' : c.st.length = c.gl.length := by simp only [bne_eq_false_iff_eq] at q2; omega
 simp only [pf20, ↓wpre, wall, simprocAttr, List.length_append, List.append_assoc, app_get_len, app_get_add, app_set_len, app_set_add, ints_len, nmA_len, q1, q2]
 refine W_loopE (fun i => c.st.length - i) (fun i E H T => E 1 = .ptr 0 0 ∧ E 3 = .int i ∧ i ≤ c.st.length ∧ ((c.st.take i).any fun s => decide (s < 1) || decide ((c.bl.length : Int) ≤ s)) = false ∧ twice (c.st.take i) (c.st.drop i) = twice [] c.st ∧ ∃ G, H = .cells false [.sl Bs t1, .sl (nmA c.gl) t2, .sl (ints c.st) t3] :: G) ?_ 0 ⟨rfl, rfl, Nat.zero_le _, rfl, rfl, _, rfl⟩
 rintro i E H T ⟨e1, e3, hi, hb, htw, G, rfl⟩
 rcases Nat.lt_or_ge i c.st.length with hlt | hge
 ·have hdec : decide ((i : Int) < c.st.length) = true := by simpa using hlt
  obtain ⟨x, x0, x4⟩ := ints_at hlt
  have hdr : c.st.drop i = x :: c.st.drop (i + 1) := by
   obtain ⟨h, rfl⟩ := List.getElem?_eq_some_iff.1 x0
   exact List.drop_eq_getElem_cons h
  have htk : c.st.take (i + 1) = c.st.take i ++ [x] := by rw [List.take_add_one, x0]; rfl
  have hbad : (decide (x < 1) || decide ((c.bl.length : Int) ≤ x)) = true → c.outE = 3 := fun hx => by
   rw [hR, if_pos (.inr (.inr (.inl (List.any_eq_true.2 ⟨x, List.mem_of_getElem? x0, hx⟩))))]
  cases c1 : decide (x < 1)
  case true =>
   rw [hbad (by rw [c1]; rfl)]
   simp only [↓wpre, wall, simprocAttr, List.length_append, List.append_assoc, app_get_len, app_get_add, app_set_len, app_set_add, e1, e3, hdec, x4, ints_all, ints_len, c1]
  cases c2 : decide (x ≥ ((Bs.length : Nat) : Int))
  case true =>
   rw [hbad (by rw [c1, Bool.false_or]; simp only [decide_eq_true_eq] at c2 ⊢; omega)]
   simp only [↓wpre, wall, simprocAttr, List.length_append, List.append_assoc, app_get_len, app_get_add, app_set_len, app_set_add, e1, e3, hdec, x4, ints_all, ints_len, c1, c2]
  simp only [↓wpre, wall, simprocAttr, List.length_append, List.append_assoc, app_get_len, app_get_add, app_set_len, app_set_add, e1, e3, hdec, x4, ints_all, ints_len, c1, c2]
  rw [hdr, twice, ← htk] at htw
  refine W_loopE (fun j => i - j) (fun j E H T => E 1 = .ptr 0 0 ∧ E 3 = .int i ∧ E 4 = .int j ∧ j ≤ i ∧ x ∉ c.st.take j ∧ ∃ G, H = .cells false [.sl Bs t1, .sl (nmA c.gl) t2, .sl (ints c.st) t3] :: G) ?_ 0 ⟨e1, e3, rfl, Nat.zero_le _, by simp, _, rfl⟩
  rintro j E H T ⟨e1, e3, e4, hj, hnx, G, rfl⟩
  rcases Nat.lt_or_ge j i with hlt2 | hge2
  ·have hdec2 : decide ((j : Int) < i) = true := by simpa using hlt2
   obtain ⟨y, y0, y4⟩ := ints_at (show j < c.st.length by omega)
   have htj : c.st.take (j + 1) = c.st.take j ++ [y] := by rw [List.take_add_one, y0]; rfl
   cases hxy : (y == x)
   ·have hne := ne_of_beq_false hxy
    simp only [↓wpre, wall, simprocAttr, List.length_append, List.append_assoc, app_get_len, app_get_add, app_set_len, app_set_add, e1, e3, e4, hdec2, x4, y4, ints_all, ints_len, hxy]
    exact EQ_in ⟨j + 1, by omega, e1, e3, next_ixv (by omega), by omega, by rw [htj]; simp [hnx, Ne.symm hne], _, rfl⟩
   ·have he := eq_of_beq hxy
    have hin : x ∈ c.st.take i := by
     rw [← he]
     exact List.mem_take_iff_getElem.2 ⟨j, by omega, (List.getElem?_eq_some_iff.1 y0).2⟩
    have : twice [] c.st = true := by rw [← htw, decide_eq_true hin]; rfl
    rw [hR, if_pos (.inr (.inr (.inr this)))]
    simp only [↓wpre, wall, simprocAttr, List.length_append, List.append_assoc, app_get_len, app_get_add, app_set_len, app_set_add, e1, e3, e4, hdec2, x4, y4, ints_all, ints_len, hxy]
  ·have hji : j = i := by omega
   have hdec2 : decide ((j : Int) < i) = false := by simpa using hge2
   simp only [↓wpre, wall, simprocAttr, List.length_append, List.append_assoc, app_get_len, app_get_add, app_set_len, app_set_add, e1, e3, e4, hdec2]
   rw [hji] at hnx
   have hb2 : (decide (x < 1) || decide ((c.bl.length : Int) ≤ x)) = false := by
    rw [c1, Bool.false_or]; simp only [decide_eq_false_iff_not] at c2 ⊢; omega
   exact EQ_in ⟨i + 1, by omega, e1, next_ixv (by omega), by omega, by rw [htk, List.any_append, hb]; simp only [List.any_cons, List.any_nil, hb2]; rfl, by rw [decide_eq_false hnx, Bool.false_or] at htw; exact htw, _, rfl⟩
 ·have hdec : decide ((i : Int) < c.st.length) = false := by simpa using hge
  rw [List.take_of_length_le (by omega)] at hb htw
  rw [List.drop_eq_nil_of_le (by omega), twice] at htw
  have hno : ¬ (c.bl = [] ∨ c.st.length ≠ c.gl.length ∨ (c.st.any fun s => decide (s < 1) || decide ((c.bl.length : Int) ≤ s)) = true ∨ twice [] c.st = true) := by
   rintro (h | h | h | h)
   ·exact q1' h
   ·exact h q2'
   ·rw [hb] at h; cases h
   ·rw [← htw] at h; cases h
  have hR2 : c.outE = if (c.gl.any fun g => !isName g) = true then 29 else if twice [] c.gl = true then 8 else 0 := by rw [hR, if_neg hno]
  clear hR
  simp only [↓wpre, wall, simprocAttr, List.length_append, List.append_assoc, app_get_len, app_get_add, app_set_len, app_set_add, e1, e3, hdec, ints_len]
  refine W_loopE (fun i => c.gl.length - i) (fun i E H T => E 1 = .ptr 0 0 ∧ E 5 = .int i ∧ i ≤ c.gl.length ∧ ((c.gl.take i).any fun g => !isName g) = false ∧ ∃ G, H = .cells false [.sl Bs t1, .sl (nmA c.gl) t2, .sl (ints c.st) t3] :: G) ?_ 0 ⟨e1, rfl, Nat.zero_le _, rfl, _, rfl⟩
  rintro i E H T ⟨e1, e5, hi, hnm, G, rfl⟩
  rcases Nat.lt_or_ge i c.gl.length with hlt | hge
  ·have hdec : decide ((i : Int) < c.gl.length) = true := by simpa using hlt
   obtain ⟨x, x0, x4⟩ := nmA_at hlt
   have htk : c.gl.take (i + 1) = c.gl.take i ++ [x] := by rw [List.take_add_one, x0]; rfl
   obtain ⟨_, rfl, cn⟩ := (refName_ret x (hn x (List.mem_of_getElem? x0))).call rfl (by simp [pvs_cons, pvs_nil, pv_v])
   cases hx : isName x
   ·have : (c.gl.any fun g => !isName g) = true := List.any_eq_true.2 ⟨x, List.mem_of_getElem? x0, by rw [hx]; rfl⟩
    rw [hR2, if_pos this]
    rw [hx] at cn
    simp only [↓wpre, wall, simprocAttr, List.length_append, List.append_assoc, app_get_len, app_get_add, app_set_len, app_set_add, e1, e5, hdec, x4, nmA_all, nmA_len, cn]
   ·rw [hx] at cn
    simp only [↓wpre, wall, simprocAttr, List.length_append, List.append_assoc, app_get_len, app_get_add, app_set_len, app_set_add, e1, e5, hdec, x4, nmA_all, nmA_len, cn]
    exact EQ_in ⟨i + 1, by omega, e1, next_ixv (by omega), by omega, by rw [htk, List.any_append, hnm]; simp [hx], _, rfl⟩
  ·have hdec : decide ((i : Int) < c.gl.length) = false := by simpa using hge
   rw [List.take_of_length_le (by omega)] at hnm
   rw [hnm] at hR2
   simp only [Bool.false_eq_true, if_false] at hR2
   simp only [↓wpre, wall, simprocAttr, List.length_append, List.append_assoc, app_get_len, app_get_add, app_set_len, app_set_add, e1, e5, hdec, nmA_len]
   refine W_loopE (fun i => c.gl.length - i) (fun i E H T => E 1 = .ptr 0 0 ∧ E 6 = .int i ∧ i ≤ c.gl.length ∧ twice (c.gl.take i) (c.gl.drop i) = twice [] c.gl ∧ ∃ G, H = .cells false [.sl Bs t1, .sl (nmA c.gl) t2, .sl (ints c.st) t3] :: G) ?_ 0 ⟨e1, rfl, Nat.zero_le _, rfl, _, rfl⟩
   rintro i E H T ⟨e1, e6, hi, htw, G, rfl⟩
   rcases Nat.lt_or_ge i c.gl.length with hlt | hge
   ·have hdec : decide ((i : Int) < c.gl.length) = true := by simpa using hlt
    obtain ⟨x, x0, x4⟩ := nmA_at hlt
    have hdr : c.gl.drop i = x :: c.gl.drop (i + 1) := by
     obtain ⟨h, rfl⟩ := List.getElem?_eq_some_iff.1 x0
     exact List.drop_eq_getElem_cons h
    have htk : c.gl.take (i + 1) = c.gl.take i ++ [x] := by rw [List.take_add_one, x0]; rfl
    rw [hdr, twice, ← htk] at htw
    obtain ⟨bx, hbx, htw⟩ := or_some htw
    simp only [↓wpre, wall, simprocAttr, List.length_append, List.append_assoc, app_get_len, app_get_add, app_set_len, app_set_add, e1, e6, hdec, nmA_len]
    refine W_loopE (fun j => i - j) (fun j E H T => E 1 = .ptr 0 0 ∧ E 6 = .int i ∧ E 7 = .int j ∧ j ≤ i ∧ x ∉ c.gl.take j ∧ ∃ G, H = .cells false [.sl Bs t1, .sl (nmA c.gl) t2, .sl (ints c.st) t3] :: G) ?_ 0 ?start
    case start => exact ⟨e1, e6, rfl, Nat.zero_le _, by simp, _, rfl⟩
    rintro j E H T ⟨e1, e6, e7, hj, hnx, G, rfl⟩
    rcases Nat.lt_or_ge j i with hlt2 | hge2
    ·have hdec2 : decide ((j : Int) < i) = true := by simpa using hlt2
     obtain ⟨y, y0, y4⟩ := nmA_at (show j < c.gl.length by omega)
     have htj : c.gl.take (j + 1) = c.gl.take j ++ [y] := by rw [List.take_add_one, y0]; rfl
     by_cases hxy : y = x
     ·have hin : x ∈ c.gl.take i := by
       rw [← hxy]
       exact List.mem_take_iff_getElem.2 ⟨j, by omega, (List.getElem?_eq_some_iff.1 y0).2⟩
      have : twice [] c.gl = true := by rw [← htw, hbx.2 hin]; rfl
      rw [hR2, if_pos this]
      have hd : decide (y = x) = true := decide_eq_true hxy
      simp only [↓wpre, wall, simprocAttr, List.length_append, List.append_assoc, app_get_len, app_get_add, app_set_len, app_set_add, e1, e6, e7, hdec2, x4, y4, nmA_all, nmA_len, str_eq, str_beq, hd]
     ·have hd : decide (y = x) = false := decide_eq_false hxy
      simp only [↓wpre, wall, simprocAttr, List.length_append, List.append_assoc, app_get_len, app_get_add, app_set_len, app_set_add, e1, e6, e7, hdec2, x4, y4, nmA_all, nmA_len, str_eq, str_beq, hd]
      exact EQ_in ⟨j + 1, by omega, e1, e6, next_ixv (by omega), by omega, by rw [htj]; simp [hnx, Ne.symm hxy], _, rfl⟩
    ·have hji : j = i := by omega
     have hdec2 : decide ((j : Int) < i) = false := by simpa using hge2
     simp only [↓wpre, wall, simprocAttr, List.length_append, List.append_assoc, app_get_len, app_get_add, app_set_len, app_set_add, e1, e6, e7, hdec2]
     rw [hji] at hnx
     have hbf : bx = false := by
      cases bx with
      | false => rfl
      | true => exact absurd (hbx.1 rfl) hnx
     rw [hbf, Bool.false_or] at htw
     exact EQ_in ⟨i + 1, by omega, e1, next_ixv (by omega), by omega, htw, _, rfl⟩
   ·have hdec : decide ((i : Int) < c.gl.length) = false := by simpa using hge
    rw [List.drop_eq_nil_of_le (by omega), twice] at htw
    rw [← htw] at hR2
    simp only [Bool.false_eq_true, if_false] at hR2
    rw [hR2]
    simp only [↓wpre, wall, simprocAttr, List.length_append, List.append_assoc, app_get_len, app_get_add, app_set_len, app_set_add, e1, e6, hdec, nmA_len]
end Go.Proofs.Eng
