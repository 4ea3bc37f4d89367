/- IndexFunc, ContainsFunc, Index, Contains of numbers, names, instructions. No conditions beyond those in the theorems. -/
import Derived.Test.YtnipefcppecalaaDoorY5
set_option linter.all false
set_option linter.deprecated false
set_option linter.unnecessarySimpa false
set_option linter.unusedVariables false
set_option linter.unusedSimpArgs false
set_option linter.defProp false
namespace Go.Proofs.Eng
open Go Go.Proofs
set_option maxRecDepth 100000
set_option maxHeartbeats 16000000
theorem Out.callV {f : FuncId} {args args' : List AV} {s : ASt} {PR : AV → Prop} (h : Out md pfs f args' PR fun _ => False) (hm : md f = .pure) (ha : mapO (purify 20 s) args = some args') : ∃ v, PR v ∧ ∀ K KP, CW (run md pfs) md false s f args K KP () = K v (args.foldl (frz 20) s) := by
 obtain ⟨out, s', out', h1, h2, h3⟩ := h
 cases out' with
 | pan v => exact h3.elim
 | ret v => exact ⟨v, h3, fun K KP => by simp [CW, callA, hm, ha, h1, h2]⟩
theorem pz_box1 {H : List AObj} {V : List Nat} {L : List AV} {f b : Nat} {fz : Bool} (h : H[b]? = some (.cells fz L)) (hp : pureAVs L = true) : purify 20 ⟨H, V⟩ (.fn f [.ptr b 0]) = some (.fn f [.ip L 0]) := by
 rw [pz_fn]; simp only [mapO, pz_ptr, h, mapO_pure hp, Nat.zero_le, if_true, Option.map_some]
theorem fr_all (m : Nat) : ∀ (l : List AV) (s : ASt), pureAVs l = true → l.foldl (frz m) s = s
 | [], s, _ => rfl
 | x :: l, s, h => by
  rw [pvs_cons, Bool.and_eq_true] at h
  rw [List.foldl_cons, fr_pure h.1, fr_all m l s h.2]
theorem fz_box1 {H : List AObj} {V : List Nat} {L : List AV} {f b : Nat} {fz : Bool} (h : H[b]? = some (.cells fz L)) (hp : pureAVs L = true) : frz 20 ⟨H, V⟩ (.fn f [.ptr b 0]) = ⟨H.set b (.cells true L), V⟩ := by
 rw [fr_fn]
 simp only [pvs_cons, pv_ptr, Bool.false_and, Bool.false_eq_true, if_false, List.foldl_cons, List.foldl_nil, fr_ptr, h, fr_all _ _ _ hp, ASt.fz]
end Go.Proofs.Eng
namespace Go.Proofs.Eng
open Go Go.Proofs
set_option maxRecDepth 100000
set_option maxHeartbeats 16000000
theorem eqI (k : IntKind) (x : Int) : eqAV (.v (.int k x)) (.v (.int k x)) = true := by rw [eqAV]; simp [eqV]
theorem eqS (x : ByteArray) : eqAV (.v (.string x)) (.v (.string x)) = true := by rw [eqAV]; simp [eqV, str_beq]
theorem eqL {α : Type} {R : α → AV → Prop} : ∀ {l : List α} {al : List AV}, (∀ x ∈ l, ∀ a, R x a → eqAV a a = true) → LIs R l al → eqAVs al al = true
 | [], [], _, _ => by rw [eqAVs]
 | [], _ :: _, _, h => h.elim
 | _ :: _, [], _, h => h.elim
 | x :: l, a :: al, h, hl => by
  rw [eqAVs, h x (by simp) a hl.1, eqL (fun y hy => h y (by simp [hy])) hl.2]; rfl
theorem eqT (t : Tl) (l : List AV) (h : eqAVs l l = true) : eqAV (.sl l t) (.sl l t) = true := by rw [eqAV, h]; simp
theorem eqIs : ∀ l : List Int, eqAVs (ints l) (ints l) = true
 | [] => by rw [ints, List.map_nil, eqAVs]
 | x :: l => by have := eqIs l; simp only [ints] at this ⊢; rw [List.map_cons, eqAVs, this, eqAV]; simp [eqV]
end Go.Proofs.Eng
namespace Go.Proofs.Eng
open Go Go.Proofs
set_option maxRecDepth 100000
set_option maxHeartbeats 16000000
theorem insPure (l : List Ins) : pureAVs (insA l) = true := by
 induction l with
 | nil => rfl
 | cons x l ih => simp only [insA, List.map_cons] at ih ⊢; rw [pvs_cons, ih, Ins.av]; simp [pv_agg, pvs_cons, pvs_nil, pv_v]
def nmA (l : List ByteArray) : List AV := l.map fun n => .str n
theorem nmPure (l : List ByteArray) : pureAVs (nmA l) = true := by
 induction l with
 | nil => rfl
 | cons x l ih => simp only [nmA, List.map_cons] at ih ⊢; rw [pvs_cons, ih]; simp [pv_v]
theorem nmA_all (l : List ByteArray) : ((nmA l).all fun x => x.cells.length == 1) = true := by
 rw [List.all_eq_true]; intro x hx
 obtain ⟨b, _, rfl⟩ := List.mem_map.1 hx; rfl
theorem nmA_len (l : List ByteArray) : (nmA l).length = l.length := by simp [nmA]
def blX (b : List Ins) (a : AV) : Prop := ∃ t, a = .sl (insA b) t
def blIs (b : List Ins) (a : AV) : Prop := ∃ t, a = .sl (insA b) t ∧ t.pure = true ∧ b.length ≤ lenB
def Cd.Is (c : Cd) (a : AV) : Prop := ∃ Bs t1 t2 t3, a = .agg [.sl Bs t1, .sl (nmA c.gl) t2, .sl (ints c.st) t3] ∧ LIs blIs c.bl Bs ∧ t1.pure = true ∧ t2.pure = true ∧ t3.pure = true ∧ Bs.length ≤ lenB ∧ c.gl.length ≤ lenB ∧ c.st.length ≤ lenB
theorem LIs.mp {α : Type} {R S : α → AV → Prop} (h : ∀ x a, R x a → S x a) : ∀ {l : List α} {al : List AV}, LIs R l al → LIs S l al
 | [], [], _ => trivial
 | [], _ :: _, h => h.elim
 | _ :: _, [], h => h.elim
 | _ :: _, _ :: _, ⟨h1, h2⟩ => ⟨h _ _ h1, LIs.mp h h2⟩
def Sep (ci : Nat) (H : List AObj) (t : Tl) : Prop := ∀ i v, t = .tl i v → ¬ OwC ci H i
def Dif (t u : Tl) : Prop := ∀ i v v', t = .tl i v → u ≠ .tl i v'
theorem Dif.symm {t u : Tl} (h : Dif t u) : Dif u t := fun i v v' e e' => h i v' v e' e
theorem Dif.oth {V V' : List Nat} {l : List AV} {t u u' : Tl} (h : Dif t u) (ha : App V l t) (o : Oth V u V' u') : Dif t u' := fun i v v' e e' => by
 rcases o.2.2 i v' e' with ⟨v0, e0⟩ | hle
 ·exact h i v v0 e e0
 ·have := ha.lt e; omega
theorem Sep.oth {ci : Nat} {gl : AV} {es : List Ex} {O : List Ins} {H H' : List AObj} {V V' : List Nat} {t t' : Tl} (h : Sep ci H t) (hC : CS ci gl es O H V) (hH : H'[ci]? = H[ci]?) (o : Oth V t V' t') : Sep ci H' t' := fun i v e hw => by
 rw [owc_eq hH] at hw
 rcases o.2.2 i v e with ⟨v0, e0⟩ | hle
 ·exact h i v0 e0 hw
 ·obtain ⟨Q, tq, to, h1, _, h3, h4, _⟩ := hC
  obtain ⟨x, Q', tq', O', to', v', e1, e2⟩ := hw
  rw [h1] at e1
  simp only [Option.some.injEq, AObj.cells.injEq, List.cons.injEq, AV.sl.injEq, true_and, and_true] at e1
  obtain ⟨_, ⟨_, rfl⟩, _, rfl⟩ := e1
  rcases e2 with e2 | e2
  ·have := h3.lt e2; omega
  ·have := h4.lt e2; omega
theorem CS.oth {ci : Nat} {gl : AV} {es : List Ex} {O : List Ins} {H H' : List AObj} {V V' : List Nat} {t t' : Tl} (hC : CS ci gl es O H V) (h : Sep ci H t) (hH : H'[ci]? = H[ci]?) (o : Oth V t V' t') : CS ci gl es O H' V' := by
 obtain ⟨Q, tq, to, h1, h2, h3, h4, h5⟩ := hC
 refine ⟨Q, tq, to, hH.trans h1, h2, h3.keep o fun i v v' e e' => h i v e ⟨_, _, _, _, _, v', h1, .inl e'⟩, h4.keep o fun i v v' e e' => h i v e ⟨_, _, _, _, _, v', h1, .inr e'⟩, h5⟩
theorem Stp.row {ci : Nat} {H H' : List AObj} {V V' : List Nat} (h : Stp ci H V H' V') {l : List AV} {t : Tl} (ha : App V l t) (hs : Sep ci H t) : App V' l t ∧ Sep ci H' t := by
 refine ⟨?_, fun i v e hw => ?_⟩
 ·rcases ha with ⟨h1, rfl⟩ | ⟨h1, id, ver, rfl, h2⟩
  ·exact .inl ⟨h1, rfl⟩
  ·exact .inr ⟨h1, id, ver, rfl, h.vk id ver h2 (hs id ver rfl)⟩
 ·rcases h.own i hw with h' | h'
  ·exact hs i v e h'
  ·have := ha.lt e; omega
structure CI (gl : AV) (es : List Ex) (O : List Ins) (bls : List (List Ins)) (ns : List ByteArray) (ss : List Int) (H : List AObj) (V : List Nat) (Bs : List AV) (tb tg ts : Tl) : Prop where
 cs : CS 2 gl es O H V
 h3 : H[3]? = some (.cells false [.ptr 2 0])
 h4 : H[4]? = some (.cells false [.sl Bs tb, .sl (nmA ns) tg, .sl (ints ss) ts])
 bl : LIs blX bls Bs
 ab : App V Bs tb
 ag : App V (nmA ns) tg
 ai : App V (ints ss) ts
 sb : Sep 2 H tb
 sg : Sep 2 H tg
 ss : Sep 2 H ts
 bg : Dif tb tg
 bs : Dif tb ts
 gs : Dif tg ts
section
variable {gl : AV} {es : List Ex} {O : List Ins} {bls : List (List Ins)} {ns : List ByteArray} {ss : List Int} {H : List AObj} {V : List Nat} {Bs : List AV} {tb tg ts : Tl}
theorem CI.lt (h : CI gl es O bls ns ss H V Bs tb tg ts) : 4 < H.length := lt_of_get h.h4
theorem Sep.app {ci : Nat} {H : List AObj} {t : Tl} (h : Sep ci H t) (hl : ci < H.length) (G : List AObj) : Sep ci (H ++ G) t := fun i v e hw => h i v e ((owc_eq (List.getElem?_append_left hl) i).1 hw)
theorem CI.app (h : CI gl es O bls ns ss H V Bs tb tg ts) (G : List AObj) : CI gl es O bls ns ss (H ++ G) V Bs tb tg ts :=
 ⟨h.cs.app G, app_get_of h.h3 G, app_get_of h.h4 G, h.bl, h.ab, h.ag, h.ai, h.sb.app h.cs.lt G, h.sg.app h.cs.lt G, h.ss.app h.cs.lt G, h.bg, h.bs, h.gs⟩
theorem CI.stp (h : CI gl es O bls ns ss H V Bs tb tg ts) {es' : List Ex} {O' : List Ins} {H' : List AObj} {V' : List Nat} (hC : CS 2 gl es' O' H' V') (hS : Stp 2 H V H' V') : CI gl es' O' bls ns ss H' V' Bs tb tg ts :=
 ⟨hC, hS.get h.h3 (by decide), hS.get h.h4 (by decide), h.bl, (hS.row h.ab h.sb).1, (hS.row h.ag h.sg).1, (hS.row h.ai h.ss).1, (hS.row h.ab h.sb).2, (hS.row h.ag h.sg).2, (hS.row h.ai h.ss).2, h.bg, h.bs, h.gs⟩
theorem CI.nil (h : CI gl es O bls ns ss H V Bs tb tg ts) {Q : List AV} {tq to : Tl} {L : List AV} (h1 : H[2]? = some (.cells false [gl, .sl Q tq, .sl L to])) : CI gl es [] bls ns ss (H.set 2 (.cells false [gl, .sl Q tq, .sl [] .nil])) V Bs tb tg ts := by
 have hl := h.lt
 obtain ⟨Q', tq', to', g1, g2, g3, g4, g5⟩ := h.cs
 rw [h1] at g1
 simp only [Option.some.injEq, AObj.cells.injEq, List.cons.injEq, AV.sl.injEq, true_and, and_true] at g1
 obtain ⟨⟨rfl, rfl⟩, rfl, rfl⟩ := g1
 have hs : (H.set 2 (.cells false [gl, .sl Q tq, .sl [] .nil]))[2]? = some (.cells false [gl, .sl Q tq, .sl (insA []) .nil]) := by rw [List.getElem?_set, if_pos rfl, if_pos (by omega)]; rfl
 have ho : ∀ i, OwC 2 (H.set 2 (.cells false [gl, .sl Q tq, .sl [] .nil])) i → OwC 2 H i := fun i ⟨_, _, _, _, _, v, e1, e2⟩ => by
  rw [hs] at e1
  simp only [Option.some.injEq, AObj.cells.injEq, List.cons.injEq, AV.sl.injEq, true_and, and_true] at e1
  obtain ⟨_, ⟨_, rfl⟩, _, rfl⟩ := e1
  rcases e2 with e2 | e2
  ·exact ⟨_, _, _, _, _, _, h1, .inl e2⟩
  ·cases e2
 refine ⟨⟨Q, tq, .nil, hs, g2, g3, .inl ⟨rfl, rfl⟩, fun i v v' _ e => by cases e⟩, by rw [List.getElem?_set, if_neg (by decide)]; exact h.h3, by rw [List.getElem?_set, if_neg (by decide)]; exact h.h4, h.bl, h.ab, h.ag, h.ai, fun i v e hw => h.sb i v e (ho i hw), fun i v e hw => h.sg i v e (ho i hw), fun i v e hw => h.ss i v e (ho i hw), h.bg, h.bs, h.gs⟩
end
end Go.Proofs.Eng
namespace Go.Proofs.Eng
open Go Go.Proofs
set_option maxRecDepth 100000
set_option maxHeartbeats 16000000
theorem set_ne {H : List AObj} {k j : Nat} {o x : AObj} (h : H[k]? = some o) (n : j ≠ k) : (H.set j x)[k]? = some o := by rw [List.getElem?_set, if_neg n]; exact h
theorem AllZ.mem {P : Ex → Int → Prop} : ∀ {l : List Ex} {zs : List Int}, AllZ P l zs → ∀ {x}, x ∈ l → ∃ z, P x z
 | [], [], _, x, hx => by cases hx
 | y :: l, z :: zs, h, x, hx => by
  rcases List.mem_cons.1 hx with rfl | hx
  ·exact ⟨z, h.1⟩
  ·exact AllZ.mem h.2 hx
 | [], _ :: _, h, _, _ => h.elim
 | _ :: _, [], h, _, _ => h.elim
end Go.Proofs.Eng
namespace Go.Proofs.Eng
open Go Go.Proofs
set_option maxRecDepth 100000
theorem slice_pre {es : Nat} {al : List AV} {t : Tl} (ht : t.pure = true) {n : Nat} (hn : n ≤ al.length) : ∃ t', t'.pure = true ∧ sliceA es al t 0 n none = some (.sl (al.take n) t') := by
 unfold sliceA
 rw [if_pos ⟨Nat.zero_le _, hn⟩]
 simp only [List.drop_zero]
 split
 ·rename_i h
  exact ⟨t, ht, by rw [h.2, List.take_length]⟩
 ·cases t with
  | tl _ _ => simp [Tl.pure] at ht
  | tls _ _ _ => simp [Tl.pure] at ht
  | _ => exact ⟨_, rfl, rfl⟩
theorem slice_suf {es : Nat} {al : List AV} {t : Tl} (ht : t.pure = true) {n m : Nat} (hn : n ≤ m) (hm : m = al.length) : ∃ t', t'.pure = true ∧ sliceA es al t n m none = some (.sl (al.drop n) t') := by
 subst hm
 unfold sliceA
 rw [if_pos ⟨hn, Nat.le_refl _⟩]
 simp only [List.take_length]
 split
 ·rename_i h
  exact ⟨t, ht, by rw [h.1, List.drop_zero]⟩
 ·cases t with
  | tl _ _ => simp [Tl.pure] at ht
  | tls _ _ _ => simp [Tl.pure] at ht
  | _ => exact ⟨_, rfl, rfl⟩
theorem or_some {p : Prop} {_ : Decidable p} {c d : Bool} (h : (decide p || c) = d) : ∃ b : Bool, (b = true ↔ p) ∧ (b || c) = d := ⟨_, decide_eq_true_iff, h⟩
theorem ints_at {l : List Int} {j : Nat} (h : j < l.length) : ∃ x, l[j]? = some x ∧ (ints l)[j]? = some (.int x) := by
 obtain ⟨x, a, _, c⟩ := ints_get h; exact ⟨x, a, c⟩
theorem nmA_at {l : List ByteArray} {j : Nat} (h : j < l.length) : ∃ x, l[j]? = some x ∧ (nmA l)[j]? = some (.str x) := by
 have := List.getElem?_eq_getElem h
 exact ⟨_, this, by rw [nmA, List.getElem?_map, this]; rfl⟩
theorem insA_at {l : List Ins} {j : Nat} (h : j < l.length) : ∃ x, l[j]? = some x ∧ (insA l)[j]? = some (.agg [.int x.op, .int x.a, .int x.b, .str x.n]) := by
 have := List.getElem?_eq_getElem h
 exact ⟨_, this, by rw [insA, List.getElem?_map, this]; rfl⟩
theorem ix61_ret (f : FuncId) (caps : List AV) (hf : md f = .pure) (hcaps : pureAVs caps = true) (p : Int → Bool) {l : List Int} {t : Tl} (hl : l.length ≤ lenB) (hg : ∀ x ∈ l, Out md pfs f (.int x :: caps) (· = .bool (p x)) fun _ => False) :
  Out md pfs 61 [.sl (ints l) t, .fn f caps] (fun v => ∃ r : Int, v = .int r ∧ ((r = -1 ∧ l.any p = false) ∨ ∃ (j : Nat) (x : Int), r = j ∧ l[j]? = some x ∧ p x = true ∧ (l.take j).any p = false)) fun _ => False := by
 refine out_of pf61_is (Nat.le_of_ble_eq_true rfl) ?_
 simp only [pf61, ↓wpre, wall, simprocAttr]
 refine W_loopE (fun j => l.length - j) (fun j E H T => E 0 = .sl (ints l) t ∧ E 1 = .fn f caps ∧ E 7 = .int l.length ∧ E 8 = .int j ∧ j ≤ l.length ∧ (l.take j).any p = false) ?_ 0 ?_
 ·rintro j E H T ⟨e0, e1, e7, e8, hj, hn⟩
  rcases Nat.lt_or_ge j l.length with hlt | hge
  ·obtain ⟨x, d0, d4⟩ := ints_at hlt
   have hdec : decide ((j : Int) < l.length) = true := by simpa using hlt
   obtain ⟨v, rfl, hc⟩ := (hg x (List.mem_of_getElem? d0)).call hf (by simp [pvs_cons, pvs_nil, pv_v, hcaps])
   cases hp : p x
   ·simp only [↓wpre, wall, simprocAttr, e0, e1, e7, e8, hdec, d4, ints_all, ints_len, hc, hp]
    exact EQ_in ⟨j + 1, by omega, e0, e1, e7, next_ixv (by omega), by omega, by rw [List.take_add_one, d0]; simp [List.any_append, hn, hp]⟩
   ·simp only [↓wpre, wall, simprocAttr, e0, e1, e7, e8, hdec, d4, ints_all, ints_len, hc, hp]
    exact ⟨_, rfl, .inr ⟨j, x, rfl, d0, hp, hn⟩⟩
  ·have hdec : decide ((j : Int) < l.length) = false := by simpa using hge
   simp only [↓wpre, wall, simprocAttr, e0, e1, e7, e8, hdec, ints_len]
   rw [List.take_of_length_le (by omega)] at hn
   exact ⟨_, rfl, .inl ⟨rfl, hn⟩⟩
 ·exact ⟨rfl, rfl, by rw [← ints_len l]; rfl, rfl, Nat.zero_le _, rfl⟩
theorem cf35_ret {p : Int → Bool} (f : FuncId) (caps : List AV) (hf : md f = .pure) (hcaps : pureAVs caps = true) {l : List Int} {t : Tl} (ht : t.pure = true) (hl : l.length ≤ lenB) (hg : ∀ x ∈ l, Out md pfs f (.int x :: caps) (· = .bool (p x)) fun _ => False) : Out md pfs 35 [.sl (ints l) t, .fn f caps] (· = .bool (l.any p)) fun _ => False := by
 refine out_of pf35_is (Nat.le_of_ble_eq_true rfl) ?_
 obtain ⟨v, ⟨r, rfl, hr⟩, hc⟩ := (ix61_ret f caps hf hcaps p (t := t) hl hg).call rfl (by simp [pvs_cons, pvs_nil, pv_sl, pv_fn, ht, ints_pure, hcaps])
 have hd : decide (r ≥ 0) = l.any p := by
  rcases hr with ⟨rfl, h2⟩ | ⟨j, x, rfl, h2, h3, _⟩
  ·rw [h2]; rfl
  ·have : l.any p = true := List.any_eq_true.2 ⟨x, List.mem_of_getElem? h2, h3⟩
   rw [this]; simp
 simp only [pf35, ↓wpre, wall, simprocAttr, hc, hd]
theorem ix63_ret (f : FuncId) (caps : List AV) (hf : md f = .pure) (hcaps : pureAVs caps = true) (p : ByteArray → Bool) {l : List ByteArray} {t : Tl} (hl : l.length ≤ lenB) (hg : ∀ x ∈ l, Out md pfs f (.str x :: caps) (· = .bool (p x)) fun _ => False) :
  Out md pfs 63 [.sl (nmA l) t, .fn f caps] (fun v => ∃ r : Int, v = .int r ∧ ((r = -1 ∧ l.any p = false) ∨ ∃ (j : Nat) (x : ByteArray), r = j ∧ l[j]? = some x ∧ p x = true ∧ (l.take j).any p = false)) fun _ => False := by
 refine out_of pf63_is (Nat.le_of_ble_eq_true rfl) ?_
 simp only [pf63, ↓wpre, wall, simprocAttr]
 refine W_loopE (fun j => l.length - j) (fun j E H T => E 0 = .sl (nmA l) t ∧ E 1 = .fn f caps ∧ E 7 = .int l.length ∧ E 8 = .int j ∧ j ≤ l.length ∧ (l.take j).any p = false) ?_ 0 ?_
 ·rintro j E H T ⟨e0, e1, e7, e8, hj, hn⟩
  rcases Nat.lt_or_ge j l.length with hlt | hge
  ·obtain ⟨x, d0, d4⟩ := nmA_at hlt
   have hdec : decide ((j : Int) < l.length) = true := by simpa using hlt
   obtain ⟨v, rfl, hc⟩ := (hg x (List.mem_of_getElem? d0)).call hf (by simp [pvs_cons, pvs_nil, pv_v, hcaps])
   cases hp : p x
   ·simp only [↓wpre, wall, simprocAttr, e0, e1, e7, e8, hdec, d4, nmA_all, nmA_len, hc, hp]
    exact EQ_in ⟨j + 1, by omega, e0, e1, e7, next_ixv (by omega), by omega, by rw [List.take_add_one, d0]; simp [List.any_append, hn, hp]⟩
   ·simp only [↓wpre, wall, simprocAttr, e0, e1, e7, e8, hdec, d4, nmA_all, nmA_len, hc, hp]
    exact ⟨_, rfl, .inr ⟨j, x, rfl, d0, hp, hn⟩⟩
  ·have hdec : decide ((j : Int) < l.length) = false := by simpa using hge
   simp only [↓wpre, wall, simprocAttr, e0, e1, e7, e8, hdec, nmA_len]
   rw [List.take_of_length_le (by omega)] at hn
   exact ⟨_, rfl, .inl ⟨rfl, hn⟩⟩
 ·exact ⟨rfl, rfl, by rw [← nmA_len l]; rfl, rfl, Nat.zero_le _, rfl⟩
theorem cf38_ret {p : ByteArray → Bool} (f : FuncId) (caps : List AV) (hf : md f = .pure) (hcaps : pureAVs caps = true) {l : List ByteArray} {t : Tl} (ht : t.pure = true) (hl : l.length ≤ lenB) (hg : ∀ x ∈ l, Out md pfs f (.str x :: caps) (· = .bool (p x)) fun _ => False) : Out md pfs 38 [.sl (nmA l) t, .fn f caps] (· = .bool (l.any p)) fun _ => False := by
 refine out_of pf38_is (Nat.le_of_ble_eq_true rfl) ?_
 obtain ⟨v, ⟨r, rfl, hr⟩, hc⟩ := (ix63_ret f caps hf hcaps p (t := t) hl hg).call rfl (by simp [pvs_cons, pvs_nil, pv_sl, pv_fn, ht, nmPure, hcaps])
 have hd : decide (r ≥ 0) = l.any p := by
  rcases hr with ⟨rfl, h2⟩ | ⟨j, x, rfl, h2, h3, _⟩
  ·rw [h2]; rfl
  ·have : l.any p = true := List.any_eq_true.2 ⟨x, List.mem_of_getElem? h2, h3⟩
   rw [this]; simp
 simp only [pf38, ↓wpre, wall, simprocAttr, hc, hd]
theorem ix101_ret (f : FuncId) (caps : List AV) (hf : md f = .pure) (hcaps : pureAVs caps = true) (p : Ins → Bool) {l : List Ins} {t : Tl} (hl : l.length ≤ lenB) (hg : ∀ x ∈ l, Out md pfs f (.agg [.int x.op, .int x.a, .int x.b, .str x.n] :: caps) (· = .bool (p x)) fun _ => False) :
  Out md pfs 101 [.sl (insA l) t, .fn f caps] (fun v => ∃ r : Int, v = .int r ∧ ((r = -1 ∧ l.any p = false) ∨ ∃ (j : Nat) (x : Ins), r = j ∧ l[j]? = some x ∧ p x = true ∧ (l.take j).any p = false)) fun _ => False := by
 refine out_of pf101_is (Nat.le_of_ble_eq_true rfl) ?_
 simp only [pf101, ↓wpre, wall, simprocAttr]
 refine W_loopE (fun j => l.length - j) (fun j E H T => E 0 = .sl (insA l) t ∧ E 1 = .fn f caps ∧ E 7 = .int l.length ∧ E 8 = .int j ∧ j ≤ l.length ∧ (l.take j).any p = false) ?_ 0 ?_
 ·rintro j E H T ⟨e0, e1, e7, e8, hj, hn⟩
  rcases Nat.lt_or_ge j l.length with hlt | hge
  ·obtain ⟨x, d0, d4⟩ := insA_at hlt
   have hdec : decide ((j : Int) < l.length) = true := by simpa using hlt
   obtain ⟨v, rfl, hc⟩ := (hg x (List.mem_of_getElem? d0)).call hf (by simp [pvs_cons, pvs_nil, pv_agg, pv_v, hcaps])
   cases hp : p x
   ·simp only [↓wpre, wall, simprocAttr, e0, e1, e7, e8, hdec, d4, insA_all, insA_len, hc, hp]
    exact EQ_in ⟨j + 1, by omega, e0, e1, e7, next_ixv (by omega), by omega, by rw [List.take_add_one, d0]; simp [List.any_append, hn, hp]⟩
   ·simp only [↓wpre, wall, simprocAttr, e0, e1, e7, e8, hdec, d4, insA_all, insA_len, hc, hp]
    exact ⟨_, rfl, .inr ⟨j, x, rfl, d0, hp, hn⟩⟩
  ·have hdec : decide ((j : Int) < l.length) = false := by simpa using hge
   simp only [↓wpre, wall, simprocAttr, e0, e1, e7, e8, hdec, insA_len]
   rw [List.take_of_length_le (by omega)] at hn
   exact ⟨_, rfl, .inl ⟨rfl, hn⟩⟩
 ·exact ⟨rfl, rfl, by rw [← insA_len l]; rfl, rfl, Nat.zero_le _, rfl⟩
theorem cf88_ret {p : Ins → Bool} (f : FuncId) (caps : List AV) (hf : md f = .pure) (hcaps : pureAVs caps = true) {l : List Ins} {t : Tl} (ht : t.pure = true) (hl : l.length ≤ lenB) (hg : ∀ x ∈ l, Out md pfs f (.agg [.int x.op, .int x.a, .int x.b, .str x.n] :: caps) (· = .bool (p x)) fun _ => False) : Out md pfs 88 [.sl (insA l) t, .fn f caps] (· = .bool (l.any p)) fun _ => False := by
 refine out_of pf88_is (Nat.le_of_ble_eq_true rfl) ?_
 obtain ⟨v, ⟨r, rfl, hr⟩, hc⟩ := (ix101_ret f caps hf hcaps p (t := t) hl hg).call rfl (by simp [pvs_cons, pvs_nil, pv_sl, pv_fn, ht, insPure, hcaps])
 have hd : decide (r ≥ 0) = l.any p := by
  rcases hr with ⟨rfl, h2⟩ | ⟨j, x, rfl, h2, h3, _⟩
  ·rw [h2]; rfl
  ·have : l.any p = true := List.any_eq_true.2 ⟨x, List.mem_of_getElem? h2, h3⟩
   rw [this]; simp
 simp only [pf88, ↓wpre, wall, simprocAttr, hc, hd]
theorem ind24_ret {l : List Int} {t : Tl} (x : Int) (hl : l.length ≤ lenB) :
  Out md pfs 24 [.sl (ints l) t, .int x] (fun v => ∃ r : Int, v = .int r ∧ ((r = -1 ∧ x ∉ l) ∨ ∃ j : Nat, r = j ∧ l[j]? = some x ∧ x ∉ l.take j)) fun _ => False := by
 refine out_of pf24_is (Nat.le_of_ble_eq_true rfl) ?_
 simp only [pf24, ↓wpre, wall, simprocAttr]
 refine W_loopE (fun j => l.length - j) (fun j E H T => E 0 = .sl (ints l) t ∧ E 1 = .int x ∧ E 7 = .int l.length ∧ E 8 = .int j ∧ j ≤ l.length ∧ x ∉ l.take j) ?_ 0 ?_
 ·rintro j E H T ⟨e0, e1, e7, e8, hj, hn⟩
  rcases Nat.lt_or_ge j l.length with hlt | hge
  ·obtain ⟨y, d0, d4⟩ := ints_at hlt
   have hdec : decide ((j : Int) < l.length) = true := by simpa using hlt
   by_cases hxy : x = y
   ·subst hxy
    simp only [↓wpre, wall, simprocAttr, e0, e1, e7, e8, hdec, d4, ints_all, ints_len, str_eq, str_beq, decide_true, beq_self_eq_true]
    exact ⟨_, rfl, .inr ⟨j, rfl, d0, hn⟩⟩
   ·have hb : (x == y) = false := beq_false_of_ne hxy
    have hd : decide (x = y) = false := decide_eq_false hxy
    simp only [↓wpre, wall, simprocAttr, e0, e1, e7, e8, hdec, d4, ints_all, ints_len, str_eq, str_beq, hb, hd]
    exact EQ_in ⟨j + 1, by omega, e0, e1, e7, next_ixv (by omega), by omega, by rw [List.take_add_one, d0]; simp [hn, hxy]⟩
  ·have hdec : decide ((j : Int) < l.length) = false := by simpa using hge
   simp only [↓wpre, wall, simprocAttr, e0, e1, e7, e8, hdec, ints_len]
   rw [List.take_of_length_le (by omega)] at hn
   exact ⟨_, rfl, .inl ⟨rfl, hn⟩⟩
 ·exact ⟨rfl, rfl, by rw [← ints_len l]; rfl, rfl, Nat.zero_le _, by simp⟩
theorem con62_ret {l : List Int} {t : Tl} (x : Int) (ht : t.pure = true) (hl : l.length ≤ lenB) {b : Bool} (hbx : b = true ↔ x ∈ l) : Out md pfs 62 [.sl (ints l) t, .int x] (· = .bool b) fun _ => False := by
 refine out_of pf62_is (Nat.le_of_ble_eq_true rfl) ?_
 obtain ⟨v, ⟨r, rfl, hr⟩, hc⟩ := (ind24_ret (l := l) (t := t) x hl).call rfl (by simp [pvs_cons, pvs_nil, pv_sl, pv_v, ht, ints_pure])
 have hd : decide (r ≥ 0) = b := by
  rcases hr with ⟨rfl, h2⟩ | ⟨j, rfl, h2, _⟩
  ·cases b with
   | false => rfl
   | true => exact absurd (hbx.1 rfl) h2
  ·rw [hbx.2 (List.mem_of_getElem? h2)]; simp
 simp only [pf62, ↓wpre, wall, simprocAttr, hc, hd]
theorem rp37_ret {l : List Int} {t : Tl} (ht : t.pure = true) (hl : l.length ≤ lenB) : Out md pfs 37 [.sl (ints l) t] (· = .bool (twice [] l)) fun _ => False := by
 refine out_of pf37_is (Nat.le_of_ble_eq_true rfl) ?_
 simp only [pf37, ↓wpre, wall, simprocAttr]
 refine W_loopE (fun j => l.length - j) (fun j E H T => E 0 = .sl (ints l) t ∧ E 5 = .sl (ints l) t ∧ E 6 = .int l.length ∧ E 7 = .int j ∧ j ≤ l.length ∧ twice (l.take j) (l.drop j) = twice [] l) ?_ 0 ⟨rfl, rfl, by rw [← ints_len l]; rfl, rfl, Nat.zero_le _, rfl⟩
 rintro j E H T ⟨e0, e5, e6, e7, hj, hn⟩
 rcases Nat.lt_or_ge j l.length with hlt | hge
 ·obtain ⟨y, d0, d4⟩ := ints_at hlt
  have hdec : decide ((j : Int) < l.length) = true := by simpa using hlt
  have hdr : l.drop j = y :: l.drop (j + 1) := by
   obtain ⟨h, rfl⟩ := List.getElem?_eq_some_iff.1 d0
   exact List.drop_eq_getElem_cons h
  have htk : l.take (j + 1) = l.take j ++ [y] := by rw [List.take_add_one, d0]; rfl
  rw [hdr, twice, ← htk] at hn
  have htl : (l.take j).length = j := by rw [List.length_take]; omega
  have hsl : (ints l).take j = ints (l.take j) := by simp [ints]
  have hj2 : (j : Int) ≤ (l.length : Nat) := by omega
  obtain ⟨t', ht', hs⟩ := slice_pre (es := 1) (al := ints l) ht (n := j) (by rw [ints_len]; exact hj)
  rw [hsl] at hs
  obtain ⟨b, hb, hn⟩ := or_some hn
  obtain ⟨_, rfl, hc⟩ := (con62_ret (l := l.take j) (t := t') y ht' (by omega) (b := b) hb).call rfl (by simp [pvs_cons, pvs_nil, pv_sl, pv_v, ints_pure, ht'])
  cases b
  ·simp only [↓wpre, wall, simprocAttr, e0, e5, e6, e7, hdec, d4, ints_all, ints_len, hj2, hs, hc]
   exact EQ_in ⟨j + 1, by omega, e0, e5, e6, next_ixv (by omega), by omega, by simpa using hn⟩
  ·simp only [↓wpre, wall, simprocAttr, e0, e5, e6, e7, hdec, d4, ints_all, ints_len, hj2, hs, hc]
   rw [← hn]; rfl
 ·have hdec : decide ((j : Int) < l.length) = false := by simpa using hge
  simp only [↓wpre, wall, simprocAttr, e0, e5, e6, e7, hdec]
  rw [List.drop_eq_nil_of_le (by omega), twice] at hn
  rw [← hn]
theorem ind87_ret {l : List ByteArray} {t : Tl} (x : ByteArray) (hl : l.length ≤ lenB) :
  Out md pfs 87 [.sl (nmA l) t, .str x] (fun v => ∃ r : Int, v = .int r ∧ ((r = -1 ∧ x ∉ l) ∨ ∃ j : Nat, r = j ∧ l[j]? = some x ∧ x ∉ l.take j)) fun _ => False := by
 refine out_of pf87_is (Nat.le_of_ble_eq_true rfl) ?_
 simp only [pf87, ↓wpre, wall, simprocAttr]
 refine W_loopE (fun j => l.length - j) (fun j E H T => E 0 = .sl (nmA l) t ∧ E 1 = .str x ∧ E 7 = .int l.length ∧ E 8 = .int j ∧ j ≤ l.length ∧ x ∉ l.take j) ?_ 0 ?_
 ·rintro j E H T ⟨e0, e1, e7, e8, hj, hn⟩
  rcases Nat.lt_or_ge j l.length with hlt | hge
  ·obtain ⟨y, d0, d4⟩ := nmA_at hlt
   have hdec : decide ((j : Int) < l.length) = true := by simpa using hlt
   by_cases hxy : x = y
   ·subst hxy
    simp only [↓wpre, wall, simprocAttr, e0, e1, e7, e8, hdec, d4, nmA_all, nmA_len, str_eq, str_beq, decide_true, beq_self_eq_true]
    exact ⟨_, rfl, .inr ⟨j, rfl, d0, hn⟩⟩
   ·have hd : decide (x = y) = false := decide_eq_false hxy
    simp only [↓wpre, wall, simprocAttr, e0, e1, e7, e8, hdec, d4, nmA_all, nmA_len, str_eq, str_beq, hd]
    exact EQ_in ⟨j + 1, by omega, e0, e1, e7, next_ixv (by omega), by omega, by rw [List.take_add_one, d0]; simp [hn, hxy]⟩
  ·have hdec : decide ((j : Int) < l.length) = false := by simpa using hge
   simp only [↓wpre, wall, simprocAttr, e0, e1, e7, e8, hdec, nmA_len]
   rw [List.take_of_length_le (by omega)] at hn
   exact ⟨_, rfl, .inl ⟨rfl, hn⟩⟩
 ·exact ⟨rfl, rfl, by rw [← nmA_len l]; rfl, rfl, Nat.zero_le _, by simp⟩
theorem con65_ret {l : List ByteArray} {t : Tl} (x : ByteArray) (ht : t.pure = true) (hl : l.length ≤ lenB) {b : Bool} (hbx : b = true ↔ x ∈ l) : Out md pfs 65 [.sl (nmA l) t, .str x] (· = .bool b) fun _ => False := by
 refine out_of pf65_is (Nat.le_of_ble_eq_true rfl) ?_
 obtain ⟨v, ⟨r, rfl, hr⟩, hc⟩ := (ind87_ret (l := l) (t := t) x hl).call rfl (by simp [pvs_cons, pvs_nil, pv_sl, pv_v, ht, nmPure])
 have hd : decide (r ≥ 0) = b := by
  rcases hr with ⟨rfl, h2⟩ | ⟨j, rfl, h2, _⟩
  ·cases b with
   | false => rfl
   | true => exact absurd (hbx.1 rfl) h2
  ·rw [hbx.2 (List.mem_of_getElem? h2)]; simp
 simp only [pf65, ↓wpre, wall, simprocAttr, hc, hd]
theorem rp41_ret {l : List ByteArray} {t : Tl} (ht : t.pure = true) (hl : l.length ≤ lenB) : Out md pfs 41 [.sl (nmA l) t] (· = .bool (twice [] l)) fun _ => False := by
 refine out_of pf41_is (Nat.le_of_ble_eq_true rfl) ?_
 simp only [pf41, ↓wpre, wall, simprocAttr]
 refine W_loopE (fun j => l.length - j) (fun j E H T => E 0 = .sl (nmA l) t ∧ E 5 = .sl (nmA l) t ∧ E 6 = .int l.length ∧ E 7 = .int j ∧ j ≤ l.length ∧ twice (l.take j) (l.drop j) = twice [] l) ?_ 0 ⟨rfl, rfl, by rw [← nmA_len l]; rfl, rfl, Nat.zero_le _, rfl⟩
 rintro j E H T ⟨e0, e5, e6, e7, hj, hn⟩
 rcases Nat.lt_or_ge j l.length with hlt | hge
 ·obtain ⟨y, d0, d4⟩ := nmA_at hlt
  have hdec : decide ((j : Int) < l.length) = true := by simpa using hlt
  have hdr : l.drop j = y :: l.drop (j + 1) := by
   obtain ⟨h, rfl⟩ := List.getElem?_eq_some_iff.1 d0
   exact List.drop_eq_getElem_cons h
  have htk : l.take (j + 1) = l.take j ++ [y] := by rw [List.take_add_one, d0]; rfl
  rw [hdr, twice, ← htk] at hn
  have htl : (l.take j).length = j := by rw [List.length_take]; omega
  have hsl : (nmA l).take j = nmA (l.take j) := by simp [nmA]
  have hj2 : (j : Int) ≤ (l.length : Nat) := by omega
  obtain ⟨t', ht', hs⟩ := slice_pre (es := 1) (al := nmA l) ht (n := j) (by rw [nmA_len]; exact hj)
  rw [hsl] at hs
  obtain ⟨b, hb, hn⟩ := or_some hn
  obtain ⟨_, rfl, hc⟩ := (con65_ret (l := l.take j) (t := t') y ht' (by omega) (b := b) hb).call rfl (by simp [pvs_cons, pvs_nil, pv_sl, pv_v, nmPure, ht'])
  cases b
  ·simp only [↓wpre, wall, simprocAttr, e0, e5, e6, e7, hdec, d4, nmA_all, nmA_len, hj2, hs, hc]
   exact EQ_in ⟨j + 1, by omega, e0, e5, e6, next_ixv (by omega), by omega, by simpa using hn⟩
  ·simp only [↓wpre, wall, simprocAttr, e0, e5, e6, e7, hdec, d4, nmA_all, nmA_len, hj2, hs, hc]
   rw [← hn]; rfl
 ·have hdec : decide ((j : Int) < l.length) = false := by simpa using hge
  simp only [↓wpre, wall, simprocAttr, e0, e5, e6, e7, hdec]
  rw [List.drop_eq_nil_of_le (by omega), twice] at hn
  rw [← hn]
end Go.Proofs.Eng
