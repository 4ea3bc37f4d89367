/- The outline of a code. No conditions beyond those in the theorems. -/
import Derived.Test.YtflfmkkcnphdcaaGreatY7
set_option linter.all false
set_option linter.deprecated false
set_option linter.unnecessarySimpa false
set_option linter.unusedVariables false
set_option linter.unusedSimpArgs false
set_option linter.defProp false
namespace Go.Proofs.Eng
open Go Go.Proofs
set_option maxRecDepth 100000
set_option maxHeartbeats 16000000
theorem stripR_pure (n : Nat) (s : ASt) (t : Tl) : (t.stripR n s).pure = true := by
 cases t <;> simp only [Tl.stripR] <;> (try split) <;> rfl
theorem insPure (l : List Ins) : pureAVs (insA l) = true := by
 induction l with
 | nil => rfl
 | cons x l ih => simp only [insA, List.map_cons] at ih ⊢; rw [pvs_cons, ih, Ins.av]; simp [pv_agg, pvs_cons, pvs_nil, pv_v]
def nmA (l : List ByteArray) : List AV := l.map fun n => .str n
theorem nmPure (l : List ByteArray) : pureAVs (nmA l) = true := by
 induction l with
 | nil => rfl
 | cons x l ih => simp only [nmA, List.map_cons] at ih ⊢; rw [pvs_cons, ih]; simp [pv_v]
theorem nmA_all (l : List ByteArray) : ((nmA l).all fun x => x.cells.length == 1) = true := by
 rw [List.all_eq_true]; intro x hx
 obtain ⟨b, _, rfl⟩ := List.mem_map.1 hx; rfl
theorem nmA_len (l : List ByteArray) : (nmA l).length = l.length := by simp [nmA]
def blX (b : List Ins) (a : AV) : Prop := ∃ t, a = .sl (insA b) t
def blIs (b : List Ins) (a : AV) : Prop := ∃ t, a = .sl (insA b) t ∧ t.pure = true ∧ b.length ≤ lenB
def Cd.Is (c : Cd) (a : AV) : Prop := ∃ Bs t1 t2 t3, a = .agg [.sl Bs t1, .sl (nmA c.gl) t2, .sl (ints c.st) t3] ∧ LIs blIs c.bl Bs ∧ t1.pure = true ∧ t2.pure = true ∧ t3.pure = true ∧ Bs.length ≤ lenB ∧ c.gl.length ≤ lenB ∧ c.st.length ≤ lenB
theorem blAgg {b : List Ins} {a : AV} (h : blX b a) : (a.cells.length == 1) = true := by
 obtain ⟨t, rfl⟩ := h; rfl
theorem LIs.mp {α : Type} {R S : α → AV → Prop} (h : ∀ x a, R x a → S x a) : ∀ {l : List α} {al : List AV}, LIs R l al → LIs S l al
 | [], [], _ => trivial
 | [], _ :: _, h => h.elim
 | _ :: _, [], h => h.elim
 | _ :: _, _ :: _, ⟨h1, h2⟩ => ⟨h _ _ h1, LIs.mp h h2⟩
def Sep (ci : Nat) (H : List AObj) (t : Tl) : Prop := ∀ i v, t = .tl i v → ¬ OwC ci H i
def Dif (t u : Tl) : Prop := ∀ i v v', t = .tl i v → u ≠ .tl i v'
theorem Dif.symm {t u : Tl} (h : Dif t u) : Dif u t := fun i v v' e e' => h i v' v e' e
theorem Dif.oth {V V' : List Nat} {l : List AV} {t u u' : Tl} (h : Dif t u) (ha : App V l t) (o : Oth V u V' u') : Dif t u' := fun i v v' e e' => by
 rcases o.2.2 i v' e' with ⟨v0, e0⟩ | hle
 ·exact h i v v0 e e0
 ·have := ha.lt e; omega
theorem Sep.oth {ci : Nat} {gl : AV} {es : List Ex} {O : List Ins} {H H' : List AObj} {V V' : List Nat} {t t' : Tl} (h : Sep ci H t) (hC : CS ci gl es O H V) (hH : H'[ci]? = H[ci]?) (o : Oth V t V' t') : Sep ci H' t' := fun i v e hw => by
 rw [owc_eq hH] at hw
 rcases o.2.2 i v e with ⟨v0, e0⟩ | hle
 ·exact h i v0 e0 hw
 ·obtain ⟨Q, tq, to, h1, _, h3, h4, _⟩ := hC
  obtain ⟨x, Q', tq', O', to', v', e1, e2⟩ := hw
  rw [h1] at e1
  simp only [Option.some.injEq, AObj.cells.injEq, List.cons.injEq, AV.sl.injEq, true_and, and_true] at e1
  obtain ⟨_, ⟨_, rfl⟩, _, rfl⟩ := e1
  rcases e2 with e2 | e2
  ·have := h3.lt e2; omega
  ·have := h4.lt e2; omega
theorem CS.oth {ci : Nat} {gl : AV} {es : List Ex} {O : List Ins} {H H' : List AObj} {V V' : List Nat} {t t' : Tl} (hC : CS ci gl es O H V) (h : Sep ci H t) (hH : H'[ci]? = H[ci]?) (o : Oth V t V' t') : CS ci gl es O H' V' := by
 obtain ⟨Q, tq, to, h1, h2, h3, h4, h5⟩ := hC
 refine ⟨Q, tq, to, hH.trans h1, h2, h3.keep o fun i v v' e e' => h i v e ⟨_, _, _, _, _, v', h1, .inl e'⟩, h4.keep o fun i v v' e e' => h i v e ⟨_, _, _, _, _, v', h1, .inr e'⟩, h5⟩
theorem Stp.row {ci : Nat} {H H' : List AObj} {V V' : List Nat} (h : Stp ci H V H' V') {l : List AV} {t : Tl} (ha : App V l t) (hs : Sep ci H t) : App V' l t ∧ Sep ci H' t := by
 refine ⟨?_, fun i v e hw => ?_⟩
 ·rcases ha with ⟨h1, rfl⟩ | ⟨h1, id, ver, rfl, h2⟩
  ·exact .inl ⟨h1, rfl⟩
  ·exact .inr ⟨h1, id, ver, rfl, h.vk id ver h2 (hs id ver rfl)⟩
 ·rcases h.own i hw with h' | h'
  ·exact hs i v e h'
  ·have := ha.lt e; omega
structure CI (gl : AV) (es : List Ex) (O : List Ins) (bls : List (List Ins)) (ns : List ByteArray) (ss : List Int) (H : List AObj) (V : List Nat) (Bs : List AV) (tb tg ts : Tl) : Prop where
 cs : CS 2 gl es O H V
 h3 : H[3]? = some (.cells false [.ptr 2 0])
 h4 : H[4]? = some (.cells false [.sl Bs tb, .sl (nmA ns) tg, .sl (ints ss) ts])
 bl : LIs blX bls Bs
 ab : App V Bs tb
 ag : App V (nmA ns) tg
 ai : App V (ints ss) ts
 sb : Sep 2 H tb
 sg : Sep 2 H tg
 ss : Sep 2 H ts
 bg : Dif tb tg
 bs : Dif tb ts
 gs : Dif tg ts
section
variable {gl : AV} {es : List Ex} {O : List Ins} {bls : List (List Ins)} {ns : List ByteArray} {ss : List Int} {H : List AObj} {V : List Nat} {Bs : List AV} {tb tg ts : Tl}
theorem CI.lt (h : CI gl es O bls ns ss H V Bs tb tg ts) : 4 < H.length := lt_of_get h.h4
theorem Sep.app {ci : Nat} {H : List AObj} {t : Tl} (h : Sep ci H t) (hl : ci < H.length) (G : List AObj) : Sep ci (H ++ G) t := fun i v e hw => h i v e ((owc_eq (List.getElem?_append_left hl) i).1 hw)
theorem CI.app (h : CI gl es O bls ns ss H V Bs tb tg ts) (G : List AObj) : CI gl es O bls ns ss (H ++ G) V Bs tb tg ts :=
 ⟨h.cs.app G, app_get_of h.h3 G, app_get_of h.h4 G, h.bl, h.ab, h.ag, h.ai, h.sb.app h.cs.lt G, h.sg.app h.cs.lt G, h.ss.app h.cs.lt G, h.bg, h.bs, h.gs⟩
theorem CI.stp (h : CI gl es O bls ns ss H V Bs tb tg ts) {es' : List Ex} {O' : List Ins} {H' : List AObj} {V' : List Nat} (hC : CS 2 gl es' O' H' V') (hS : Stp 2 H V H' V') : CI gl es' O' bls ns ss H' V' Bs tb tg ts :=
 ⟨hC, hS.get h.h3 (by decide), hS.get h.h4 (by decide), h.bl, (hS.row h.ab h.sb).1, (hS.row h.ag h.sg).1, (hS.row h.ai h.ss).1, (hS.row h.ab h.sb).2, (hS.row h.ag h.sg).2, (hS.row h.ai h.ss).2, h.bg, h.bs, h.gs⟩
theorem CI.nil (h : CI gl es O bls ns ss H V Bs tb tg ts) {Q : List AV} {tq to : Tl} {L : List AV} (h1 : H[2]? = some (.cells false [gl, .sl Q tq, .sl L to])) : CI gl es [] bls ns ss (H.set 2 (.cells false [gl, .sl Q tq, .sl [] .nil])) V Bs tb tg ts := by
 have hl := h.lt
 obtain ⟨Q', tq', to', g1, g2, g3, g4, g5⟩ := h.cs
 rw [h1] at g1
 simp only [Option.some.injEq, AObj.cells.injEq, List.cons.injEq, AV.sl.injEq, true_and, and_true] at g1
 obtain ⟨⟨rfl, rfl⟩, rfl, rfl⟩ := g1
 have hs : (H.set 2 (.cells false [gl, .sl Q tq, .sl [] .nil]))[2]? = some (.cells false [gl, .sl Q tq, .sl (insA []) .nil]) := by rw [List.getElem?_set, if_pos rfl, if_pos (by omega)]; rfl
 have ho : ∀ i, OwC 2 (H.set 2 (.cells false [gl, .sl Q tq, .sl [] .nil])) i → OwC 2 H i := fun i ⟨_, _, _, _, _, v, e1, e2⟩ => by
  rw [hs] at e1
  simp only [Option.some.injEq, AObj.cells.injEq, List.cons.injEq, AV.sl.injEq, true_and, and_true] at e1
  obtain ⟨_, ⟨_, rfl⟩, _, rfl⟩ := e1
  rcases e2 with e2 | e2
  ·exact ⟨_, _, _, _, _, _, h1, .inl e2⟩
  ·cases e2
 refine ⟨⟨Q, tq, .nil, hs, g2, g3, .inl ⟨rfl, rfl⟩, fun i v v' _ e => by cases e⟩, by rw [List.getElem?_set, if_neg (by decide)]; exact h.h3, by rw [List.getElem?_set, if_neg (by decide)]; exact h.h4, h.bl, h.ab, h.ag, h.ai, fun i v e hw => h.sb i v e (ho i hw), fun i v e hw => h.sg i v e (ho i hw), fun i v e hw => h.ss i v e (ho i hw), h.bg, h.bs, h.gs⟩
end
end Go.Proofs.Eng
namespace Go.Proofs.Eng
open Go Go.Proofs
set_option maxRecDepth 100000
set_option maxHeartbeats 16000000
theorem sum_mem {b : Nat} : ∀ {l : List Nat}, b ∈ l → b ≤ l.sum
 | x :: l, h => by
  rcases List.mem_cons.1 h with rfl | h
  ·simp
  ·have := sum_mem h; simp; omega
theorem set_ne {H : List AObj} {k j : Nat} {o x : AObj} (h : H[k]? = some o) (n : j ≠ k) : (H.set j x)[k]? = some o := by rw [List.getElem?_set, if_neg n]; exact h
theorem AllZ.mem {P : Ex → Int → Prop} : ∀ {l : List Ex} {zs : List Int}, AllZ P l zs → ∀ {x}, x ∈ l → ∃ z, P x z
 | [], [], _, x, hx => by cases hx
 | y :: l, z :: zs, h, x, hx => by
  rcases List.mem_cons.1 hx with rfl | hx
  ·exact ⟨z, h.1⟩
  ·exact AllZ.mem h.2 hx
 | [], _ :: _, h, _, _ => h.elim
 | _ :: _, [], h, _, _ => h.elim
end Go.Proofs.Eng
namespace Go.Proofs.Eng
open Go Go.Proofs
set_option maxRecDepth 100000
theorem slice_pre {es : Nat} {al : List AV} {t : Tl} (ht : t.pure = true) {n : Nat} (hn : n ≤ al.length) : ∃ t', t'.pure = true ∧ sliceA es al t 0 n none = some (.sl (al.take n) t') := by
 unfold sliceA
 rw [if_pos ⟨Nat.zero_le _, hn⟩]
 simp only [List.drop_zero]
 split
 ·rename_i h
  exact ⟨t, ht, by rw [h.2, List.take_length]⟩
 ·cases t with
  | tl _ _ => simp [Tl.pure] at ht
  | tls _ _ _ => simp [Tl.pure] at ht
  | _ => exact ⟨_, rfl, rfl⟩
theorem slice_suf {es : Nat} {al : List AV} {t : Tl} (ht : t.pure = true) {n m : Nat} (hn : n ≤ m) (hm : m = al.length) : ∃ t', t'.pure = true ∧ sliceA es al t n m none = some (.sl (al.drop n) t') := by
 subst hm
 unfold sliceA
 rw [if_pos ⟨hn, Nat.le_refl _⟩]
 simp only [List.take_length]
 split
 ·rename_i h
  exact ⟨t, ht, by rw [h.1, List.drop_zero]⟩
 ·cases t with
  | tl _ _ => simp [Tl.pure] at ht
  | tls _ _ _ => simp [Tl.pure] at ht
  | _ => exact ⟨_, rfl, rfl⟩
theorem or_some {p : Prop} {_ : Decidable p} {c d : Bool} (h : (decide p || c) = d) : ∃ b : Bool, (b = true ↔ p) ∧ (b || c) = d := ⟨_, decide_eq_true_iff, h⟩
theorem ints_at {l : List Int} {j : Nat} (h : j < l.length) : ∃ x, l[j]? = some x ∧ (ints l)[j]? = some (.int x) := by
 obtain ⟨x, a, _, c⟩ := ints_get h; exact ⟨x, a, c⟩
theorem nmA_at {l : List ByteArray} {j : Nat} (h : j < l.length) : ∃ x, l[j]? = some x ∧ (nmA l)[j]? = some (.str x) := by
 have := List.getElem?_eq_getElem h
 exact ⟨_, this, by rw [nmA, List.getElem?_map, this]; rfl⟩
theorem insA_at {l : List Ins} {j : Nat} (h : j < l.length) : ∃ x, l[j]? = some x ∧ (insA l)[j]? = some (.agg [.int x.op, .int x.a, .int x.b, .str x.n]) := by
 have := List.getElem?_eq_getElem h
 exact ⟨_, this, by rw [insA, List.getElem?_map, this]; rfl⟩
theorem ix61_ret (f : FuncId) (caps : List AV) (hf : md f = .pure) (hcaps : pureAVs caps = true) (p : Int → Bool) {l : List Int} {t : Tl} (hl : l.length ≤ lenB) (hg : ∀ x ∈ l, Out md pfs f (.int x :: caps) (· = .bool (p x)) fun _ => False) :
  Out md pfs 161 [.sl (ints l) t, .fn f caps] (fun v => ∃ r : Int, v = .int r ∧ ((r = -1 ∧ l.any p = false) ∨ ∃ (j : Nat) (x : Int), r = j ∧ l[j]? = some x ∧ p x = true ∧ (l.take j).any p = false)) fun _ => False := by
 refine out_of pf161_is (Nat.le_of_ble_eq_true rfl) ?_
 simp only [pf161, ↓wpre, wall, simprocAttr]
 refine W_loopE (fun j => l.length - j) (fun j E H T => E 0 = .sl (ints l) t ∧ E 1 = .fn f caps ∧ E 7 = .int l.length ∧ E 8 = .int j ∧ j ≤ l.length ∧ (l.take j).any p = false) ?_ 0 ?_
 ·rintro j E H T ⟨e0, e1, e7, e8, hj, hn⟩
  rcases Nat.lt_or_ge j l.length with hlt | hge
  ·obtain ⟨x, d0, d4⟩ := ints_at hlt
   have hdec : decide ((j : Int) < l.length) = true := by simpa using hlt
   obtain ⟨v, rfl, hc⟩ := (hg x (List.mem_of_getElem? d0)).call hf (by simp [pvs_cons, pvs_nil, pv_v, hcaps])
   cases hp : p x
   ·simp only [↓wpre, wall, simprocAttr, e0, e1, e7, e8, hdec, d4, ints_all, ints_len, hc, hp]
    exact EQ_in ⟨j + 1, by omega, e0, e1, e7, next_ixv (by omega), by omega, by rw [List.take_add_one, d0]; simp [List.any_append, hn, hp]⟩
   ·simp only [↓wpre, wall, simprocAttr, e0, e1, e7, e8, hdec, d4, ints_all, ints_len, hc, hp]
    exact ⟨_, rfl, .inr ⟨j, x, rfl, d0, hp, hn⟩⟩
  ·have hdec : decide ((j : Int) < l.length) = false := by simpa using hge
   simp only [↓wpre, wall, simprocAttr, e0, e1, e7, e8, hdec, ints_len]
   rw [List.take_of_length_le (by omega)] at hn
   exact ⟨_, rfl, .inl ⟨rfl, hn⟩⟩
 ·exact ⟨rfl, rfl, by rw [← ints_len l]; rfl, rfl, Nat.zero_le _, rfl⟩
theorem cf35_ret {p : Int → Bool} (f : FuncId) (caps : List AV) (hf : md f = .pure) (hcaps : pureAVs caps = true) {l : List Int} {t : Tl} (ht : t.pure = true) (hl : l.length ≤ lenB) (hg : ∀ x ∈ l, Out md pfs f (.int x :: caps) (· = .bool (p x)) fun _ => False) : Out md pfs 132 [.sl (ints l) t, .fn f caps] (· = .bool (l.any p)) fun _ => False := by
 refine out_of pf132_is (Nat.le_of_ble_eq_true rfl) ?_
 obtain ⟨v, ⟨r, rfl, hr⟩, hc⟩ := (ix61_ret f caps hf hcaps p (t := t) hl hg).call rfl (by simp [pvs_cons, pvs_nil, pv_sl, pv_fn, ht, ints_pure, hcaps])
 have hd : decide (r ≥ 0) = l.any p := by
  rcases hr with ⟨rfl, h2⟩ | ⟨j, x, rfl, h2, h3, _⟩
  ·rw [h2]; rfl
  ·have : l.any p = true := List.any_eq_true.2 ⟨x, List.mem_of_getElem? h2, h3⟩
   rw [this]; simp
 simp only [pf132, ↓wpre, wall, simprocAttr, hc, hd]
theorem ix63_ret (f : FuncId) (caps : List AV) (hf : md f = .pure) (hcaps : pureAVs caps = true) (p : ByteArray → Bool) {l : List ByteArray} {t : Tl} (hl : l.length ≤ lenB) (hg : ∀ x ∈ l, Out md pfs f (.str x :: caps) (· = .bool (p x)) fun _ => False) :
  Out md pfs 163 [.sl (nmA l) t, .fn f caps] (fun v => ∃ r : Int, v = .int r ∧ ((r = -1 ∧ l.any p = false) ∨ ∃ (j : Nat) (x : ByteArray), r = j ∧ l[j]? = some x ∧ p x = true ∧ (l.take j).any p = false)) fun _ => False := by
 refine out_of pf163_is (Nat.le_of_ble_eq_true rfl) ?_
 simp only [pf163, ↓wpre, wall, simprocAttr]
 refine W_loopE (fun j => l.length - j) (fun j E H T => E 0 = .sl (nmA l) t ∧ E 1 = .fn f caps ∧ E 7 = .int l.length ∧ E 8 = .int j ∧ j ≤ l.length ∧ (l.take j).any p = false) ?_ 0 ?_
 ·rintro j E H T ⟨e0, e1, e7, e8, hj, hn⟩
  rcases Nat.lt_or_ge j l.length with hlt | hge
  ·obtain ⟨x, d0, d4⟩ := nmA_at hlt
   have hdec : decide ((j : Int) < l.length) = true := by simpa using hlt
   obtain ⟨v, rfl, hc⟩ := (hg x (List.mem_of_getElem? d0)).call hf (by simp [pvs_cons, pvs_nil, pv_v, hcaps])
   cases hp : p x
   ·simp only [↓wpre, wall, simprocAttr, e0, e1, e7, e8, hdec, d4, nmA_all, nmA_len, hc, hp]
    exact EQ_in ⟨j + 1, by omega, e0, e1, e7, next_ixv (by omega), by omega, by rw [List.take_add_one, d0]; simp [List.any_append, hn, hp]⟩
   ·simp only [↓wpre, wall, simprocAttr, e0, e1, e7, e8, hdec, d4, nmA_all, nmA_len, hc, hp]
    exact ⟨_, rfl, .inr ⟨j, x, rfl, d0, hp, hn⟩⟩
  ·have hdec : decide ((j : Int) < l.length) = false := by simpa using hge
   simp only [↓wpre, wall, simprocAttr, e0, e1, e7, e8, hdec, nmA_len]
   rw [List.take_of_length_le (by omega)] at hn
   exact ⟨_, rfl, .inl ⟨rfl, hn⟩⟩
 ·exact ⟨rfl, rfl, by rw [← nmA_len l]; rfl, rfl, Nat.zero_le _, rfl⟩
theorem cf38_ret {p : ByteArray → Bool} (f : FuncId) (caps : List AV) (hf : md f = .pure) (hcaps : pureAVs caps = true) {l : List ByteArray} {t : Tl} (ht : t.pure = true) (hl : l.length ≤ lenB) (hg : ∀ x ∈ l, Out md pfs f (.str x :: caps) (· = .bool (p x)) fun _ => False) : Out md pfs 135 [.sl (nmA l) t, .fn f caps] (· = .bool (l.any p)) fun _ => False := by
 refine out_of pf135_is (Nat.le_of_ble_eq_true rfl) ?_
 obtain ⟨v, ⟨r, rfl, hr⟩, hc⟩ := (ix63_ret f caps hf hcaps p (t := t) hl hg).call rfl (by simp [pvs_cons, pvs_nil, pv_sl, pv_fn, ht, nmPure, hcaps])
 have hd : decide (r ≥ 0) = l.any p := by
  rcases hr with ⟨rfl, h2⟩ | ⟨j, x, rfl, h2, h3, _⟩
  ·rw [h2]; rfl
  ·have : l.any p = true := List.any_eq_true.2 ⟨x, List.mem_of_getElem? h2, h3⟩
   rw [this]; simp
 simp only [pf135, ↓wpre, wall, simprocAttr, hc, hd]
theorem ix101_ret (f : FuncId) (caps : List AV) (hf : md f = .pure) (hcaps : pureAVs caps = true) (p : Ins → Bool) {l : List Ins} {t : Tl} (hl : l.length ≤ lenB) (hg : ∀ x ∈ l, Out md pfs f (.agg [.int x.op, .int x.a, .int x.b, .str x.n] :: caps) (· = .bool (p x)) fun _ => False) :
  Out md pfs 185 [.sl (insA l) t, .fn f caps] (fun v => ∃ r : Int, v = .int r ∧ ((r = -1 ∧ l.any p = false) ∨ ∃ (j : Nat) (x : Ins), r = j ∧ l[j]? = some x ∧ p x = true ∧ (l.take j).any p = false)) fun _ => False := by
 refine out_of pf185_is (Nat.le_of_ble_eq_true rfl) ?_
 simp only [pf185, ↓wpre, wall, simprocAttr]
 refine W_loopE (fun j => l.length - j) (fun j E H T => E 0 = .sl (insA l) t ∧ E 1 = .fn f caps ∧ E 7 = .int l.length ∧ E 8 = .int j ∧ j ≤ l.length ∧ (l.take j).any p = false) ?_ 0 ?_
 ·rintro j E H T ⟨e0, e1, e7, e8, hj, hn⟩
  rcases Nat.lt_or_ge j l.length with hlt | hge
  ·obtain ⟨x, d0, d4⟩ := insA_at hlt
   have hdec : decide ((j : Int) < l.length) = true := by simpa using hlt
   obtain ⟨v, rfl, hc⟩ := (hg x (List.mem_of_getElem? d0)).call hf (by simp [pvs_cons, pvs_nil, pv_agg, pv_v, hcaps])
   cases hp : p x
   ·simp only [↓wpre, wall, simprocAttr, e0, e1, e7, e8, hdec, d4, insA_all, insA_len, hc, hp]
    exact EQ_in ⟨j + 1, by omega, e0, e1, e7, next_ixv (by omega), by omega, by rw [List.take_add_one, d0]; simp [List.any_append, hn, hp]⟩
   ·simp only [↓wpre, wall, simprocAttr, e0, e1, e7, e8, hdec, d4, insA_all, insA_len, hc, hp]
    exact ⟨_, rfl, .inr ⟨j, x, rfl, d0, hp, hn⟩⟩
  ·have hdec : decide ((j : Int) < l.length) = false := by simpa using hge
   simp only [↓wpre, wall, simprocAttr, e0, e1, e7, e8, hdec, insA_len]
   rw [List.take_of_length_le (by omega)] at hn
   exact ⟨_, rfl, .inl ⟨rfl, hn⟩⟩
 ·exact ⟨rfl, rfl, by rw [← insA_len l]; rfl, rfl, Nat.zero_le _, rfl⟩
theorem cf88_ret {p : Ins → Bool} (f : FuncId) (caps : List AV) (hf : md f = .pure) (hcaps : pureAVs caps = true) {l : List Ins} {t : Tl} (ht : t.pure = true) (hl : l.length ≤ lenB) (hg : ∀ x ∈ l, Out md pfs f (.agg [.int x.op, .int x.a, .int x.b, .str x.n] :: caps) (· = .bool (p x)) fun _ => False) : Out md pfs 182 [.sl (insA l) t, .fn f caps] (· = .bool (l.any p)) fun _ => False := by
 refine out_of pf182_is (Nat.le_of_ble_eq_true rfl) ?_
 obtain ⟨v, ⟨r, rfl, hr⟩, hc⟩ := (ix101_ret f caps hf hcaps p (t := t) hl hg).call rfl (by simp [pvs_cons, pvs_nil, pv_sl, pv_fn, ht, insPure, hcaps])
 have hd : decide (r ≥ 0) = l.any p := by
  rcases hr with ⟨rfl, h2⟩ | ⟨j, x, rfl, h2, h3, _⟩
  ·rw [h2]; rfl
  ·have : l.any p = true := List.any_eq_true.2 ⟨x, List.mem_of_getElem? h2, h3⟩
   rw [this]; simp
 simp only [pf182, ↓wpre, wall, simprocAttr, hc, hd]
theorem ind24_ret {l : List Int} {t : Tl} (x : Int) (hl : l.length ≤ lenB) :
  Out md pfs 179 [.sl (ints l) t, .int x] (fun v => ∃ r : Int, v = .int r ∧ ((r = -1 ∧ x ∉ l) ∨ ∃ j : Nat, r = j ∧ l[j]? = some x ∧ x ∉ l.take j)) fun _ => False := by
 refine out_of pf179_is (Nat.le_of_ble_eq_true rfl) ?_
 simp only [pf179, ↓wpre, wall, simprocAttr]
 refine W_loopE (fun j => l.length - j) (fun j E H T => E 0 = .sl (ints l) t ∧ E 1 = .int x ∧ E 7 = .int l.length ∧ E 8 = .int j ∧ j ≤ l.length ∧ x ∉ l.take j) ?_ 0 ?_
 ·rintro j E H T ⟨e0, e1, e7, e8, hj, hn⟩
  rcases Nat.lt_or_ge j l.length with hlt | hge
  ·obtain ⟨y, d0, d4⟩ := ints_at hlt
   have hdec : decide ((j : Int) < l.length) = true := by simpa using hlt
   by_cases hxy : x = y
   ·subst hxy
    simp only [↓wpre, wall, simprocAttr, e0, e1, e7, e8, hdec, d4, ints_all, ints_len, str_eq, str_beq, decide_true, beq_self_eq_true]
    exact ⟨_, rfl, .inr ⟨j, rfl, d0, hn⟩⟩
   ·have hb : (x == y) = false := beq_false_of_ne hxy
    have hd : decide (x = y) = false := decide_eq_false hxy
    simp only [↓wpre, wall, simprocAttr, e0, e1, e7, e8, hdec, d4, ints_all, ints_len, str_eq, str_beq, hb, hd]
    exact EQ_in ⟨j + 1, by omega, e0, e1, e7, next_ixv (by omega), by omega, by rw [List.take_add_one, d0]; simp [hn, hxy]⟩
  ·have hdec : decide ((j : Int) < l.length) = false := by simpa using hge
   simp only [↓wpre, wall, simprocAttr, e0, e1, e7, e8, hdec, ints_len]
   rw [List.take_of_length_le (by omega)] at hn
   exact ⟨_, rfl, .inl ⟨rfl, hn⟩⟩
 ·exact ⟨rfl, rfl, by rw [← ints_len l]; rfl, rfl, Nat.zero_le _, by simp⟩
theorem con62_ret {l : List Int} {t : Tl} (x : Int) (ht : t.pure = true) (hl : l.length ≤ lenB) {b : Bool} (hbx : b = true ↔ x ∈ l) : Out md pfs 162 [.sl (ints l) t, .int x] (· = .bool b) fun _ => False := by
 refine out_of pf162_is (Nat.le_of_ble_eq_true rfl) ?_
 obtain ⟨v, ⟨r, rfl, hr⟩, hc⟩ := (ind24_ret (l := l) (t := t) x hl).call rfl (by simp [pvs_cons, pvs_nil, pv_sl, pv_v, ht, ints_pure])
 have hd : decide (r ≥ 0) = b := by
  rcases hr with ⟨rfl, h2⟩ | ⟨j, rfl, h2, _⟩
  ·cases b with
   | false => rfl
   | true => exact absurd (hbx.1 rfl) h2
  ·rw [hbx.2 (List.mem_of_getElem? h2)]; simp
 simp only [pf162, ↓wpre, wall, simprocAttr, hc, hd]
theorem rp37_ret {l : List Int} {t : Tl} (ht : t.pure = true) (hl : l.length ≤ lenB) : Out md pfs 134 [.sl (ints l) t] (· = .bool (twice [] l)) fun _ => False := by
 refine out_of pf134_is (Nat.le_of_ble_eq_true rfl) ?_
 simp only [pf134, ↓wpre, wall, simprocAttr]
 refine W_loopE (fun j => l.length - j) (fun j E H T => E 0 = .sl (ints l) t ∧ E 5 = .sl (ints l) t ∧ E 6 = .int l.length ∧ E 7 = .int j ∧ j ≤ l.length ∧ twice (l.take j) (l.drop j) = twice [] l) ?_ 0 ⟨rfl, rfl, by rw [← ints_len l]; rfl, rfl, Nat.zero_le _, rfl⟩
 rintro j E H T ⟨e0, e5, e6, e7, hj, hn⟩
 rcases Nat.lt_or_ge j l.length with hlt | hge
 ·obtain ⟨y, d0, d4⟩ := ints_at hlt
  have hdec : decide ((j : Int) < l.length) = true := by simpa using hlt
  have hdr : l.drop j = y :: l.drop (j + 1) := by
   obtain ⟨h, rfl⟩ := List.getElem?_eq_some_iff.1 d0
   exact List.drop_eq_getElem_cons h
  have htk : l.take (j + 1) = l.take j ++ [y] := by rw [List.take_add_one, d0]; rfl
  rw [hdr, twice, ← htk] at hn
  have htl : (l.take j).length = j := by rw [List.length_take]; omega
  have hsl : (ints l).take j = ints (l.take j) := by simp [ints]
  have hj2 : (j : Int) ≤ (l.length : Nat) := by omega
  obtain ⟨t', ht', hs⟩ := slice_pre (es := 1) (al := ints l) ht (n := j) (by rw [ints_len]; exact hj)
  rw [hsl] at hs
  obtain ⟨b, hb, hn⟩ := or_some hn
  obtain ⟨_, rfl, hc⟩ := (con62_ret (l := l.take j) (t := t') y ht' (by omega) (b := b) hb).call rfl (by simp [pvs_cons, pvs_nil, pv_sl, pv_v, ints_pure, ht'])
  cases b
  ·simp only [↓wpre, wall, simprocAttr, e0, e5, e6, e7, hdec, d4, ints_all, ints_len, hj2, hs, hc]
   exact EQ_in ⟨j + 1, by omega, e0, e5, e6, next_ixv (by omega), by omega, by simpa using hn⟩
  ·simp only [↓wpre, wall, simprocAttr, e0, e5, e6, e7, hdec, d4, ints_all, ints_len, hj2, hs, hc]
   rw [← hn]; rfl
 ·have hdec : decide ((j : Int) < l.length) = false := by simpa using hge
  simp only [↓wpre, wall, simprocAttr, e0, e5, e6, e7, hdec]
  rw [List.drop_eq_nil_of_le (by omega), twice] at hn
  rw [← hn]
theorem ind87_ret {l : List ByteArray} {t : Tl} (x : ByteArray) (hl : l.length ≤ lenB) :
  Out md pfs 180 [.sl (nmA l) t, .str x] (fun v => ∃ r : Int, v = .int r ∧ ((r = -1 ∧ x ∉ l) ∨ ∃ j : Nat, r = j ∧ l[j]? = some x ∧ x ∉ l.take j)) fun _ => False := by
 refine out_of pf180_is (Nat.le_of_ble_eq_true rfl) ?_
 simp only [pf180, ↓wpre, wall, simprocAttr]
 refine W_loopE (fun j => l.length - j) (fun j E H T => E 0 = .sl (nmA l) t ∧ E 1 = .str x ∧ E 7 = .int l.length ∧ E 8 = .int j ∧ j ≤ l.length ∧ x ∉ l.take j) ?_ 0 ?_
 ·rintro j E H T ⟨e0, e1, e7, e8, hj, hn⟩
  rcases Nat.lt_or_ge j l.length with hlt | hge
  ·obtain ⟨y, d0, d4⟩ := nmA_at hlt
   have hdec : decide ((j : Int) < l.length) = true := by simpa using hlt
   by_cases hxy : x = y
   ·subst hxy
    simp only [↓wpre, wall, simprocAttr, e0, e1, e7, e8, hdec, d4, nmA_all, nmA_len, str_eq, str_beq, decide_true, beq_self_eq_true]
    exact ⟨_, rfl, .inr ⟨j, rfl, d0, hn⟩⟩
   ·have hd : decide (x = y) = false := decide_eq_false hxy
    simp only [↓wpre, wall, simprocAttr, e0, e1, e7, e8, hdec, d4, nmA_all, nmA_len, str_eq, str_beq, hd]
    exact EQ_in ⟨j + 1, by omega, e0, e1, e7, next_ixv (by omega), by omega, by rw [List.take_add_one, d0]; simp [hn, hxy]⟩
  ·have hdec : decide ((j : Int) < l.length) = false := by simpa using hge
   simp only [↓wpre, wall, simprocAttr, e0, e1, e7, e8, hdec, nmA_len]
   rw [List.take_of_length_le (by omega)] at hn
   exact ⟨_, rfl, .inl ⟨rfl, hn⟩⟩
 ·exact ⟨rfl, rfl, by rw [← nmA_len l]; rfl, rfl, Nat.zero_le _, by simp⟩
theorem con65_ret {l : List ByteArray} {t : Tl} (x : ByteArray) (ht : t.pure = true) (hl : l.length ≤ lenB) {b : Bool} (hbx : b = true ↔ x ∈ l) : Out md pfs 164 [.sl (nmA l) t, .str x] (· = .bool b) fun _ => False := by
 refine out_of pf164_is (Nat.le_of_ble_eq_true rfl) ?_
 obtain ⟨v, ⟨r, rfl, hr⟩, hc⟩ := (ind87_ret (l := l) (t := t) x hl).call rfl (by simp [pvs_cons, pvs_nil, pv_sl, pv_v, ht, nmPure])
 have hd : decide (r ≥ 0) = b := by
  rcases hr with ⟨rfl, h2⟩ | ⟨j, rfl, h2, _⟩
  ·cases b with
   | false => rfl
   | true => exact absurd (hbx.1 rfl) h2
  ·rw [hbx.2 (List.mem_of_getElem? h2)]; simp
 simp only [pf164, ↓wpre, wall, simprocAttr, hc, hd]
theorem rp41_ret {l : List ByteArray} {t : Tl} (ht : t.pure = true) (hl : l.length ≤ lenB) : Out md pfs 137 [.sl (nmA l) t] (· = .bool (twice [] l)) fun _ => False := by
 refine out_of pf137_is (Nat.le_of_ble_eq_true rfl) ?_
 simp only [pf137, ↓wpre, wall, simprocAttr]
 refine W_loopE (fun j => l.length - j) (fun j E H T => E 0 = .sl (nmA l) t ∧ E 5 = .sl (nmA l) t ∧ E 6 = .int l.length ∧ E 7 = .int j ∧ j ≤ l.length ∧ twice (l.take j) (l.drop j) = twice [] l) ?_ 0 ⟨rfl, rfl, by rw [← nmA_len l]; rfl, rfl, Nat.zero_le _, rfl⟩
 rintro j E H T ⟨e0, e5, e6, e7, hj, hn⟩
 rcases Nat.lt_or_ge j l.length with hlt | hge
 ·obtain ⟨y, d0, d4⟩ := nmA_at hlt
  have hdec : decide ((j : Int) < l.length) = true := by simpa using hlt
  have hdr : l.drop j = y :: l.drop (j + 1) := by
   obtain ⟨h, rfl⟩ := List.getElem?_eq_some_iff.1 d0
   exact List.drop_eq_getElem_cons h
  have htk : l.take (j + 1) = l.take j ++ [y] := by rw [List.take_add_one, d0]; rfl
  rw [hdr, twice, ← htk] at hn
  have htl : (l.take j).length = j := by rw [List.length_take]; omega
  have hsl : (nmA l).take j = nmA (l.take j) := by simp [nmA]
  have hj2 : (j : Int) ≤ (l.length : Nat) := by omega
  obtain ⟨t', ht', hs⟩ := slice_pre (es := 1) (al := nmA l) ht (n := j) (by rw [nmA_len]; exact hj)
  rw [hsl] at hs
  obtain ⟨b, hb, hn⟩ := or_some hn
  obtain ⟨_, rfl, hc⟩ := (con65_ret (l := l.take j) (t := t') y ht' (by omega) (b := b) hb).call rfl (by simp [pvs_cons, pvs_nil, pv_sl, pv_v, nmPure, ht'])
  cases b
  ·simp only [↓wpre, wall, simprocAttr, e0, e5, e6, e7, hdec, d4, nmA_all, nmA_len, hj2, hs, hc]
   exact EQ_in ⟨j + 1, by omega, e0, e5, e6, next_ixv (by omega), by omega, by simpa using hn⟩
  ·simp only [↓wpre, wall, simprocAttr, e0, e5, e6, e7, hdec, d4, nmA_all, nmA_len, hj2, hs, hc]
   rw [← hn]; rfl
 ·have hdec : decide ((j : Int) < l.length) = false := by simpa using hge
  simp only [↓wpre, wall, simprocAttr, e0, e5, e6, e7, hdec]
  rw [List.drop_eq_nil_of_le (by omega), twice] at hn
  rw [← hn]
end Go.Proofs.Eng
namespace Go.Proofs.Eng
open Go Go.Proofs
set_option maxRecDepth 100000
set_option maxHeartbeats 16000000
theorem operands_ret (op : Int) : Out md pfs 181 [.int op] (· = .tup [.bool (usesA op), .bool (usesB op), .bool (usesN op)]) fun _ => False := by
 refine out_of pf181_is (Nat.le_of_ble_eq_true rfl) ?_
 have h : op = 0 ∨ op = 1 ∨ op = 5 ∨ op = 7 ∨ op = 6 ∨ op = 4 ∨ ((op == 0) = false ∧ (op == 1) = false ∧ (op == 5) = false ∧ (op == 7) = false ∧ (op == 6) = false ∧ (op == 4) = false) := by
  simp only [beq_eq_false_iff_ne]; omega
 rcases h with rfl | rfl | rfl | rfl | rfl | rfl | ⟨h0, h1, h5, h7, h6, h4⟩
 all_goals first
  | (simp only [pf181, ↓wpre, wall, simprocAttr, usesA, usesB, usesN]; done)
  | (simp only [pf181, ↓wpre, wall, simprocAttr, usesA, usesB, usesN]; rfl)
  | (simp only [pf181, ↓wpre, wall, simprocAttr, usesA, usesB, usesN, h0, h1, h5, h7, h6, h4]; first | done | rfl)
theorem effect_ret (x : Ins) (h0 : 0 ≤ x.op) (h1 : x.op ≤ 14) : Out md pfs 169 [x.av] (· = .tup [.int (popI x), .int (pushI x)]) fun _ => False := by
 obtain ⟨op, a, b, n⟩ := x
 simp only at h0 h1
 refine out_of pf169_is (Nat.le_of_ble_eq_true rfl) ?_
 have h : op = 0 ∨ op = 1 ∨ op = 2 ∨ op = 3 ∨ op = 4 ∨ op = 5 ∨ op = 6 ∨ op = 7 ∨ op = 8 ∨ op = 9 ∨ op = 10 ∨ op = 11 ∨ op = 12 ∨ op = 13 ∨ op = 14 := by omega
 rcases h with rfl | rfl | rfl | rfl | rfl | rfl | rfl | rfl | rfl | rfl | rfl | rfl | rfl | rfl | rfl
 all_goals
  simp only [pf169, ↓wpre, wall, simprocAttr, Ins.av, popI, pushI]
  first | done | rfl | simp
theorem plain1_ret (x : Ins) : Out md pfs 183 [.agg [.int x.op, .int x.a, .int x.b, .str x.n]] (· = .bool (x.op != 6)) fun _ => False := by
 refine out_of pf183_is (Nat.le_of_ble_eq_true rfl) ?_
 simp only [pf183, ↓wpre, wall, simprocAttr]
theorem str_empty (s : ByteArray) : (s.size == 0) = decide (s = ⟨#[]⟩) := by
 obtain ⟨⟨l⟩⟩ := s
 cases l <;> simp [ByteArray.size]
theorem plain_ret (x : Ins) {rest : List Ins} {t : Tl} (br : Int) (ht : t.pure = true) (hl : rest.length ≤ lenB) : Out md pfs 167 [x.av, .sl (insA rest) t, .int br] (· = .bool (iplB x rest br)) fun _ => False := by
 obtain ⟨op, a, b, n⟩ := x
 refine out_of pf167_is (Nat.le_of_ble_eq_true rfl) ?_
 obtain ⟨_, rfl, co⟩ := (operands_ret op).call rfl (by simp [pvs_cons, pvs_nil, pv_v])
 cases c1 : decide (op < 0) <;> cases c2 : decide (op ≥ 15) <;> cases c3 : decide (a < 0) <;> cases c4 : decide (b < 0)
 case false.false.false.false =>
  generalize hA : usesA op = uA at co
  generalize hB : usesB op = uB at co
  generalize hN : usesN op = uN at co
  have tri : ∀ (u c : Bool), (u = true) ∨ (u = false ∧ c = true) ∨ (u = false ∧ c = false) := fun u c => by cases u <;> cases c <;> simp
  simp only [decide_eq_true_eq, decide_eq_false_iff_not] at c1 c2 c3 c4
  have k1 : decide (0 ≤ op) = true := decide_eq_true (by omega)
  have k2 : decide (op ≤ 14) = true := decide_eq_true (by omega)
  have k3 : decide (0 ≤ a) = true := decide_eq_true (by omega)
  have k4 : decide (0 ≤ b) = true := decide_eq_true (by omega)
  have k5 : decide (op < 0) = false := decide_eq_false (by omega)
  have k6 : decide (op ≥ 15) = false := decide_eq_false (by omega)
  have k7 : decide (a < 0) = false := decide_eq_false (by omega)
  have k8 : decide (b < 0) = false := decide_eq_false (by omega)
  have e0 : iplB ⟨op, a, b, n⟩ rest br = ((uA || a == 0) && (uB || b == 0) && (uN || n.size == 0) && ((op == 6) == decide (0 < br)) && (op != 5 || caseOK ⟨op, a, b, n⟩ rest)) := by
   simp only [iplB, hA, hB, hN, k1, k2, k3, k4, Bool.true_and]
  obtain ⟨R, hR⟩ : ∃ R, R = iplB ⟨op, a, b, n⟩ rest br := ⟨_, rfl⟩
  rw [← hR]
  rw [e0] at hR
  clear e0
  have tA : (uA = true ∧ uA = true ∧ (uA || a == 0) = true) ∨ (uA = false ∧ (a != 0) = true ∧ (uA || a == 0) = false) ∨ (uA = false ∧ (a != 0) = false ∧ (uA || a == 0) = true) := by
   cases uA <;> cases h : (a == 0) <;> simp [bne, h]
  have tB : (uB = true ∧ uB = true ∧ (uB || b == 0) = true) ∨ (uB = false ∧ (b != 0) = true ∧ (uB || b == 0) = false) ∨ (uB = false ∧ (b != 0) = false ∧ (uB || b == 0) = true) := by
   cases uB <;> cases h : (b == 0) <;> simp [bne, h]
  have tN : (uN = true ∧ uN = true ∧ (uN || n.size == 0) = true) ∨ (uN = false ∧ (!decide (n = ⟨#[]⟩)) = true ∧ (uN || n.size == 0) = false) ∨ (uN = false ∧ (!decide (n = ⟨#[]⟩)) = false ∧ (uN || n.size == 0) = true) := by
   rw [str_empty]; cases uN <;> cases h : decide (n = ⟨#[]⟩) <;> simp
  have tC : ((op == 6) = decide (br > 0) ∧ (op == 6) = decide (br > 0) ∧ ((op == 6) == decide (0 < br)) = true) ∨ ((op == 6) = true ∧ decide (br > 0) = false ∧ ((op == 6) == decide (0 < br)) = false) ∨ ((op == 6) = false ∧ decide (br > 0) = true ∧ ((op == 6) == decide (0 < br)) = false) := by
   cases (op == 6) <;> cases h : decide (0 < br) <;> simp_all
  rcases tA with ⟨a1, a2, a3⟩ | ⟨a1, a2, a3⟩ | ⟨a1, a2, a3⟩
  rotate_left
  ·
   subst a1
   simp only [a3, Bool.false_and] at hR
   simp only [pf167, ↓wpre, wall, simprocAttr, Ins.av, k5, k6, k7, k8, co, a2, hR]
  all_goals
   rcases tB with ⟨b1, b2, b3⟩ | ⟨b1, b2, b3⟩ | ⟨b1, b2, b3⟩
   rotate_left
   ·
    simp only [b3, Bool.false_and, Bool.and_false] at hR
    simp only [pf167, ↓wpre, wall, simprocAttr, Ins.av, k5, k6, k7, k8, co, a1, a2, b1, b2, hR]
   all_goals
    rcases tN with ⟨n1, n2, n3⟩ | ⟨n1, n2, n3⟩ | ⟨n1, n2, n3⟩
    rotate_left
    ·
     simp only [n3, Bool.false_and, Bool.and_false] at hR
     simp only [pf167, ↓wpre, wall, simprocAttr, Ins.av, str_eq, k5, k6, k7, k8, co, a1, a2, b1, b2, n1, n2, hR]
    all_goals
     rcases tC with ⟨d1, d2, d3⟩ | ⟨d1, d2, d3⟩ | ⟨d1, d2, d3⟩
     rotate_left
     ·
      simp only [d3, Bool.false_and, Bool.and_false] at hR
      simp only [pf167, ↓wpre, wall, simprocAttr, Ins.av, str_eq, k5, k6, k7, k8, co, a1, a2, b1, b2, n1, n2, d1, d2, hR, show ((true : Bool) == false) = false from rfl, show ((false : Bool) == true) = false from rfl, Bool.not_false, Bool.not_true]
     ·
      simp only [d3, Bool.false_and, Bool.and_false] at hR
      simp only [pf167, ↓wpre, wall, simprocAttr, Ins.av, str_eq, k5, k6, k7, k8, co, a1, a2, b1, b2, n1, n2, d1, d2, hR, show ((true : Bool) == false) = false from rfl, show ((false : Bool) == true) = false from rfl, Bool.not_false, Bool.not_true]
     cases h5 : (op != 5)
     ·simp only [a3, b3, n3, d3, h5, Bool.true_and, Bool.false_or] at hR
      have ho5 : op = 5 := by simpa [bne] using h5
      obtain ⟨m, rfl⟩ : ∃ m : Nat, a = m := ⟨a.toNat, by omega⟩
      rw [caseOK] at hR
      simp only [Int.toNat_natCast] at hR
      cases g1 : decide ((m : Int) ≤ 32)
      ·rw [g1] at hR
       simp only [Bool.false_and] at hR
       simp only [pf167, ↓wpre, wall, simprocAttr, Ins.av, str_eq, insA_len, k5, k6, k7, k8, co, a1, a2, b1, b2, n1, n2, d1, d2, h5, g1, hR, beq_self_eq_true, Bool.not_true, Bool.not_false]
      cases g2 : decide ((m : Int) ≤ rest.length)
      ·rw [g1, g2] at hR
       simp only [Bool.false_and, Bool.and_false] at hR
       simp only [pf167, ↓wpre, wall, simprocAttr, Ins.av, str_eq, insA_len, k5, k6, k7, k8, co, a1, a2, b1, b2, n1, n2, d1, d2, h5, g1, g2, hR, beq_self_eq_true, Bool.not_true, Bool.not_false]
      rw [g1, g2] at hR
      simp only [Bool.true_and] at hR
      have g3 : m ≤ rest.length := by have := of_decide_eq_true g2; omega
      have g4 : (m : Int) ≤ rest.length := by omega
      obtain ⟨t', ht', hs⟩ := slice_pre (es := 4) (al := insA rest) ht (n := m) (by rw [insA_len]; exact g3)
      have hsl : (insA rest).take m = insA (rest.take m) := by simp [insA]
      rw [hsl] at hs
      obtain ⟨_, rfl, hc⟩ := (cf88_ret 183 [] rfl rfl (t := t') (l := rest.take m) ht' (by rw [List.length_take]; omega) (fun x _ => plain1_ret x)).call rfl (by simp [pvs_cons, pvs_nil, pv_sl, pv_fn, insPure, ht'])
      have hall : ((rest.take m).all fun y => y.op == 6) = !((rest.take m).any fun x => x.op != 6) := by
       rw [List.all_eq_not_any_not]; rfl
      rw [hall] at hR
      simp only [pf167, ↓wpre, wall, simprocAttr, Ins.av, str_eq, insA_len, k5, k6, k7, k8, co, a1, a2, b1, b2, n1, n2, d1, d2, h5, g1, g2, g4, hs, hc, hR, insA_all, beq_self_eq_true, Bool.not_true, Bool.not_false]
     ·simp only [a3, b3, n3, d3, h5, Bool.true_and, Bool.true_or] at hR
      simp only [pf167, ↓wpre, wall, simprocAttr, Ins.av, str_eq, k5, k6, k7, k8, co, a1, a2, b1, b2, n1, n2, d1, d2, h5, hR, beq_self_eq_true, Bool.not_true, Bool.not_false]
 all_goals
  simp only [pf167, ↓wpre, wall, simprocAttr, Ins.av, c1, c2, c3, c4]
  simp only [decide_eq_true_eq, decide_eq_false_iff_not] at c1 c2 c3 c4
  refine (boolAV ?_)
  simp [iplB]
  omega
end Go.Proofs.Eng
namespace Go.Proofs.Eng
open Go Go.Proofs
set_option maxRecDepth 100000
set_option maxHeartbeats 16000000
theorem out1_ret {Bs : List AV} {t1 : Tl} {x y : AV} (hp : pureAVs [.sl Bs t1, x, y] = true) (n : Int) : Out md pfs 133 [.int n, .ip [.sl Bs t1, x, y] 0] (· = .bool (decide (n < 1) || decide (n ≥ (Bs.length : Nat)))) fun _ => False := by
 refine out_of pf133_is (Nat.le_of_ble_eq_true rfl) ?_
 cases h1 : decide (n < 1) <;> cases h2 : decide (n ≥ (Bs.length : Nat))
 all_goals simp only [pf133, ↓wpre, wall, simprocAttr, h1, h2, Bool.or_true, Bool.or_false, Bool.true_or, Bool.false_or]
theorem out2_ret (s : ByteArray) (hs : s.size ≤ lenB) : Out md pfs 136 [.str s] (· = .bool (!isName s)) fun _ => False := by
 refine out_of pf136_is (Nat.le_of_ble_eq_true rfl) ?_
 obtain ⟨_, rfl, hc⟩ := (name_ret s hs).call rfl (by simp [pvs_cons, pvs_nil, pv_v])
 simp only [pf136, ↓wpre, wall, simprocAttr, hc]
theorem blsPure : ∀ {l : List (List Ins)} {al : List AV}, LIs blIs l al → pureAVs al = true
 | [], [], _ => rfl
 | [], _ :: _, h => h.elim
 | _ :: _, [], h => h.elim
 | b :: l, a :: al, h => by
  obtain ⟨⟨t, rfl, ht, _⟩, h⟩ := h
  rw [pvs_cons, blsPure h]; simp [pv_sl, ht, insPure]
theorem cdPure {c : Cd} {a : AV} (h : c.Is a) : pureAV a = true := by
 obtain ⟨Bs, t1, t2, t3, rfl, g1, g2, g3, g4, _⟩ := h
 simp [pv_agg, pvs_cons, pvs_nil, pv_sl, blsPure g1, g2, g3, g4, nmPure, ints_pure]
theorem outline_ret {c : Cd} {a : AV} (h : c.Is a) (hn : ∀ g ∈ c.gl, g.size ≤ lenB) : Out md pfs 87 [a] (· = .int c.outE) fun _ => False := by
 obtain ⟨Bs, t1, t2, t3, rfl, g1, g2, g3, g4, g5, g6, g7⟩ := id h
 have hp : pureAVs [.sl Bs t1, .sl (nmA c.gl) t2, .sl (ints c.st) t3] = true := by have := cdPure h; rwa [pv_agg] at this
 have hBl := g1.len
 refine out_of pf87_is (Nat.le_of_ble_eq_true rfl) ?_
 obtain ⟨_, rfl, c1⟩ := (cf35_ret (p := fun n => decide (n < 1) || decide (n ≥ (Bs.length : Nat))) 133 [.ip [.sl Bs t1, .sl (nmA c.gl) t2, .sl (ints c.st) t3] 0] rfl (by simp [pvs_cons, pvs_nil, pv_ip] at hp ⊢; simp [hp]) (t := t3) g4 g7 (fun x _ => out1_ret hp x)).callV rfl (s := ⟨[.cells false [.sl Bs t1, .sl (nmA c.gl) t2, .sl (ints c.st) t3]], []⟩) (args := [.sl (ints c.st) t3, .fn 133 [.ptr 0 0]]) (by
  rw [mapO, purify_pure (by simp [pv_sl, g4, ints_pure]), mapO, pz_box1 rfl hp, mapO])
 have hfz : (([.sl (ints c.st) t3, .fn 133 [.ptr 0 0]] : List AV).foldl (frz 20) ⟨[.cells false [.sl Bs t1, .sl (nmA c.gl) t2, .sl (ints c.st) t3]], []⟩) = ⟨[.cells true [.sl Bs t1, .sl (nmA c.gl) t2, .sl (ints c.st) t3]], []⟩ := by
  rw [List.foldl_cons, fr_pure (by simp [pv_sl, g4, ints_pure]), List.foldl_cons, fz_box1 rfl hp, List.foldl_nil]; rfl
 rw [hfz] at c1
 obtain ⟨_, rfl, c2⟩ := (rp37_ret g4 g7).call rfl (by simp [pvs_cons, pvs_nil, pv_sl, g4, ints_pure])
 obtain ⟨_, rfl, c3⟩ := (cf38_ret (p := fun s => !isName s) 136 [] rfl rfl (t := t2) g3 g6 (fun x hx => out2_ret x (hn x hx))).call rfl (by simp [pvs_cons, pvs_nil, pv_sl, pv_fn, g3, nmPure])
 obtain ⟨_, rfl, c4⟩ := (rp41_ret g3 g6).call rfl (by simp [pvs_cons, pvs_nil, pv_sl, g3, nmPure])
 generalize hA : (c.st.any fun n => decide (n < 1) || decide (n ≥ (Bs.length : Nat))) = bA at c1
 generalize hB : twice [] c.st = bB at c2
 generalize hC : (c.gl.any fun s => !isName s) = bC at c3
 generalize hD : twice [] c.gl = bD at c4
 have hA' : (c.st.any fun s => decide (s < 1) || decide ((c.bl.length : Int) ≤ s)) = bA := by rw [← hA, hBl]
 have hR : c.outE = if c.bl = [] ∨ c.st.length ≠ c.gl.length ∨ bA = true ∨ bB = true then 3 else if bC = true then 29 else if bD = true then 8 else 0 := by
  rw [Cd.outE, hA', hB, hC, hD]
 have hbl : c.bl = [] ↔ Bs.length = 0 := by rw [hBl]; exact ⟨fun h => by rw [h]; rfl, fun h => List.length_eq_zero_iff.1 h⟩
 rw [hR]
 cases q1 : (((Bs.length : Nat) : Int) == 0)
 ·have q1' : ¬ c.bl = [] := by rw [hbl]; have := ne_of_beq_false q1; omega
  cases q2 : (((c.st.length : Nat) : Int) != ((c.gl.length : Nat) : Int))
  ·have q2' : c.st.length = c.gl.length := by simp only [bne_eq_false_iff_eq] at q2; omega
   have q3 : (bA = true ∨ bB = true) ↔ (c.bl = [] ∨ c.st.length ≠ c.gl.length ∨ bA = true ∨ bB = true) := by simp [q1', q2']
   have hR2 : ∀ (x y : Int), (if c.bl = [] ∨ c.st.length ≠ c.gl.length ∨ bA = true ∨ bB = true then x else y) = if bA = true ∨ bB = true then x else y := fun x y => by
    by_cases h : bA = true ∨ bB = true
    ·rw [if_pos h, if_pos (q3.1 h)]
    ·rw [if_neg h, if_neg fun h' => h (q3.2 h')]
   rw [hR2]
   cases bA
   ·cases bB
    ·cases bC
     ·cases bD
      all_goals simp only [pf87, ↓wpre, wall, simprocAttr, List.length_append, List.append_assoc, app_get_len, app_get_add, app_set_len, app_set_add, ints_len, nmA_len, q1, q2, c1, c2, c3, c4, Bool.false_eq_true, or_self, if_false, if_true]
     ·simp only [pf87, ↓wpre, wall, simprocAttr, List.length_append, List.append_assoc, app_get_len, app_get_add, app_set_len, app_set_add, ints_len, nmA_len, q1, q2, c1, c2, c3, c4, Bool.false_eq_true, or_self, if_false, if_true]
    ·simp only [pf87, ↓wpre, wall, simprocAttr, List.length_append, List.append_assoc, app_get_len, app_get_add, app_set_len, app_set_add, ints_len, nmA_len, q1, q2, c1, c2, c3, c4, Bool.false_eq_true, false_or, if_true]
   ·simp only [pf87, ↓wpre, wall, simprocAttr, List.length_append, List.append_assoc, app_get_len, app_get_add, app_set_len, app_set_add, ints_len, nmA_len, q1, q2, c1, c2, c3, c4, true_or, if_true]
  ·have q2' : c.st.length ≠ c.gl.length := by simp only [bne_iff_ne, ne_eq] at q2; omega
   rw [if_pos (.inr (.inl q2'))]
   simp only [pf87, ↓wpre, wall, simprocAttr, List.length_append, List.append_assoc, app_get_len, app_get_add, app_set_len, app_set_add, ints_len, nmA_len, q1, q2]
 ·have q1' : c.bl = [] := by rw [hbl]; have := eq_of_beq q1; omega
  rw [if_pos (.inl q1')]
  simp only [pf87, ↓wpre, wall, simprocAttr, List.length_append, List.append_assoc, app_get_len, app_get_add, app_set_len, app_set_add, ints_len, nmA_len, q1]
end Go.Proofs.Eng
