/- Expressions are compiled. No conditions beyond those in the theorems. -/
import Derived.Test.YtflfmkkcnphdcaaGreatM4
set_option linter.all false
set_option linter.deprecated false
set_option linter.unnecessarySimpa false
set_option linter.unusedVariables false
set_option linter.unusedSimpArgs false
set_option linter.defProp false
namespace Go.Proofs.Eng
set_option maxRecDepth 100000
def Pr.es (p : Pr) : List Ex := p.main :: p.gs.map (·.2)
structure PrOK (p : Pr) (B : Int) : Prop where
 main : ErrZ p.gl B p.main 0
 gs : ∀ g ∈ p.gs, isName g.1 = true ∧ ErrZ p.gl B g.2 0
 nd : twice [] (p.gs.map (·.1)) = false
 hB : B ≤ B62
theorem PrOK.all {p : Pr} {B : Int} (h : PrOK p B) : ∀ e ∈ p.es, ErrZ p.gl B e 0 := fun e he => by
 rcases List.mem_cons.1 he with rfl | he
 ·exact h.main
 ·obtain ⟨g, hg, rfl⟩ := List.mem_map.1 he
  exact (h.gs g hg).2
theorem PrOK.ar {p : Pr} {B : Int} (h : PrOK p B) : arL p.es := (arL_iff _).2 fun e he => err_ar _ (h.all e he).1
open Go Go.Proofs
def Rw (f : FuncId) (args : List AV) (s : ASt) (PR : AV → ASt → Prop) : Prop := ∃ v s1, run md pfs f args s = some (.ret v, s1) ∧ PR v s1
def AQ (res : List PR) (PR : AV → ASt → Prop) : AExit → St → Prop
 | .pan _, _ => False
 | .exit _, _ => False
 | _, st => st.df = [] ∧ ∃ l, resA st.tm st.s res = some l ∧ PR (oneA l) st.s
theorem AQ_ret {res : List PR} {PR : AV → ASt → Prop} {st : St} : AQ res PR .ret st = (st.df = [] ∧ ∃ l, resA st.tm st.s res = some l ∧ PR (oneA l) st.s) := rfl
theorem AQ_normal {res : List PR} {PR : AV → ASt → Prop} {st : St} : AQ res PR .normal st = (st.df = [] ∧ ∃ l, resA st.tm st.s res = some l ∧ PR (oneA l) st.s) := rfl
theorem rw_of {f : FuncId} {pf : PF} (hp : pfs f = some pf) {args : List AV} {s : ASt} {PR : AV → ASt → Prop} (hn : args.length ≤ pf.nt) (h : W (run md pfs) md pf.body ⟨tmE pf.nt (argsE args), [], s⟩ (AQ pf.res PR) ()) : Rw f args s PR := by
 unfold Rw
 rw [run_eq hp (W_ora h)]
 unfold bodyI
 rw [args_tm args pf.nt hn]
 unfold W at h
 cases hx : execL (run md pfs) md (loopI (run md pfs) md) pf.body ⟨tmE pf.nt (argsE args), [], s⟩ with
 | none => rw [hx] at h; exact h.elim
 | some x =>
  obtain ⟨r, st⟩ := x
  obtain ⟨tm, df, s⟩ := st
  rw [hx] at h
  cases r with
  | exit i => exact h.elim
  | pan v => exact h.elim
  | normal =>
   obtain ⟨h1, l, h2, h3⟩ := h
   simp only at h1; subst h1
   refine ⟨oneA l, s, ?_, h3⟩
   simp only at h2
   simp only [List.isEmpty_nil, Bool.not_true, Bool.and_false, Bool.false_eq_true, if_false, leaveA, h2]; rfl
  | ret =>
   obtain ⟨h1, l, h2, h3⟩ := h
   simp only at h1; subst h1
   refine ⟨oneA l, s, ?_, h3⟩
   simp only at h2
   simp only [List.isEmpty_nil, Bool.not_true, Bool.and_false, Bool.false_eq_true, if_false, leaveA, h2]; rfl
theorem Rw.call {f : FuncId} {args : List AV} {s : ASt} {PR : AV → ASt → Prop} (h : Rw f args s PR) (hm : md f = .raw) : ∃ v s', PR v s' ∧ ∀ K KP, CW (run md pfs) md false s f args K KP () = K v s' := by
 obtain ⟨v, s1, h1, h2⟩ := h
 exact ⟨v, s1, h2, fun K KP => by simp [CW, callA, hm, h1]⟩
theorem Rw.mono {f : FuncId} {args : List AV} {s : ASt} {PR PR' : AV → ASt → Prop} (h : Rw f args s PR) (h1 : ∀ v s, PR v s → PR' v s) : Rw f args s PR' := by
 obtain ⟨v, s1, e1, e2⟩ := h
 exact ⟨v, s1, e1, h1 _ _ e2⟩
def Oth (T : List Nat) (t : Tl) (T' : List Nat) (t' : Tl) : Prop :=
 T.length ≤ T'.length ∧ (∀ i v, T[i]? = some v → (∀ ver, t ≠ .tl i ver) → T'[i]? = some v) ∧ ∀ i ver', t' = .tl i ver' → (∃ ver, t = .tl i ver) ∨ T.length ≤ i
theorem Oth.refl (T : List Nat) (t : Tl) : Oth T t T t := ⟨Nat.le_refl _, fun _ _ h _ => h, fun i v h => .inl ⟨v, h⟩⟩
theorem Oth.trans {T T' T'' : List Nat} {t t' t'' : Tl} (h : Oth T t T' t') (k : Oth T' t' T'' t'') : Oth T t T'' t'' := by
 refine ⟨Nat.le_trans h.1 k.1, fun i v e n => k.2.1 i v (h.2.1 i v e n) fun ver e' => ?_, fun i ver e => ?_⟩
 ·have hlt := (List.getElem?_eq_some_iff.1 e).1
  rcases h.2.2 i ver e' with ⟨v0, e0⟩ | hle
  ·exact n v0 e0
  ·omega
 ·rcases k.2.2 i ver e with ⟨v0, e0⟩ | hle
  ·exact h.2.2 i v0 e0
  ·exact .inr (Nat.le_trans h.1 hle)
theorem app_many {T : List Nat} {es : Nat} {l : List AV} {t : Tl} {xs : List AV} (h : App T l t) (hl : l.length + xs.length ≤ capB) (ha : (l.all fun x => x.cells.length == es) = true) (hx : (xs.all fun x => x.cells.length == es && x.cells.all oneCell) = true) :
  ∃ t' T', (∀ H, appA ⟨H, T⟩ es none l t xs = some (.sl (l ++ xs) t', ⟨H, T'⟩)) ∧ App T' (l ++ xs) t' ∧ Oth T t T' t' := by
 cases xs with
 | nil => exact ⟨t, T, fun H => by simp [appA], by simpa using h, .refl _ _⟩
 | cons x xs =>
 have hn : l.length + (x :: xs).length ≤ 1073741824 := hl
 rcases h with ⟨rfl, rfl⟩ | ⟨hne, id, ver, rfl, hT⟩
 ·refine ⟨.tl T.length 0, T ++ [0], fun H => ?_, .inr ⟨by simp, _, _, rfl, by simp⟩, by simp, fun i v e _ => by rw [List.getElem?_append_left (List.getElem?_eq_some_iff.1 e).1]; exact e, fun i ver' e => .inr ?_⟩
  ·simp only [appA]
   rw [if_pos ⟨.inl hn, ha, hx⟩]
  ·cases e; exact Nat.le_refl _
 ·have hlt := (List.getElem?_eq_some_iff.1 hT).1
  refine ⟨.tl id (ver + 1), T.set id (ver + 1), fun H => ?_, .inr ⟨by simp, _, _, rfl, by simp [hlt]⟩, by simp, fun i v e n => ?_, fun i ver' e => .inl ?_⟩
  ·simp only [appA]
   rw [if_pos ⟨.inl hn, ha, hx⟩]
   simp [hT, hne]
  ·have : id ≠ i := by rintro rfl; exact n ver rfl
   rw [List.getElem?_set, if_neg this]; exact e
  ·cases e; exact ⟨ver, rfl⟩
theorem App.lt {T : List Nat} {l : List AV} {t : Tl} (h : App T l t) {i v : Nat} (e : t = .tl i v) : i < T.length := by
 rcases h with ⟨_, rfl⟩ | ⟨_, id, ver, rfl, h2⟩
 ·cases e
 ·cases e; exact (List.getElem?_eq_some_iff.1 h2).1
theorem App.keep {T T' : List Nat} {l : List AV} {t u u' : Tl} (h : App T l t) (o : Oth T u T' u') (d : ∀ i v v', u = .tl i v → t ≠ .tl i v') : App T' l t := by
 rcases h with ⟨h1, rfl⟩ | ⟨h1, id, ver, rfl, h2⟩
 ·exact .inl ⟨h1, rfl⟩
 ·exact .inr ⟨h1, id, ver, rfl, o.2.1 id ver h2 fun v e => d id v ver e rfl⟩
set_option maxHeartbeats 16000000
def Ins.av (x : Ins) : AV := .agg [.int x.op, .int x.a, .int x.b, .str x.n]
def insA (l : List Ins) : List AV := l.map Ins.av
theorem insA_len (l : List Ins) : (insA l).length = l.length := by simp [insA]
theorem insA_all (l : List Ins) : ((insA l).all fun x => x.cells.length == 4) = true := by
 rw [List.all_eq_true]; intro x hx
 obtain ⟨b, _, rfl⟩ := List.mem_map.1 hx; rfl
def CS (ci : Nat) (gl : AV) (es : List Ex) (O : List Ins) (H : List AObj) (V : List Nat) : Prop := ∃ Q tq to, H[ci]? = some (.cells false [gl, .sl Q tq, .sl (insA O) to]) ∧ LIs Ex.Is es Q ∧ App V Q tq ∧ App V (insA O) to ∧ ∀ i v v', tq = .tl i v → to ≠ .tl i v'
def OwC (ci : Nat) (H : List AObj) (i : Nat) : Prop := ∃ x Q tq O to v, H[ci]? = some (.cells false [x, .sl Q tq, .sl O to]) ∧ (tq = .tl i v ∨ to = .tl i v)
structure Stp (ci : Nat) (H : List AObj) (V : List Nat) (H' : List AObj) (V' : List Nat) : Prop where
 len : H.length ≤ H'.length
 vl : V.length ≤ V'.length
 vk : ∀ i v, V[i]? = some v → ¬ OwC ci H i → V'[i]? = some v
 own : ∀ i, OwC ci H' i → OwC ci H i ∨ V.length ≤ i
 keep : ∀ k, k < H.length → k ≠ ci → H'[k]? = H[k]?
theorem Stp.trans {ci : Nat} {A B C : List AObj} {V V' V'' : List Nat} (h : Stp ci A V B V') (k : Stp ci B V' C V'') : Stp ci A V C V'' where
 len := Nat.le_trans h.len k.len
 vl := Nat.le_trans h.vl k.vl
 vk i v h1 h2 := k.vk i v (h.vk i v h1 h2) fun h3 => by
  have := (List.getElem?_eq_some_iff.1 h1).1
  rcases h.own i h3 with h4 | h4
  ·exact h2 h4
  ·omega
 own i h1 := by
  rcases k.own i h1 with h2 | h2
  ·exact h.own i h2
  ·exact .inr (Nat.le_trans h.vl h2)
 keep i h1 h2 := (k.keep i (Nat.lt_of_lt_of_le h1 h.len) h2).trans (h.keep i h1 h2)
theorem owc_eq {ci : Nat} {H H' : List AObj} (h : H'[ci]? = H[ci]?) (i : Nat) : OwC ci H' i ↔ OwC ci H i := by
 unfold OwC; rw [h]
theorem CS.lt {ci : Nat} {gl : AV} {es : List Ex} {O : List Ins} {H : List AObj} {V : List Nat} (h : CS ci gl es O H V) : ci < H.length := by
 obtain ⟨_, _, _, h1, _⟩ := h
 exact lt_of_get h1
theorem CS.app {ci : Nat} {gl : AV} {es : List Ex} {O : List Ins} {H : List AObj} {V : List Nat} (h : CS ci gl es O H V) (G : List AObj) : CS ci gl es O (H ++ G) V := by
 obtain ⟨Q, tq, to, h1, h2⟩ := h
 exact ⟨Q, tq, to, app_get_of h1 G, h2⟩
theorem Stp.app {ci : Nat} {H : List AObj} (h : ci < H.length) (V : List Nat) (G : List AObj) : Stp ci H V (H ++ G) V where
 len := by simp
 vl := Nat.le_refl _
 vk _ _ h _ := h
 own i h1 := .inl ((owc_eq (List.getElem?_append_left h) i).1 h1)
 keep k h1 _ := List.getElem?_append_left h1
theorem Stp.get {ci : Nat} {A B : List AObj} {V V' : List Nat} (h : Stp ci A V B V') {k : Nat} {o : AObj} (hk : A[k]? = some o) (h1 : k ≠ ci) : B[k]? = some o := by rw [h.keep k (lt_of_get hk) h1]; exact hk
theorem CS.out {ci : Nat} {gl : AV} {es : List Ex} {O O' : List Ins} {H : List AObj} {V V' : List Nat} {Q : List AV} {tq to to' : Tl} (h1 : H[ci]? = some (.cells false [gl, .sl Q tq, .sl (insA O) to])) (h2 : LIs Ex.Is es Q) (h3 : App V Q tq) (h5 : ∀ i v v', tq = .tl i v → to ≠ .tl i v') (ha : App V' (insA O') to') (ho : Oth V to V' to') :
  CS ci gl es O' (H.set ci (.cells false [gl, .sl Q tq, .sl (insA O') to'])) V' ∧ Stp ci H V (H.set ci (.cells false [gl, .sl Q tq, .sl (insA O') to'])) V' := by
 have lb := lt_of_get h1
 have hs : (H.set ci (.cells false [gl, .sl Q tq, .sl (insA O') to']))[ci]? = some (.cells false [gl, .sl Q tq, .sl (insA O') to']) := by rw [List.getElem?_set, if_pos rfl, if_pos lb]
 refine ⟨⟨Q, tq, to', hs, h2, h3.keep ho fun i v v' e1 e2 => h5 i v' v e2 e1, ha, fun i v v' e1 e2 => ?_⟩, by simp, ho.1, fun i v e hn => ho.2.1 i v e fun ver e2 => hn ⟨_, _, _, _, _, _, h1, .inr e2⟩, fun i ⟨_, _, _, _, _, v, e1, e2⟩ => ?_, fun k k1 k2 => by rw [List.getElem?_set, if_neg (Ne.symm k2)]⟩
 ·rcases ho.2.2 i v' e2 with ⟨v0, e0⟩ | hle
  ·exact h5 i v v0 e1 e0
  ·have := h3.lt e1; omega
 ·rw [hs] at e1
  simp only [Option.some.injEq, AObj.cells.injEq, List.cons.injEq, AV.sl.injEq, true_and, and_true] at e1
  obtain ⟨_, ⟨_, rfl⟩, _, rfl⟩ := e1
  rcases e2 with e2 | e2
  ·exact .inl ⟨_, _, _, _, _, _, h1, .inl e2⟩
  ·rcases ho.2.2 i v e2 with ⟨v0, h⟩ | h
   ·exact .inl ⟨_, _, _, _, _, _, h1, .inr h⟩
   ·exact .inr h
theorem Sh.callRet {f : FuncId} {args : List AV} {s : ASt} {PR : AV → ASt → Prop} (h : Sh md pfs f args s PR fun _ _ => False) (hm : md f = .shared) : ∃ v s', PR v s' ∧ ∀ K KP, CW (run md pfs) md false s f args K KP () = K v s' := by
 rcases h.call hm with h | ⟨_, _, h, _⟩
 ·exact h
 ·exact h.elim
def EmS (ci : Nat) (gl : AV) (gs : List Gl) (f : FuncId) (mk : AV → List AV) (x : Ex) : Prop := ∀ {es : List Ex} {O : List Ins} {H : List AObj} {V : List Nat} {a : AV}, CS ci gl es O H V → x.Is a → O.length + (x.emit gs es.length).1.length ≤ capB → es.length + (x.emit gs es.length).2.length ≤ capB →
 Sh md pfs f (mk a) ⟨H, V⟩ (fun v s => v = .tup [] ∧ ∃ H' V', s = ⟨H', V'⟩ ∧ CS ci gl (es ++ (x.emit gs es.length).2) (O ++ (x.emit gs es.length).1) H' V' ∧ Stp ci H V H' V') fun _ _ => False
theorem EmS.call {ci : Nat} {gl : AV} {gs : List Gl} {f : FuncId} {mk : AV → List AV} {x : Ex} (h : EmS ci gl gs f mk x) (hf : md f = .shared) {es : List Ex} {O : List Ins} {H : List AObj} {V : List Nat} {a : AV} (hC : CS ci gl es O H V) (hx : x.Is a) (b1 : O.length + (x.emit gs es.length).1.length ≤ capB) (b2 : es.length + (x.emit gs es.length).2.length ≤ capB) :
  ∃ H' V', CS ci gl (es ++ (x.emit gs es.length).2) (O ++ (x.emit gs es.length).1) H' V' ∧ Stp ci H V H' V' ∧ ∀ K KP, CW (run md pfs) md false ⟨H, V⟩ f (mk a) K KP () = K (.tup []) ⟨H', V'⟩ := by
 obtain ⟨_, _, ⟨rfl, H', V', rfl, h1, h2⟩, h3⟩ := (h hC hx b1 b2).callRet hf
 exact ⟨H', V', h1, h2, h3⟩
theorem Out.callV {f : FuncId} {args args' : List AV} {s : ASt} {PR : AV → Prop} (h : Out md pfs f args' PR fun _ => False) (hm : md f = .pure) (ha : mapO (purify 20 s) args = some args') : ∃ v, PR v ∧ ∀ K KP, CW (run md pfs) md false s f args K KP () = K v (args.foldl (frz 20) s) := by
 obtain ⟨out, s', out', h1, h2, h3⟩ := h
 cases out' with
 | pan v => exact h3.elim
 | ret v => exact ⟨v, h3, fun K KP => by simp [CW, callA, hm, ha, h1, h2]⟩
theorem pz_box1 {H : List AObj} {V : List Nat} {L : List AV} {f b : Nat} {fz : Bool} (h : H[b]? = some (.cells fz L)) (hp : pureAVs L = true) : purify 20 ⟨H, V⟩ (.fn f [.ptr b 0]) = some (.fn f [.ip L 0]) := by
 rw [pz_fn]; simp only [mapO, pz_ptr, h, mapO_pure hp, Nat.zero_le, if_true, Option.map_some]
theorem fr_all (m : Nat) : ∀ (l : List AV) (s : ASt), pureAVs l = true → l.foldl (frz m) s = s
 | [], s, _ => rfl
 | x :: l, s, h => by
  rw [pvs_cons, Bool.and_eq_true] at h
  rw [List.foldl_cons, fr_pure h.1, fr_all m l s h.2]
theorem fz_box1 {H : List AObj} {V : List Nat} {L : List AV} {f b : Nat} {fz : Bool} (h : H[b]? = some (.cells fz L)) (hp : pureAVs L = true) : frz 20 ⟨H, V⟩ (.fn f [.ptr b 0]) = ⟨H.set b (.cells true L), V⟩ := by
 rw [fr_fn]
 simp only [pvs_cons, pv_ptr, Bool.false_and, Bool.false_eq_true, if_false, List.foldl_cons, List.foldl_nil, fr_ptr, h, fr_all _ _ _ hp, ASt.fz]
theorem eqI (k : IntKind) (x : Int) : eqAV (.v (.int k x)) (.v (.int k x)) = true := by rw [eqAV]; simp [eqV]
theorem eqS (x : ByteArray) : eqAV (.v (.string x)) (.v (.string x)) = true := by rw [eqAV]; simp [eqV, str_beq]
theorem eqL {α : Type} {R : α → AV → Prop} : ∀ {l : List α} {al : List AV}, (∀ x ∈ l, ∀ a, R x a → eqAV a a = true) → LIs R l al → eqAVs al al = true
 | [], [], _, _ => by rw [eqAVs]
 | [], _ :: _, _, h => h.elim
 | _ :: _, [], _, h => h.elim
 | x :: l, a :: al, h, hl => by
  rw [eqAVs, h x (by simp) a hl.1, eqL (fun y hy => h y (by simp [hy])) hl.2]; rfl
theorem eqT (t : Tl) (l : List AV) (h : eqAVs l l = true) : eqAV (.sl l t) (.sl l t) = true := by rw [eqAV, h]; simp
theorem eqIs : ∀ l : List Int, eqAVs (ints l) (ints l) = true
 | [] => by rw [ints, List.map_nil, eqAVs]
 | x :: l => by have := eqIs l; simp only [ints] at this ⊢; rw [List.map_cons, eqAVs, this, eqAV]; simp [eqV]
end Go.Proofs.Eng
