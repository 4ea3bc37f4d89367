/- The emitter of cases. No conditions beyond those in the theorems. -/
import Derived.Test.YtnipefcppecalaaGreatDoorM3
set_option linter.all false
set_option linter.deprecated false
set_option linter.unnecessarySimpa false
set_option linter.unusedVariables false
set_option linter.unusedSimpArgs false
set_option linter.defProp false
namespace Go.Proofs.Eng
set_option maxRecDepth 100000
def AllZ (P : Ex → Int → Prop) : List Ex → List Int → Prop
 | [], [] => True
 | x :: l, z :: zs => P x z ∧ AllZ P l zs
 | _, _ => False
theorem AllZ.app {P : Ex → Int → Prop} : ∀ {l m : List Ex} {zs ws : List Int}, AllZ P l zs → AllZ P m ws → AllZ P (l ++ m) (zs ++ ws)
 | [], _, [], _, _, h => h
 | _ :: _, _, _ :: _, _, h, k => ⟨h.1, AllZ.app h.2 k⟩
 | [], _, _ :: _, _, h, _ => h.elim
 | _ :: _, _, [], _, h, _ => h.elim
theorem AllZ.len {P : Ex → Int → Prop} : ∀ {l : List Ex} {zs : List Int}, AllZ P l zs → l.length = zs.length
 | [], [], _ => rfl
 | _ :: _, _ :: _, h => by simp [AllZ.len h.2]
 | [], _ :: _, h => h.elim
 | _ :: _, [], h => h.elim
def ErrZ (gl : ByteArray → Bool) (B : Int) (x : Ex) (z : Int) : Prop := x.err gl z = 0 ∧ 0 ≤ z ∧ z + 64 * x.dep ≤ B
section
variable {gs : List Gl} {gl : ByteArray → Bool} {nb ng : Nat} {B : Int}
theorem emit_env (hB : B ≤ B62) (e : Ex) : ∀ {v : Int} {c : Nat}, ErrZ gl B e v → AllZ (ErrZ gl B) (e.emit gs c).2 (e.envs v) := by
 induction e using Ex.ind with
 | h k i nm s kids ih =>
 intro v c ⟨he, hv, hd⟩
 have har := err_ar _ he
 rw [Ex.ar] at har
 obtain ⟨r0, r1, r4, r5, r7, rk⟩ := har
 obtain ⟨h1, _, _, _, _⟩ := err_facts he
 have hkid : ∀ {j : Nat} {x : Ex}, kids[j]? = some x → ErrZ gl B x (v + under k s j) := fun {j x} hx => by
  obtain ⟨a, b, d⟩ := kid_err he hv (by omega) hx
  exact ⟨a, b, by omega⟩
 obtain ⟨f0, f1, f2, f3, f4, f5, f6, f7, f8, f9, f10⟩ := fm_facts h1
 have hL : ∀ (l : List Ex), (∀ x ∈ l, x ∈ kids ∧ ErrZ gl B x v) → ∀ {c : Nat}, AllZ (ErrZ gl B) (emitL gs c l).2 (envsL v l) := by
  intro l
  induction l with
  | nil => intro _ c; trivial
  | cons x l ihl =>
   intro h c
   rw [emitL, envsL]
   exact (ih x (h x (by simp)).1 (h x (by simp)).2).app (ihl fun y hy => h y (by simp [hy]))
 have hAll : (∀ j, under k s j = 0) → AllZ (ErrZ gl B) (emitL gs c kids).2 (envsL v kids) := fun hu => hL kids fun x hx => by
  obtain ⟨j, hj⟩ := List.getElem?_of_mem hx
  have := hkid hj
  rw [hu j, Int.add_zero] at this
  exact ⟨hx, this⟩
 rw [Ex.emit, Ex.envs]
 by_cases k0 : k = 0
 ·rw [if_pos k0, if_pos k0]; trivial
 rw [if_neg k0, if_neg k0]
 by_cases k1 : k = 1
 ·rw [if_pos k1, if_pos k1]
  obtain ⟨x, rfl⟩ : ∃ x, kids = [x] := List.length_eq_one_iff.1 (r1 k1)
  have := hkid (j := 0) (x := x) rfl
  rw [under, if_pos (.inl k1)] at this
  exact ⟨this, trivial⟩
 rw [if_neg k1, if_neg k1]
 by_cases k3 : k = 3
 ·rw [if_pos k3, if_pos k3]
  exact hAll fun j => by rw [under, if_neg (by omega), if_neg (by omega)]
 rw [if_neg k3, if_neg k3]
 by_cases k4 : k = 4
 ·rw [if_pos k4, if_pos k4]
  have hl := r4 k4
  cases kids with
  | nil => simp at hl
  | cons x l =>
   have hx := hkid (j := 0) (x := x) rfl
   rw [under, if_neg (by omega), if_neg (by omega), Int.add_zero] at hx
   simp only [emitH, envsH, List.drop_succ_cons, List.drop_zero]
   refine (ih x (by simp) hx).app ?_
   simp only [List.length_cons] at hl
   have key : ∀ (l' : List Ex) (s' : List Int), l'.length = s'.length → (∀ (j : Nat) (y : Ex) (z : Int), l'[j]? = some y → s'[j]? = some z → ErrZ gl B y (v + z)) → AllZ (ErrZ gl B) l' (s'.map (v + ·)) := by
    intro l'
    induction l' with
    | nil => intro s' h _; cases s' with
     | nil => trivial
     | cons z s' => simp at h
    | cons y l' ihl =>
     intro s' h hh
     cases s' with
     | nil => simp at h
     | cons z s' => exact ⟨hh 0 y z rfl rfl, ihl s' (by simpa using h) fun j y z h1 h2 => hh (j + 1) y z (by simpa using h1) (by simpa using h2)⟩
   refine key l s (by omega) fun j y z hy hz => ?_
   have := hkid (j := j + 1) (x := y) (by simpa using hy)
   have hlt := (List.getElem?_eq_some_iff.1 hz).1
   have hzs : z ∈ s := List.mem_of_getElem? hz
   rw [under, if_neg (by omega), if_pos ⟨k4, by omega, by omega⟩, Nat.add_sub_cancel, List.getD, hz] at this
   simp only [Option.getD_some] at this
   have h0 := f5 z hzs
   split at this
   ·exact this
   ·rw [show z = 0 from by omega]; exact this
 rw [if_neg k4, if_neg k4]
 by_cases k5 : k = 5
 ·rw [if_pos k5, if_pos k5]; trivial
 rw [if_neg k5, if_neg k5]
 by_cases k7 : k = 7
 ·rw [if_pos k7, if_pos k7]
  obtain ⟨x, y, rfl⟩ : ∃ x y, kids = [x, y] := by
   match kids, r7 k7 with
   | [x, y], _ => exact ⟨x, y, rfl⟩
  have a := hkid (j := 0) (x := x) rfl
  have b := hkid (j := 1) (x := y) rfl
  rw [under, if_neg (by omega), if_neg (by omega), Int.add_zero] at a
  rw [under, if_pos (.inr ⟨k7, rfl⟩)] at b
  simp only [emitH, emitT, envsH, envsT]
  exact (ih x (by simp) a).app (ih y (by simp) b)
 rw [if_neg k7, if_neg k7]
 exact hAll fun j => by rw [under, if_neg (by omega), if_neg (by omega)]
end
end Go.Proofs.Eng
namespace Go.Proofs.Eng
set_option maxRecDepth 100000
def Pr.es (p : Pr) : List Ex := p.main :: p.gs.map (·.2)
def compC (p : Pr) : Cd := ⟨blocksOf p.gs p.es, p.gs.map (·.1), (List.range' 1 p.gs.length).map fun (i : Nat) => (i : Int)⟩
structure PrOK (p : Pr) (B : Int) : Prop where
 main : ErrZ p.gl B p.main 0
 gs : ∀ g ∈ p.gs, isName g.1 = true ∧ ErrZ p.gl B g.2 0
 nd : twice [] (p.gs.map (·.1)) = false
 hB : B ≤ B62
theorem gidx_lt : ∀ {gs : List Gl} {n : ByteArray}, (gfind gs n).isSome = true → gidx gs n < gs.length
 | [], n, h => by simp [gfind] at h
 | g :: gs, n, h => by
  rw [gidx, List.length_cons]
  rw [gfind] at h
  split
  ·omega
  ·rename_i hn
   rw [if_neg hn] at h
   have := gidx_lt h; omega
theorem PrOK.all {p : Pr} {B : Int} (h : PrOK p B) : ∀ e ∈ p.es, ErrZ p.gl B e 0 := fun e he => by
 rcases List.mem_cons.1 he with rfl | he
 ·exact h.main
 ·obtain ⟨g, hg, rfl⟩ := List.mem_map.1 he
  exact (h.gs g hg).2
theorem PrOK.ar {p : Pr} {B : Int} (h : PrOK p B) : arL p.es := (arL_iff _).2 fun e he => err_ar _ (h.all e he).1
theorem es_len (p : Pr) : p.es.length = p.gs.length + 1 := by simp [Pr.es]
theorem comp_cnt {p : Pr} {B : Int} (h : PrOK p B) : (compC p).bl.length = p.gs.length + 1 + nbL p.es ∧ ((compC p).bl.map List.length).sum = p.gs.length + 1 + niL p.es := by
 have := blocks_cnt p.gs (szL p.es) p.es.length p.es (Nat.le_refl _) h.ar
 rw [es_len] at this
 rw [compC, blocksOf, es_len]
 exact this
theorem allz_zero {P : Ex → Int → Prop} : ∀ {l : List Ex}, (∀ e ∈ l, P e 0) → AllZ P l (List.replicate l.length 0)
 | [], _ => trivial
 | x :: l, h => ⟨h x (by simp), allz_zero fun e he => h e (by simp [he])⟩
end Go.Proofs.Eng
namespace Go.Proofs.Eng
open Go Go.Proofs
set_option maxRecDepth 100000
def Rw (f : FuncId) (args : List AV) (s : ASt) (PR : AV → ASt → Prop) : Prop := ∃ v s1, run md pfs f args s = some (.ret v, s1) ∧ PR v s1
def AQ (res : List PR) (PR : AV → ASt → Prop) : AExit → St → Prop
 | .pan _, _ => False
 | .exit _, _ => False
 | _, st => st.df = [] ∧ ∃ l, resA st.tm st.s res = some l ∧ PR (oneA l) st.s
theorem AQ_ret {res : List PR} {PR : AV → ASt → Prop} {st : St} : AQ res PR .ret st = (st.df = [] ∧ ∃ l, resA st.tm st.s res = some l ∧ PR (oneA l) st.s) := rfl
theorem AQ_normal {res : List PR} {PR : AV → ASt → Prop} {st : St} : AQ res PR .normal st = (st.df = [] ∧ ∃ l, resA st.tm st.s res = some l ∧ PR (oneA l) st.s) := rfl
theorem rw_of {f : FuncId} {pf : PF} (hp : pfs f = some pf) {args : List AV} {s : ASt} {PR : AV → ASt → Prop} (hn : args.length ≤ pf.nt) (h : W (run md pfs) md pf.body ⟨tmE pf.nt (argsE args), [], s⟩ (AQ pf.res PR) ()) : Rw f args s PR := by
 unfold Rw
 rw [run_eq hp (W_ora h)]
 unfold bodyI
 rw [args_tm args pf.nt hn]
 unfold W at h
 cases hx : execL (run md pfs) md (loopI (run md pfs) md) pf.body ⟨tmE pf.nt (argsE args), [], s⟩ with
 | none => rw [hx] at h; exact h.elim
 | some x =>
  obtain ⟨r, st⟩ := x
  obtain ⟨tm, df, s⟩ := st
  rw [hx] at h
  cases r with
  | exit i => exact h.elim
  | pan v => exact h.elim
  | normal =>
   obtain ⟨h1, l, h2, h3⟩ := h
   simp only at h1; subst h1
   refine ⟨oneA l, s, ?_, h3⟩
   simp only at h2
   simp only [List.isEmpty_nil, Bool.not_true, Bool.and_false, Bool.false_eq_true, if_false, leaveA, h2]; rfl
  | ret =>
   obtain ⟨h1, l, h2, h3⟩ := h
   simp only at h1; subst h1
   refine ⟨oneA l, s, ?_, h3⟩
   simp only at h2
   simp only [List.isEmpty_nil, Bool.not_true, Bool.and_false, Bool.false_eq_true, if_false, leaveA, h2]; rfl
theorem Rw.call {f : FuncId} {args : List AV} {s : ASt} {PR : AV → ASt → Prop} (h : Rw f args s PR) (hm : md f = .raw) : ∃ v s', PR v s' ∧ ∀ K KP, CW (run md pfs) md false s f args K KP () = K v s' := by
 obtain ⟨v, s1, h1, h2⟩ := h
 exact ⟨v, s1, h2, fun K KP => by simp [CW, callA, hm, h1]⟩
theorem Rw.mono {f : FuncId} {args : List AV} {s : ASt} {PR PR' : AV → ASt → Prop} (h : Rw f args s PR) (h1 : ∀ v s, PR v s → PR' v s) : Rw f args s PR' := by
 obtain ⟨v, s1, e1, e2⟩ := h
 exact ⟨v, s1, e1, h1 _ _ e2⟩
def Oth (T : List Nat) (t : Tl) (T' : List Nat) (t' : Tl) : Prop :=
 T.length ≤ T'.length ∧ (∀ i v, T[i]? = some v → (∀ ver, t ≠ .tl i ver) → T'[i]? = some v) ∧ ∀ i ver', t' = .tl i ver' → (∃ ver, t = .tl i ver) ∨ T.length ≤ i
theorem Oth.refl (T : List Nat) (t : Tl) : Oth T t T t := ⟨Nat.le_refl _, fun _ _ h _ => h, fun i v h => .inl ⟨v, h⟩⟩
theorem Oth.trans {T T' T'' : List Nat} {t t' t'' : Tl} (h : Oth T t T' t') (k : Oth T' t' T'' t'') : Oth T t T'' t'' := by
 refine ⟨Nat.le_trans h.1 k.1, fun i v e n => k.2.1 i v (h.2.1 i v e n) fun ver e' => ?_, fun i ver e => ?_⟩
 ·have hlt := (List.getElem?_eq_some_iff.1 e).1
  rcases h.2.2 i ver e' with ⟨v0, e0⟩ | hle
  ·exact n v0 e0
  ·omega
 ·rcases k.2.2 i ver e with ⟨v0, e0⟩ | hle
  ·exact h.2.2 i v0 e0
  ·exact .inr (Nat.le_trans h.1 hle)
theorem app_many {T : List Nat} {es : Nat} {l : List AV} {t : Tl} {xs : List AV} (h : App T l t) (hl : l.length + xs.length ≤ capB) (ha : (l.all fun x => x.cells.length == es) = true) (hx : (xs.all fun x => x.cells.length == es && x.cells.all oneCell) = true) :
  ∃ t' T', (∀ H, appA ⟨H, T⟩ es none l t xs = some (.sl (l ++ xs) t', ⟨H, T'⟩)) ∧ App T' (l ++ xs) t' ∧ Oth T t T' t' := by
 cases xs with
 | nil => exact ⟨t, T, fun H => by simp [appA], by simpa using h, .refl _ _⟩
 | cons x xs =>
 have hn : l.length + (x :: xs).length ≤ 1073741824 := hl
 rcases h with ⟨rfl, rfl⟩ | ⟨hne, id, ver, rfl, hT⟩
 ·refine ⟨.tl T.length 0, T ++ [0], fun H => ?_, .inr ⟨by simp, _, _, rfl, by simp⟩, by simp, fun i v e _ => by rw [List.getElem?_append_left (List.getElem?_eq_some_iff.1 e).1]; exact e, fun i ver' e => .inr ?_⟩
  ·simp only [appA]
   rw [if_pos ⟨.inl hn, ha, hx⟩]
  ·cases e; exact Nat.le_refl _
 ·have hlt := (List.getElem?_eq_some_iff.1 hT).1
  refine ⟨.tl id (ver + 1), T.set id (ver + 1), fun H => ?_, .inr ⟨by simp, _, _, rfl, by simp [hlt]⟩, by simp, fun i v e n => ?_, fun i ver' e => .inl ?_⟩
  ·simp only [appA]
   rw [if_pos ⟨.inl hn, ha, hx⟩]
   simp [hT, hne]
  ·have : id ≠ i := by rintro rfl; exact n ver rfl
   rw [List.getElem?_set, if_neg this]; exact e
  ·cases e; exact ⟨ver, rfl⟩
theorem App.lt {T : List Nat} {l : List AV} {t : Tl} (h : App T l t) {i v : Nat} (e : t = .tl i v) : i < T.length := by
 rcases h with ⟨_, rfl⟩ | ⟨_, id, ver, rfl, h2⟩
 ·cases e
 ·cases e; exact (List.getElem?_eq_some_iff.1 h2).1
theorem App.keep {T T' : List Nat} {l : List AV} {t u u' : Tl} (h : App T l t) (o : Oth T u T' u') (d : ∀ i v v', u = .tl i v → t ≠ .tl i v') : App T' l t := by
 rcases h with ⟨h1, rfl⟩ | ⟨h1, id, ver, rfl, h2⟩
 ·exact .inl ⟨h1, rfl⟩
 ·exact .inr ⟨h1, id, ver, rfl, o.2.1 id ver h2 fun v e => d id v ver e rfl⟩
end Go.Proofs.Eng
namespace Go.Proofs.Eng
open Go Go.Proofs
set_option maxRecDepth 100000
set_option maxHeartbeats 16000000
def Ins.av (x : Ins) : AV := .agg [.int x.op, .int x.a, .int x.b, .str x.n]
def insA (l : List Ins) : List AV := l.map Ins.av
theorem insA_len (l : List Ins) : (insA l).length = l.length := by simp [insA]
theorem insA_all (l : List Ins) : ((insA l).all fun x => x.cells.length == 4) = true := by
 rw [List.all_eq_true]; intro x hx
 obtain ⟨b, _, rfl⟩ := List.mem_map.1 hx; rfl
theorem insA_snoc (l : List Ins) (x : Ins) : insA (l ++ [x]) = insA l ++ [x.av] := by simp [insA]
def CS (ci : Nat) (gl : AV) (es : List Ex) (O : List Ins) (H : List AObj) (V : List Nat) : Prop := ∃ Q tq to, H[ci]? = some (.cells false [gl, .sl Q tq, .sl (insA O) to]) ∧ LIs Ex.Is es Q ∧ App V Q tq ∧ App V (insA O) to ∧ ∀ i v v', tq = .tl i v → to ≠ .tl i v'
def OwC (ci : Nat) (H : List AObj) (i : Nat) : Prop := ∃ x Q tq O to v, H[ci]? = some (.cells false [x, .sl Q tq, .sl O to]) ∧ (tq = .tl i v ∨ to = .tl i v)
structure Stp (ci : Nat) (H : List AObj) (V : List Nat) (H' : List AObj) (V' : List Nat) : Prop where
 len : H.length ≤ H'.length
 vl : V.length ≤ V'.length
 vk : ∀ i v, V[i]? = some v → ¬ OwC ci H i → V'[i]? = some v
 own : ∀ i, OwC ci H' i → OwC ci H i ∨ V.length ≤ i
 keep : ∀ k, k < H.length → k ≠ ci → H'[k]? = H[k]?
theorem Stp.trans {ci : Nat} {A B C : List AObj} {V V' V'' : List Nat} (h : Stp ci A V B V') (k : Stp ci B V' C V'') : Stp ci A V C V'' where
 len := Nat.le_trans h.len k.len
 vl := Nat.le_trans h.vl k.vl
 vk i v h1 h2 := k.vk i v (h.vk i v h1 h2) fun h3 => by
  have := (List.getElem?_eq_some_iff.1 h1).1
  rcases h.own i h3 with h4 | h4
  ·exact h2 h4
  ·omega
 own i h1 := by
  rcases k.own i h1 with h2 | h2
  ·exact h.own i h2
  ·exact .inr (Nat.le_trans h.vl h2)
 keep i h1 h2 := (k.keep i (Nat.lt_of_lt_of_le h1 h.len) h2).trans (h.keep i h1 h2)
theorem owc_eq {ci : Nat} {H H' : List AObj} (h : H'[ci]? = H[ci]?) (i : Nat) : OwC ci H' i ↔ OwC ci H i := by
 unfold OwC; rw [h]
theorem CS.lt {ci : Nat} {gl : AV} {es : List Ex} {O : List Ins} {H : List AObj} {V : List Nat} (h : CS ci gl es O H V) : ci < H.length := by
 obtain ⟨_, _, _, h1, _⟩ := h
 exact lt_of_get h1
theorem CS.app {ci : Nat} {gl : AV} {es : List Ex} {O : List Ins} {H : List AObj} {V : List Nat} (h : CS ci gl es O H V) (G : List AObj) : CS ci gl es O (H ++ G) V := by
 obtain ⟨Q, tq, to, h1, h2⟩ := h
 exact ⟨Q, tq, to, app_get_of h1 G, h2⟩
theorem Stp.app {ci : Nat} {H : List AObj} (h : ci < H.length) (V : List Nat) (G : List AObj) : Stp ci H V (H ++ G) V where
 len := by simp
 vl := Nat.le_refl _
 vk _ _ h _ := h
 own i h1 := .inl ((owc_eq (List.getElem?_append_left h) i).1 h1)
 keep k h1 _ := List.getElem?_append_left h1
theorem Stp.get {ci : Nat} {A B : List AObj} {V V' : List Nat} (h : Stp ci A V B V') {k : Nat} {o : AObj} (hk : A[k]? = some o) (h1 : k ≠ ci) : B[k]? = some o := by rw [h.keep k (lt_of_get hk) h1]; exact hk
theorem CS.out {ci : Nat} {gl : AV} {es : List Ex} {O O' : List Ins} {H : List AObj} {V V' : List Nat} {Q : List AV} {tq to to' : Tl} (h1 : H[ci]? = some (.cells false [gl, .sl Q tq, .sl (insA O) to])) (h2 : LIs Ex.Is es Q) (h3 : App V Q tq) (h5 : ∀ i v v', tq = .tl i v → to ≠ .tl i v') (ha : App V' (insA O') to') (ho : Oth V to V' to') :
  CS ci gl es O' (H.set ci (.cells false [gl, .sl Q tq, .sl (insA O') to'])) V' ∧ Stp ci H V (H.set ci (.cells false [gl, .sl Q tq, .sl (insA O') to'])) V' := by
 have lb := lt_of_get h1
 have hs : (H.set ci (.cells false [gl, .sl Q tq, .sl (insA O') to']))[ci]? = some (.cells false [gl, .sl Q tq, .sl (insA O') to']) := by rw [List.getElem?_set, if_pos rfl, if_pos lb]
 refine ⟨⟨Q, tq, to', hs, h2, h3.keep ho fun i v v' e1 e2 => h5 i v' v e2 e1, ha, fun i v v' e1 e2 => ?_⟩, by simp, ho.1, fun i v e hn => ho.2.1 i v e fun ver e2 => hn ⟨_, _, _, _, _, _, h1, .inr e2⟩, fun i ⟨_, _, _, _, _, v, e1, e2⟩ => ?_, fun k k1 k2 => by rw [List.getElem?_set, if_neg (Ne.symm k2)]⟩
 ·rcases ho.2.2 i v' e2 with ⟨v0, e0⟩ | hle
  ·exact h5 i v v0 e1 e0
  ·have := h3.lt e1; omega
 ·rw [hs] at e1
  simp only [Option.some.injEq, AObj.cells.injEq, List.cons.injEq, AV.sl.injEq, true_and, and_true] at e1
  obtain ⟨_, ⟨_, rfl⟩, _, rfl⟩ := e1
  rcases e2 with e2 | e2
  ·exact .inl ⟨_, _, _, _, _, _, h1, .inl e2⟩
  ·rcases ho.2.2 i v e2 with ⟨v0, h⟩ | h
   ·exact .inl ⟨_, _, _, _, _, _, h1, .inr h⟩
   ·exact .inr h
theorem put_sh {ci : Nat} {gl : AV} {es : List Ex} {O : List Ins} {H : List AObj} {V : List Nat} (hC : CS ci gl es O H V) (x : Ins) (hl : O.length < capB) :
  Sh md pfs 24 [.ptr ci 0, .int x.op, .int x.a, .int x.b, .str x.n] ⟨H, V⟩ (fun v s => v = .tup [] ∧ ∃ H' V', s = ⟨H', V'⟩ ∧ CS ci gl es (O ++ [x]) H' V' ∧ Stp ci H V H' V') fun _ _ => False := by
 obtain ⟨Q, tq, to, h1, h2, h3, h4, h5⟩ := hC
 obtain ⟨to', V', a1, a2, a3⟩ := app_many (es := 4) (xs := [x.av]) h4 (by rw [insA_len]; simp only [List.length_cons, List.length_nil]; omega) (insA_all O) rfl
 rw [← insA_snoc] at a1 a2
 replace a1 : ∀ H, appA ⟨H, V⟩ 4 none (insA O) to [.agg [.int x.op, .int x.a, .int x.b, .str x.n]] = some (.sl (insA (O ++ [x])) to', ⟨H, V'⟩) := a1
 obtain ⟨c1, c2⟩ := CS.out h1 h2 h3 h5 a2 a3
 refine sh_of pf24_is (Nat.le_of_ble_eq_true rfl) ?_
 simp only [pf24, ↓wpre, wall, simprocAttr, List.length_append, List.append_assoc, app_get_len, app_get_add, app_set_len, app_set_add, h1, a1]
 exact ⟨_, _, rfl, c1, c2⟩
end Go.Proofs.Eng
namespace Go.Proofs.Eng
open Go Go.Proofs
set_option maxRecDepth 100000
set_option maxHeartbeats 16000000
theorem appB_eq {H : List AObj} {T : List Nat} {es : Nat} {l xs : List AV} {t : Tl} (h : App T l t) : appB ⟨H, T⟩ es l t xs = appA ⟨H, T⟩ es none l t xs := by
 rcases h with ⟨_, rfl⟩ | ⟨_, _, _, rfl, _⟩ <;> rfl
theorem CS.que {ci : Nat} {gl : AV} {es' : List Ex} {O : List Ins} {H : List AObj} {V V' : List Nat} {Q Q' : List AV} {tq to tq' : Tl} (h1 : H[ci]? = some (.cells false [gl, .sl Q tq, .sl (insA O) to])) (h4 : App V (insA O) to) (h5 : ∀ i v v', tq = .tl i v → to ≠ .tl i v') (hi : LIs Ex.Is es' Q') (ha : App V' Q' tq') (ho : Oth V tq V' tq') :
  CS ci gl es' O (H.set ci (.cells false [gl, .sl Q' tq', .sl (insA O) to])) V' ∧ Stp ci H V (H.set ci (.cells false [gl, .sl Q' tq', .sl (insA O) to])) V' := by
 have lb := lt_of_get h1
 have hs : (H.set ci (.cells false [gl, .sl Q' tq', .sl (insA O) to]))[ci]? = some (.cells false [gl, .sl Q' tq', .sl (insA O) to]) := by rw [List.getElem?_set, if_pos rfl, if_pos lb]
 refine ⟨⟨Q', tq', to, hs, hi, ha, h4.keep ho fun i v v' e1 e2 => h5 i v v' e1 e2, fun i v v' e1 e2 => ?_⟩, by simp, ho.1, fun i v e hn => ho.2.1 i v e fun ver e2 => hn ⟨_, _, _, _, _, _, h1, .inl e2⟩, fun i ⟨_, _, _, _, _, v, e1, e2⟩ => ?_, fun k k1 k2 => by rw [List.getElem?_set, if_neg (Ne.symm k2)]⟩
 ·rcases ho.2.2 i v e1 with ⟨v0, e0⟩ | hle
  ·exact h5 i v0 v' e0 e2
  ·have := h4.lt e2; omega
 ·rw [hs] at e1
  simp only [Option.some.injEq, AObj.cells.injEq, List.cons.injEq, AV.sl.injEq, true_and, and_true] at e1
  obtain ⟨_, ⟨_, rfl⟩, _, rfl⟩ := e1
  rcases e2 with e2 | e2
  ·rcases ho.2.2 i v e2 with ⟨v0, h⟩ | h
   ·exact .inl ⟨_, _, _, _, _, _, h1, .inl h⟩
   ·exact .inr h
  ·exact .inl ⟨_, _, _, _, _, _, h1, .inr e2⟩
theorem block_sh {ci : Nat} {gl : AV} {es : List Ex} {O : List Ins} {H : List AObj} {V : List Nat} (hC : CS ci gl es O H V) {x : Ex} {a : AV} (hx : x.Is a) (hl : es.length < capB) :
  Sh md pfs 21 [.ptr ci 0, a] ⟨H, V⟩ (fun v s => v = .int (es.length : Nat) ∧ ∃ H' V', s = ⟨H', V'⟩ ∧ CS ci gl (es ++ [x]) O H' V' ∧ Stp ci H V H' V') fun _ _ => False := by
 have hlt := hC.lt
 obtain ⟨Q, tq, to, h1, h2, h3, h4, h5⟩ := hC
 have hln := h2.len
 obtain ⟨k, i, n, s, kids⟩ := x
 have hx0 := hx
 obtain ⟨t1, t2, kas, rfl, g1, g2, g3, g4, g5, g6⟩ := hx.opn
 obtain ⟨tq', V', a1, a2, a3⟩ := app_many (es := 5) (xs := [.agg [.int k, .int i, .str n, .sl (ints s) t1, .sl kas t2]]) h3 (by simp only [List.length_cons, List.length_nil]; omega) (h2.all exAgg) (by
  simp only [List.all_cons, List.all_nil, cells_agg, onec_v, onec_sl]; rfl)
 have b1 := app_get_of h1 [AObj.cells false [.int k, .int i, .str n, .sl (ints s) t1, .sl kas t2]]
 have hB : ∀ H, appB ⟨H, V⟩ 5 Q tq [.agg [.int k, .int i, .str n, .sl (ints s) t1, .sl kas t2]] = some (.sl (Q ++ [.agg [.int k, .int i, .str n, .sl (ints s) t1, .sl kas t2]]) tq', ⟨H, V'⟩) := fun H => by rw [appB_eq h3, a1]
 obtain ⟨c1, c2⟩ := CS.que b1 h4 h5 (h2.append (.one hx0)) a2 a3
 have c3 := (Stp.app hlt V [AObj.cells false [.int k, .int i, .str n, .sl (ints s) t1, .sl kas t2]]).trans c2
 have lb := lt_of_get b1
 have hs1 : ∀ Y, ((H ++ [AObj.cells false [AV.int k, .int i, .str n, .sl (ints s) t1, .sl kas t2]]).set ci Y)[ci]? = some Y := fun Y => by rw [List.getElem?_set, if_pos rfl, if_pos lb]
 have w92 : IntKind.i64.wrap (((Q.length + 1 : Nat) : Int) - 1) = (es.length : Nat) := by rw [wrap_in (by unfold in64; unfold capB at hl; omega)]; omega
 refine sh_of pf21_is (Nat.le_of_ble_eq_true rfl) ?_
 simp only [pf21, ↓wpre, wall, simprocAttr, List.length_append, List.append_assoc, app_get_len, app_get_add, app_set_len, app_set_add, b1, hB, hs1, srcA_sl, w92, List.length_singleton]
 exact ⟨_, _, rfl, c1, c3⟩
end Go.Proofs.Eng
namespace Go.Proofs.Eng
open Go Go.Proofs
set_option maxRecDepth 100000
set_option maxHeartbeats 16000000
theorem seqE {c : Oracle} {md : FuncId → Md} {a b : PC} {E0 : Env} {s : ASt} {Q : AExit → St → Prop} {nt : Nat} {df : List (FuncId × List AV)} (J : Env → List AObj → List Nat → Prop) (h1 : W c md a ⟨tmE nt E0, df, s⟩ (LQ (EQ nt df J) Q) ()) (h2 : ∀ E H T, J E H T → W c md b ⟨tmE nt E, df, ⟨H, T⟩⟩ Q ()) : W c md (.seq a b) ⟨tmE nt E0, df, s⟩ Q () := by
 rw [W_seq]
 refine h1.mono fun r st' hr => ?_
 cases r with
 | normal =>
  obtain ⟨E, H, T, rfl, hJ⟩ := hr
  exact h2 E H T hJ
 | exit n => exact hr
 | ret => exact hr
 | pan v => exact hr
theorem Sh.callRet {f : FuncId} {args : List AV} {s : ASt} {PR : AV → ASt → Prop} (h : Sh md pfs f args s PR fun _ _ => False) (hm : md f = .shared) : ∃ v s', PR v s' ∧ ∀ K KP, CW (run md pfs) md false s f args K KP () = K v s' := by
 rcases h.call hm with h | ⟨_, _, h, _⟩
 ·exact h
 ·exact h.elim
theorem put_call {ci : Nat} {gl : AV} {es : List Ex} {O : List Ins} {H : List AObj} {V : List Nat} (hC : CS ci gl es O H V) (op a b : Int) (n : ByteArray) (hl : O.length < capB) :
  ∃ H' V', CS ci gl es (O ++ [⟨op, a, b, n⟩]) H' V' ∧ Stp ci H V H' V' ∧ ∀ K KP, CW (run md pfs) md false ⟨H, V⟩ 24 [.ptr ci 0, .int op, .int a, .int b, .str n] K KP () = K (.tup []) ⟨H', V'⟩ := by
 obtain ⟨_, _, ⟨rfl, H', V', rfl, h1, h2⟩, h3⟩ := (put_sh hC ⟨op, a, b, n⟩ hl).callRet rfl
 exact ⟨H', V', h1, h2, h3⟩
theorem block_call {ci : Nat} {gl : AV} {es : List Ex} {O : List Ins} {H : List AObj} {V : List Nat} (hC : CS ci gl es O H V) {x : Ex} {a : AV} (hx : x.Is a) (hl : es.length < capB) :
  ∃ H' V', CS ci gl (es ++ [x]) O H' V' ∧ Stp ci H V H' V' ∧ ∀ K KP, CW (run md pfs) md false ⟨H, V⟩ 21 [.ptr ci 0, a] K KP () = K (.int (es.length : Nat)) ⟨H', V'⟩ := by
 obtain ⟨_, _, ⟨rfl, H', V', rfl, h1, h2⟩, h3⟩ := (block_sh hC hx hl).callRet rfl
 exact ⟨H', V', h1, h2, h3⟩
def EmS (ci : Nat) (gl : AV) (gs : List Gl) (f : FuncId) (mk : AV → List AV) (x : Ex) : Prop := ∀ {es : List Ex} {O : List Ins} {H : List AObj} {V : List Nat} {a : AV}, CS ci gl es O H V → x.Is a → O.length + (x.emit gs es.length).1.length ≤ capB → es.length + (x.emit gs es.length).2.length ≤ capB →
 Sh md pfs f (mk a) ⟨H, V⟩ (fun v s => v = .tup [] ∧ ∃ H' V', s = ⟨H', V'⟩ ∧ CS ci gl (es ++ (x.emit gs es.length).2) (O ++ (x.emit gs es.length).1) H' V' ∧ Stp ci H V H' V') fun _ _ => False
theorem EmS.call {ci : Nat} {gl : AV} {gs : List Gl} {f : FuncId} {mk : AV → List AV} {x : Ex} (h : EmS ci gl gs f mk x) (hf : md f = .shared) {es : List Ex} {O : List Ins} {H : List AObj} {V : List Nat} {a : AV} (hC : CS ci gl es O H V) (hx : x.Is a) (b1 : O.length + (x.emit gs es.length).1.length ≤ capB) (b2 : es.length + (x.emit gs es.length).2.length ≤ capB) :
  ∃ H' V', CS ci gl (es ++ (x.emit gs es.length).2) (O ++ (x.emit gs es.length).1) H' V' ∧ Stp ci H V H' V' ∧ ∀ K KP, CW (run md pfs) md false ⟨H, V⟩ f (mk a) K KP () = K (.tup []) ⟨H', V'⟩ := by
 obtain ⟨_, _, ⟨rfl, H', V', rfl, h1, h2⟩, h3⟩ := (h hC hx b1 b2).callRet hf
 exact ⟨H', V', h1, h2, h3⟩
abbrev Exp (ci : Nat) (gl : AV) (gs : List Gl) (x : Ex) : Prop := EmS ci gl gs 23 (fun a => [.ptr ci 0, a]) x
theorem exp_call {ci : Nat} {gl : AV} {gs : List Gl} {x : Ex} (h : Exp ci gl gs x) {es : List Ex} {O : List Ins} {H : List AObj} {V : List Nat} {a : AV} (hC : CS ci gl es O H V) (hx : x.Is a) (b1 : O.length + (x.emit gs es.length).1.length ≤ capB) (b2 : es.length + (x.emit gs es.length).2.length ≤ capB) :
  ∃ H' V', CS ci gl (es ++ (x.emit gs es.length).2) (O ++ (x.emit gs es.length).1) H' V' ∧ Stp ci H V H' V' ∧ ∀ K KP, CW (run md pfs) md false ⟨H, V⟩ 23 [.ptr ci 0, a] K KP () = K (.tup []) ⟨H', V'⟩ :=
 EmS.call (f := 23) (mk := fun a => [.ptr ci 0, a]) h rfl hC hx b1 b2
theorem var_em {ci : Nat} {gl : AV} {gs : List Gl} {i : Int} {n : ByteArray} {s : List Int} {kids : List Ex} : EmS ci gl gs 92 (fun a => [a, .ip [.ptr ci 0] 0]) (.mk 0 i n s kids) := by
 intro es O H V a hC hx b1 b2
 have e : (Ex.mk 0 i n s kids).emit gs es.length = ([⟨0, i, 0, ⟨#[]⟩⟩], []) := by simp [Ex.emit]
 rw [e] at b1 b2 ⊢
 obtain ⟨t1, t2, kas, rfl, g1, g2, g3, g4, g5, g6⟩ := hx.opn
 simp only [List.length_cons, List.length_nil] at b1
 obtain ⟨H', V', c1, c2, c3⟩ := put_call (hC.app [.cells false [.int 0, .int i, .str n, .sl (ints s) t1, .sl kas t2]]) 0 i 0 ⟨#[]⟩ (by omega)
 refine sh_of pf92_is (Nat.le_of_ble_eq_true rfl) ?_
 simp only [pf92, ↓wpre, wall, simprocAttr, List.length_append, List.append_assoc, app_get_len, app_get_add, app_set_len, app_set_add, c3]
 exact ⟨_, _, rfl, by simpa using c1, (Stp.app hC.lt _ _).trans c2⟩
theorem fun_em {ci : Nat} {gl : AV} {gs : List Gl} {i : Int} {n : ByteArray} {s : List Int} {kids : List Ex} (hk : kids.length = 1) : EmS ci gl gs 93 (fun a => [a, .ip [.ptr ci 0] 0]) (.mk 1 i n s kids) := by
 intro es O H V a hC hx b1 b2
 have e : (Ex.mk 1 i n s kids).emit gs es.length = ([⟨1, (es.length : Nat), 0, ⟨#[]⟩⟩], kids.take 1) := by simp [Ex.emit]
 rw [e] at b1 b2 ⊢
 obtain ⟨t1, t2, kas, rfl, g1, g2, g3, g4, g5, g6⟩ := hx.opn
 simp only [List.length_cons, List.length_nil, List.length_take, hk] at b1 b2
 have hkl := g6.len
 have hall := g6.all exAgg
 obtain ⟨y, c2, d0, d1, d3, d4, d5, d6, d7, d8⟩ := g6.get (i := 0) exAgg (by omega)
 have hy : kids.take 1 = [y] := by
  match kids, hk with
  | [z], _ => simp at d0; rw [d0]; rfl
 obtain ⟨H1, V1, p1, p2, p3⟩ := block_call (hC.app [.cells false [.int 1, .int i, .str n, .sl (ints s) t1, .sl kas t2]]) d8 (by omega)
 obtain ⟨H2, V2, q1, q2, q3⟩ := put_call p1 1 (es.length : Nat) 0 ⟨#[]⟩ (by omega)
 have hd0 : ((0 : Nat) : Int) = 0 := rfl
 refine sh_of pf93_is (Nat.le_of_ble_eq_true rfl) ?_
 simp only [pf93, ↓wpre, wall, simprocAttr, List.length_append, List.append_assoc, app_get_len, app_get_add, app_set_len, app_set_add, d4, d5, d6, d7, hall, p3, q3]
 rw [hy]
 exact ⟨by simp [eqAV], _, _, rfl, q1, ((Stp.app hC.lt _ _).trans p2).trans q2⟩
theorem emitL_take {gs : List Gl} {kids : List Ex} {j : Nat} {x : Ex} (h : kids[j]? = some x) (c : Nat) : emitL gs c (kids.take (j + 1)) = ((emitL gs c (kids.take j)).1 ++ (x.emit gs (c + (emitL gs c (kids.take j)).2.length)).1, (emitL gs c (kids.take j)).2 ++ (x.emit gs (c + (emitL gs c (kids.take j)).2.length)).2) := by
 rw [List.take_add_one, h]
 exact emitL_snoc gs _ _ _
theorem emitL_app (gs : List Gl) : ∀ (l m : List Ex) (c : Nat), emitL gs c (l ++ m) = ((emitL gs c l).1 ++ (emitL gs (c + (emitL gs c l).2.length) m).1, (emitL gs c l).2 ++ (emitL gs (c + (emitL gs c l).2.length) m).2)
 | [], m, c => by simp [emitL]
 | x :: l, m, c => by simp only [List.cons_append, emitL, emitL_app gs l, List.append_assoc, List.length_append, Nat.add_assoc]
theorem emitL_le {gs : List Gl} {kids : List Ex} {c : Nat} (j : Nat) : (emitL gs c (kids.take j)).1.length ≤ (emitL gs c kids).1.length ∧ (emitL gs c (kids.take j)).2.length ≤ (emitL gs c kids).2.length := by
 have := emitL_app gs (kids.take j) (kids.drop j) c
 rw [List.take_append_drop] at this
 rw [this]
 simp only [List.length_append]
 omega
theorem ctor_em {ci : Nat} {gl : AV} {gs : List Gl} {i : Int} {n : ByteArray} {s : List Int} {kids : List Ex} (ih : ∀ x ∈ kids, Exp ci gl gs x) : EmS ci gl gs 95 (fun a => [.ptr ci 0, a]) (.mk 3 i n s kids) := by
 intro es O H V a hC hx b1 b2
 have e : (Ex.mk 3 i n s kids).emit gs es.length = ((emitL gs es.length kids).1 ++ [⟨4, i, (kids.length : Nat), n⟩], (emitL gs es.length kids).2) := by simp [Ex.emit]
 rw [e] at b1 b2 ⊢
 obtain ⟨t1, t2, kas, rfl, g1, g2, g3, g4, g5, g6⟩ := hx.opn
 simp only [List.length_cons, List.length_nil, List.length_append] at b1 b2
 have hkl := g6.len
 have hall := g6.all exAgg
 refine sh_of pf95_is (Nat.le_of_ble_eq_true rfl) ?_
 simp only [pf95]
 refine seqE (fun E H' V' => H' = H ++ [.cells false [.int 3, .int i, .str n, .sl (ints s) t1, .sl kas t2]] ∧ V = V' ∧ E 0 = .ptr ci 0 ∧ E 3 = .ptr H.length 0) ?_ ?_
 ·simp only [↓wpre, wall, simprocAttr, List.length_append, List.append_assoc, app_get_len, app_get_add, app_set_len, app_set_add]; exact EQ_in ⟨rfl, rfl, rfl, rfl⟩
 rintro E _ _ ⟨rfl, rfl, e0, e3⟩
 refine seqE (fun E H' V' => CS ci gl (es ++ (emitL gs es.length kids).2) (O ++ (emitL gs es.length kids).1) H' V' ∧ Stp ci H V H' V' ∧ E 0 = .ptr ci 0 ∧ E 3 = .ptr H.length 0 ∧ H'[H.length]? = some (.cells false [.int 3, .int i, .str n, .sl (ints s) t1, .sl kas t2])) ?_ ?_
 ·refine seqE (fun E H' V' => H' = H ++ [.cells false [.int 3, .int i, .str n, .sl (ints s) t1, .sl kas t2]] ∧ V = V' ∧ E 0 = .ptr ci 0 ∧ E 3 = .ptr H.length 0 ∧ E 7 = .sl kas t2 ∧ E 8 = .int kas.length ∧ E 9 = .int (0 : Nat)) ?_ ?_
  ·simp only [↓wpre, wall, simprocAttr, List.length_append, List.append_assoc, app_get_len, app_get_add, app_set_len, app_set_add, e0, e3]; exact EQ_in ⟨rfl, rfl, e0, e3, rfl, rfl, rfl⟩
  clear e0 e3 E
  rintro E _ _ ⟨rfl, rfl, e0, e3, e7, e8, e9⟩
  rw [W_block]
  refine W_loopE (fun j => kas.length - j) (fun j E H' V' => CS ci gl (es ++ (emitL gs es.length (kids.take j)).2) (O ++ (emitL gs es.length (kids.take j)).1) H' V' ∧ Stp ci H V H' V' ∧ E 0 = .ptr ci 0 ∧ E 3 = .ptr H.length 0 ∧ H'[H.length]? = some (.cells false [.int 3, .int i, .str n, .sl (ints s) t1, .sl kas t2]) ∧ E 7 = .sl kas t2 ∧ E 8 = .int kas.length ∧ E 9 = .int (j : Nat) ∧ j ≤ kas.length) ?_ 0 ⟨by simpa [emitL] using hC.app _, .app hC.lt _ _, e0, e3, by simp, e7, e8, e9, Nat.zero_le _⟩
  clear e0 e3 e7 e8 e9 E
  rintro j E H1 V1 ⟨hC1, hS1, e0, e3, hb, e7, e8, e9, hj⟩
  rcases Nat.lt_or_ge j kas.length with hlt | hge
  ·have hdec : decide ((j : Int) < kas.length) = true := by simpa using hlt
   obtain ⟨x, c, d0, d1, d3, d4, d5, d6, d7, d8⟩ := g6.get exAgg hlt
   have hen := emitL_take (gs := gs) d0 es.length
   have hle := emitL_le (gs := gs) (kids := kids) (c := es.length) (j + 1)
   rw [hen] at hle
   simp only [List.length_append] at hle
   obtain ⟨H2, V2, hC2, hS2, cr⟩ := exp_call (ih x d3) (hC1.app [.cells false c]) d8 (by rw [List.length_append, List.length_append]; omega) (by rw [List.length_append]; omega)
   rw [List.length_append] at hC2
   simp only [↓wpre, wall, simprocAttr, List.length_append, List.append_assoc, app_get_len, app_get_add, app_set_len, app_set_add, e0, e3, e7, e8, e9, hdec, d4, d5, d6, d7, hall, cr]
   exact EQ_in ⟨j + 1, by omega, by rw [hen, ← List.append_assoc, ← List.append_assoc]; exact hC2, (hS1.trans (.app hC1.lt _ _)).trans hS2, e0, e3, hS2.get (app_get_of hb _) (by have := hC.lt; omega), e7, e8, next_ixv (by unfold lenB; unfold lenB at g5; omega), by omega⟩
  ·have hdec : decide ((j : Int) < kas.length) = false := by simpa using hge
   rw [List.take_of_length_le (by omega)] at hC1
   simp only [↓wpre, wall, simprocAttr, e8, e9, hdec]
   exact EQ_in ⟨hC1, hS1, e0, e3, hb⟩
 clear e0 e3 E
 rintro E H1 V1 ⟨hC1, hS1, e0, e3, hb⟩
 obtain ⟨H2, V2, q1, q2, q3⟩ := put_call hC1 4 i (kids.length : Nat) n (by rw [List.length_append]; omega)
 simp only [↓wpre, wall, simprocAttr, List.length_append, List.append_assoc, app_get_len, app_get_add, app_set_len, app_set_add, e0, e3, hb, hkl, q3]
 exact ⟨_, _, rfl, by rw [← List.append_assoc]; exact q1, hS1.trans q2⟩
end Go.Proofs.Eng
namespace Go.Proofs.Eng
open Go Go.Proofs
set_option maxRecDepth 100000
set_option maxHeartbeats 16000000
theorem after_em {ci : Nat} {gl : AV} {gs : List Gl} {k i : Int} {n : ByteArray} {s : List Int} {kids : List Ex} (hk : k = 2 ∨ k = 6 ∨ k = 8 ∨ k = 9 ∨ k = 10 ∨ k = 11) (ih : ∀ x ∈ kids, Exp ci gl gs x) : EmS ci gl gs 119 (fun a => [a, .ip [.ptr ci 0] 0, .ip [.int (opK k)] 0]) (.mk k i n s kids) := by
 intro es O H V a hC hx b1 b2
 have e : (Ex.mk k i n s kids).emit gs es.length = ((emitL gs es.length kids).1 ++ [⟨opK k, 0, 0, ⟨#[]⟩⟩], (emitL gs es.length kids).2) := by
  rcases hk with rfl | rfl | rfl | rfl | rfl | rfl <;> simp [Ex.emit, Ins.o]
 rw [e] at b1 b2 ⊢
 obtain ⟨t1, t2, kas, rfl, g1, g2, g3, g4, g5, g6⟩ := hx.opn
 simp only [List.length_cons, List.length_nil, List.length_append] at b1 b2
 have hkl := g6.len
 have hall := g6.all exAgg
 generalize opK k = op at *
 refine sh_of pf119_is (Nat.le_of_ble_eq_true rfl) ?_
 simp only [pf119]
 refine seqE (fun E H' V' => H' = H ++ [.cells false [.int k, .int i, .str n, .sl (ints s) t1, .sl kas t2]] ∧ V = V' ∧ E 1 = .ip [.ptr ci 0] 0 ∧ E 2 = .ip [.int op] 0 ∧ E 3 = .ptr H.length 0) ?_ ?_
 ·simp only [↓wpre, wall, simprocAttr, List.length_append, List.append_assoc, app_get_len, app_get_add, app_set_len, app_set_add]; exact EQ_in ⟨rfl, rfl, rfl, rfl, rfl⟩
 rintro E _ _ ⟨rfl, rfl, e0, e2, e3⟩
 refine seqE (fun E H' V' => CS ci gl (es ++ (emitL gs es.length kids).2) (O ++ (emitL gs es.length kids).1) H' V' ∧ Stp ci H V H' V' ∧ E 1 = .ip [.ptr ci 0] 0 ∧ E 2 = .ip [.int op] 0) ?_ ?_
 ·refine seqE (fun E H' V' => H' = H ++ [.cells false [.int k, .int i, .str n, .sl (ints s) t1, .sl kas t2]] ∧ V = V' ∧ E 1 = .ip [.ptr ci 0] 0 ∧ E 2 = .ip [.int op] 0 ∧ E 7 = .sl kas t2 ∧ E 8 = .int kas.length ∧ E 9 = .int (0 : Nat)) ?_ ?_
  ·simp only [↓wpre, wall, simprocAttr, List.length_append, List.append_assoc, app_get_len, app_get_add, app_set_len, app_set_add, e0, e2, e3]; exact EQ_in ⟨rfl, rfl, e0, e2, rfl, rfl, rfl⟩
  clear e0 e2 e3 E
  rintro E _ _ ⟨rfl, rfl, e0, e2, e7, e8, e9⟩
  rw [W_block]
  refine W_loopE (fun j => kas.length - j) (fun j E H' V' => CS ci gl (es ++ (emitL gs es.length (kids.take j)).2) (O ++ (emitL gs es.length (kids.take j)).1) H' V' ∧ Stp ci H V H' V' ∧ E 1 = .ip [.ptr ci 0] 0 ∧ E 2 = .ip [.int op] 0 ∧ E 7 = .sl kas t2 ∧ E 8 = .int kas.length ∧ E 9 = .int (j : Nat) ∧ j ≤ kas.length) ?_ 0 ⟨by simpa [emitL] using hC.app _, .app hC.lt _ _, e0, e2, e7, e8, e9, Nat.zero_le _⟩
  clear e0 e2 e7 e8 e9 E
  rintro j E H1 V1 ⟨hC1, hS1, e0, e2, e7, e8, e9, hj⟩
  rcases Nat.lt_or_ge j kas.length with hlt | hge
  ·have hdec : decide ((j : Int) < kas.length) = true := by simpa using hlt
   obtain ⟨x, c, d0, d1, d3, d4, d5, d6, d7, d8⟩ := g6.get exAgg hlt
   have hen := emitL_take (gs := gs) d0 es.length
   have hle := emitL_le (gs := gs) (kids := kids) (c := es.length) (j + 1)
   rw [hen] at hle
   simp only [List.length_append] at hle
   obtain ⟨H2, V2, hC2, hS2, cr⟩ := exp_call (ih x d3) (hC1.app [.cells false c]) d8 (by rw [List.length_append, List.length_append]; omega) (by rw [List.length_append]; omega)
   rw [List.length_append] at hC2
   simp only [↓wpre, wall, simprocAttr, List.length_append, List.append_assoc, app_get_len, app_get_add, app_set_len, app_set_add, e0, e7, e8, e9, hdec, d4, d5, d6, d7, hall, cr]
   exact EQ_in ⟨j + 1, by omega, by rw [hen, ← List.append_assoc, ← List.append_assoc]; exact hC2, (hS1.trans (.app hC1.lt _ _)).trans hS2, e0, e2, e7, e8, next_ixv (by unfold lenB; unfold lenB at g5; omega), by omega⟩
  ·have hdec : decide ((j : Int) < kas.length) = false := by simpa using hge
   rw [List.take_of_length_le (by omega)] at hC1
   simp only [↓wpre, wall, simprocAttr, e8, e9, hdec]
   exact EQ_in ⟨hC1, hS1, e0, e2⟩
 clear e0 e2 e3 E
 rintro E H1 V1 ⟨hC1, hS1, e0, e2⟩
 obtain ⟨H2, V2, q1, q2, q3⟩ := put_call hC1 op 0 0 ⟨#[]⟩ (by rw [List.length_append]; omega)
 simp only [↓wpre, wall, simprocAttr, List.length_append, List.append_assoc, app_get_len, app_get_add, app_set_len, app_set_add, e0, e2, q3]
 exact ⟨_, _, rfl, by rw [← List.append_assoc]; exact q1, hS1.trans q2⟩
theorem let_em {ci : Nat} {gl : AV} {gs : List Gl} {i : Int} {n : ByteArray} {s : List Int} {kids : List Ex} (hk : kids.length = 2) (ih : ∀ x ∈ kids, Exp ci gl gs x) : EmS ci gl gs 98 (fun a => [.ptr ci 0, a]) (.mk 7 i n s kids) := by
 intro es O H V a hC hx b1 b2
 obtain ⟨y, z, rfl⟩ : ∃ y z, kids = [y, z] := by
  match kids, hk with
  | [y, z], _ => exact ⟨y, z, rfl⟩
 have e : (Ex.mk 7 i n s [y, z]).emit gs es.length = ((y.emit gs es.length).1 ++ ⟨9, 0, 0, ⟨#[]⟩⟩ :: (z.emit gs (es.length + (y.emit gs es.length).2.length)).1 ++ [⟨10, 0, 0, ⟨#[]⟩⟩], (y.emit gs es.length).2 ++ (z.emit gs (es.length + (y.emit gs es.length).2.length)).2) := by simp [Ex.emit, emitH, emitT, Ins.o]
 rw [e] at b1 b2 ⊢
 obtain ⟨t1, t2, kas, rfl, g1, g2, g3, g4, g5, g6⟩ := hx.opn
 simp only [List.length_cons, List.length_nil, List.length_append] at b1 b2
 have hkl := g6.len
 simp only [List.length_cons, List.length_nil] at hkl
 have hall := g6.all exAgg
 obtain ⟨y', c, d0, d1, d3, d4, d5, d6, d7, d8⟩ := g6.get (i := 0) exAgg (by omega)
 obtain ⟨z', c', f0, f1, f3, f4, f5, f6, f7, f8⟩ := g6.get (i := 1) exAgg (by omega)
 obtain rfl : y = y' := by simpa using d0
 obtain rfl : z = z' := by simpa using f0
 obtain ⟨H1, V1, hC1, hS1, c1⟩ := exp_call (ih y d3) (hC.app [.cells false [.int 7, .int i, .str n, .sl (ints s) t1, .sl kas t2]]) d8 (by omega) (by omega)
 obtain ⟨H2, V2, hC2, hS2, c2⟩ := put_call hC1 9 0 0 ⟨#[]⟩ (by rw [List.length_append]; omega)
 obtain ⟨H3, V3, hC3, hS3, c3⟩ := exp_call (ih z f3) hC2 f8 (by simp only [List.length_append, List.length_cons, List.length_nil]; omega) (by simp only [List.length_append]; omega)
 rw [List.length_append] at hC3
 obtain ⟨H4, V4, hC4, hS4, c4⟩ := put_call hC3 10 0 0 ⟨#[]⟩ (by simp only [List.length_append, List.length_cons, List.length_nil]; omega)
 have hb0 : (H ++ [AObj.cells false [.int 7, .int i, .str n, .sl (ints s) t1, .sl kas t2]])[H.length]? = some (.cells false [.int 7, .int i, .str n, .sl (ints s) t1, .sl kas t2]) := by simp
 have hne : H.length ≠ ci := by have := hC.lt; omega
 have hb1 := hS1.get hb0 hne
 have hb2 := hS2.get hb1 hne
 have hb3 := hS3.get hb2 hne
 refine sh_of pf98_is (Nat.le_of_ble_eq_true rfl) ?_
 simp only [pf98, ↓wpre, wall, simprocAttr, List.length_append, List.append_assoc, app_get_len, app_get_add, app_set_len, app_set_add, d4, d5, d6, d7, f4, f5, f6, f7, hall, c1, c2, c3, c4, hb1, hb2, hb3]
 refine ⟨_, _, rfl, ?_, (((Stp.app hC.lt _ _).trans hS1).trans hS2).trans (hS3.trans hS4)⟩
 simpa only [List.append_assoc, List.cons_append, List.nil_append] using hC4
end Go.Proofs.Eng
namespace Go.Proofs.Eng
open Go Go.Proofs
set_option maxRecDepth 100000
set_option maxHeartbeats 16000000
theorem cases_em {ci : Nat} {gl : AV} {gs : List Gl} {i : Int} {n : ByteArray} {s : List Int} {kids : List Ex} (hk : kids.length = s.length + 1) (ih : ∀ x ∈ kids, Exp ci gl gs x) : EmS ci gl gs 96 (fun a => [.ptr ci 0, a]) (.mk 4 i n s kids) := by
 intro es O H V a hC hx b1 b2
 obtain ⟨y, l, rfl⟩ : ∃ y l, kids = y :: l := by
  match kids, hk with
  | y :: l, _ => exact ⟨y, l, rfl⟩
 have e : (Ex.mk 4 i n s (y :: l)).emit gs es.length = ((y.emit gs es.length).1 ++ ⟨5, (s.length : Nat), 0, ⟨#[]⟩⟩ :: brs (es.length + (y.emit gs es.length).2.length) s, (y.emit gs es.length).2 ++ l) := by simp [Ex.emit, emitH]
 rw [e] at b1 b2 ⊢
 obtain ⟨t1, t2, kas, rfl, g1, g2, g3, g4, g5, g6⟩ := hx.opn
 simp only [List.length_cons, List.length_nil, List.length_append, brs_len] at b1 b2
 have hkl := g6.len
 simp only [List.length_cons] at hkl hk
 have hall := g6.all exAgg
 have hia := ints_all s
 obtain ⟨y', c, d0, d1, d3, d4, d5, d6, d7, d8⟩ := g6.get (i := 0) exAgg (by omega)
 obtain rfl : y = y' := by simpa using d0
 have hb0 : (H ++ [AObj.cells false [.int 4, .int i, .str n, .sl (ints s) t1, .sl kas t2]])[H.length]? = some (.cells false [.int 4, .int i, .str n, .sl (ints s) t1, .sl kas t2]) := by simp
 have hne : H.length ≠ ci := by have := hC.lt; omega
 obtain ⟨H1, V1, hC1, hS1, c1⟩ := exp_call (ih y d3) (hC.app [.cells false [.int 4, .int i, .str n, .sl (ints s) t1, .sl kas t2]]) d8 (by omega) (by omega)
 obtain ⟨H2, V2, hC2, hS2, c2⟩ := put_call hC1 5 (s.length : Nat) 0 ⟨#[]⟩ (by rw [List.length_append]; omega)
 have hb1 := hS1.get hb0 hne
 have hb2 := hS2.get hb1 hne
 have hS : Stp ci H V H2 V2 := ((Stp.app hC.lt _ _).trans hS1).trans hS2
 refine sh_of pf96_is (Nat.le_of_ble_eq_true rfl) ?_
 simp only [pf96]
 refine seqE (fun E H' V' => H' = H ++ [.cells false [.int 4, .int i, .str n, .sl (ints s) t1, .sl kas t2]] ∧ V = V' ∧ E 0 = .ptr ci 0 ∧ E 3 = .ptr H.length 0) ?_ ?_
 ·simp only [↓wpre, wall, simprocAttr, List.length_append, List.append_assoc, app_get_len, app_get_add, app_set_len, app_set_add]; exact EQ_in ⟨rfl, rfl, rfl, rfl⟩
 rintro E _ _ ⟨rfl, rfl, e0, e3⟩
 refine seqE (fun E H' V' => H1 = H' ∧ V1 = V' ∧ E 0 = .ptr ci 0 ∧ E 3 = .ptr H.length 0) ?_ ?_
 ·simp only [↓wpre, wall, simprocAttr, List.length_append, List.append_assoc, app_get_len, app_get_add, app_set_len, app_set_add, e0, e3, d4, d5, d6, d7, hall, c1]; exact EQ_in ⟨rfl, rfl, e0, e3⟩
 clear e0 e3 E
 rintro E _ _ ⟨rfl, rfl, e0, e3⟩
 refine seqE (fun E H' V' => H2 = H' ∧ V2 = V' ∧ E 0 = .ptr ci 0 ∧ E 3 = .ptr H.length 0) ?_ ?_
 ·simp only [↓wpre, wall, simprocAttr, List.length_append, List.append_assoc, app_get_len, app_get_add, app_set_len, app_set_add, e0, e3, hb1, ints_len, c2]; exact EQ_in ⟨rfl, rfl, e0, e3⟩
 clear e0 e3 E
 rintro E _ _ ⟨rfl, rfl, e0, e3⟩
 refine seqE (fun E H' V' => H2 = H' ∧ V2 = V' ∧ E 0 = .ptr ci 0 ∧ E 3 = .ptr H.length 0 ∧ E 18 = .sl (ints s) t1 ∧ E 19 = .int (s.length : Nat) ∧ E 20 = .int (0 : Nat)) ?_ ?_
 ·simp only [↓wpre, wall, simprocAttr, List.length_append, List.append_assoc, app_get_len, app_get_add, app_set_len, app_set_add, e0, e3, hb2, ints_len]; exact EQ_in ⟨rfl, rfl, e0, e3, rfl, rfl, rfl⟩
 clear e0 e3 E
 rintro E _ _ ⟨rfl, rfl, e0, e3, e18, e19, e20⟩
 rw [W_block]
 refine W_loopE (fun j => s.length - j) (fun j E H' V' => CS ci gl (es ++ (y.emit gs es.length).2 ++ l.take j) (O ++ (y.emit gs es.length).1 ++ [⟨5, (s.length : Nat), 0, ⟨#[]⟩⟩] ++ brs (es.length + (y.emit gs es.length).2.length) (s.take j)) H' V' ∧ Stp ci H V H' V' ∧ E 0 = .ptr ci 0 ∧ E 3 = .ptr H.length 0 ∧ H'[H.length]? = some (.cells false [.int 4, .int i, .str n, .sl (ints s) t1, .sl kas t2]) ∧ E 18 = .sl (ints s) t1 ∧ E 19 = .int (s.length : Nat) ∧ E 20 = .int (j : Nat) ∧ j ≤ s.length) ?_ 0 ⟨by simpa [brs] using hC2, hS, e0, e3, hb2, e18, e19, e20, Nat.zero_le _⟩
 clear e0 e3 e18 e19 e20 E
 rintro j E H3 V3 ⟨hC3, hS3, e0, e3, hb, e18, e19, e20, hj⟩
 rcases Nat.lt_or_ge j s.length with hlt | hge
 ·have hdec : decide ((j : Int) < (s.length : Nat)) = true := by simpa using hlt
  obtain ⟨v, q0, q1, q2⟩ := ints_get hlt
  obtain ⟨x, c', f0, f1, f3, f4, f5, f6, f7, f8⟩ := g6.get (i := j + 1) exAgg (by omega)
  have f0' : l[j]? = some x := by simpa using f0
  obtain ⟨H4, V4, p1, p2, p3⟩ := block_call hC3 f8 (by simp only [List.length_append, List.length_take]; omega)
  obtain ⟨m, hm⟩ : ∃ m, m = (es ++ (y.emit gs es.length).2 ++ l.take j).length := ⟨_, rfl⟩
  rw [← hm] at p3
  obtain ⟨H5, V5, r1, r2, r3⟩ := put_call p1 6 (m : Nat) v ⟨#[]⟩ (by simp only [List.length_append, List.length_cons, List.length_nil, brs_len, List.length_take]; omega)
  have w30 : IntKind.i64.wrap ((j : Int) + 1) = ((j + 1 : Nat) : Int) := next_ix (by unfold lenB; unfold lenB at g4; omega)
  simp only [↓wpre, wall, simprocAttr, List.length_append, List.append_assoc, app_get_len, app_get_add, app_set_len, app_set_add, e0, e3, e18, e19, e20, hdec, q2, hia, hb, w30, f4, f5, f6, f7, hall, p3, r3]
  refine EQ_in ⟨j + 1, by omega, ?_, (hS3.trans p2).trans r2, e0, e3, r2.get (p2.get hb hne) hne, e18, e19, rfl, by omega⟩
  have et : l.take (j + 1) = l.take j ++ [x] := by rw [List.take_add_one, f0']; rfl
  have eb : brs (es.length + (y.emit gs es.length).2.length) (s.take (j + 1)) = brs (es.length + (y.emit gs es.length).2.length) (s.take j) ++ [⟨6, ((m : Nat) : Int), v, ⟨#[]⟩⟩] := by
   rw [hm]
   have : s.take (j + 1) = s.take j ++ [v] := by rw [List.take_add_one, q0]; rfl
   rw [this, brs_snoc, List.length_append, List.length_append, List.length_take, List.length_take, Nat.min_eq_left (by omega), Nat.min_eq_left (by omega)]
  rw [et, eb]
  simpa only [List.append_assoc, List.cons_append, List.nil_append] using r1
 ·have hdec : decide ((j : Int) < (s.length : Nat)) = false := by simpa using hge
  rw [List.take_of_length_le (by omega), List.take_of_length_le (by omega)] at hC3
  simp only [↓wpre, wall, simprocAttr, e19, e20, hdec]
  exact ⟨_, _, rfl, by simpa only [List.append_assoc, List.cons_append, List.nil_append] using hC3, hS3⟩
end Go.Proofs.Eng
