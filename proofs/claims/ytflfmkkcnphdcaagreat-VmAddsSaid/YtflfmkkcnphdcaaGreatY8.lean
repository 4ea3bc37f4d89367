/- The state of Compile. No conditions beyond those in the theorems. -/
import Derived.Test.YtflfmkkcnphdcaaGreatM5
set_option linter.all false
set_option linter.deprecated false
set_option linter.unnecessarySimpa false
set_option linter.unusedVariables false
set_option linter.unusedSimpArgs false
set_option linter.defProp false
namespace Go.Proofs.Eng
open Go Go.Proofs
set_option maxRecDepth 100000
def Rw (f : FuncId) (args : List AV) (s : ASt) (PR : AV -> ASt -> Prop) : Prop := ∃ v s1, run md pfs f args s = some (.ret v, s1) /\ PR v s1
def AQ (res : List PR) (PR : AV -> ASt -> Prop) : fu -> St -> Prop
 | .pan _, _ => False
 | .exit _, _ => False
 | _, st => st.df = [] /\ ∃ l, m5 st.tm st.s res = some l /\ PR (qf l) st.s
theorem gq {res : List PR} {PR : AV -> ASt -> Prop} {st : St} : AQ res PR .ret st = (st.df = [] /\ ∃ l, m5 st.tm st.s res = some l /\ PR (qf l) st.s) := rfl
theorem fq {res : List PR} {PR : AV -> ASt -> Prop} {st : St} : AQ res PR .normal st = (st.df = [] /\ ∃ l, m5 st.tm st.s res = some l /\ PR (qf l) st.s) := rfl
theorem ly {f : FuncId} {pf : PF} (hp : pfs f = some pf) {args : List AV} {s : ASt} {PR : AV -> ASt -> Prop} (hn : args.length <= pf.nt) (h : W (run md pfs) md pf.body ⟨tmE pf.nt (uv args), [], s⟩ (AQ pf.res PR) ()) : Rw f args s PR := by
 unfold Rw
 rw [run_eq hp (Pn h)]
 unfold Ft
 rw [Dy args pf.nt hn]
 unfold W at h
 cases hx : ij (run md pfs) md (oh (run md pfs) md) pf.body ⟨tmE pf.nt (uv args), [], s⟩ with
 | none => rw [hx] at h; exact h.elim
 | some x =>
  obtain ⟨r, st⟩ := x
  obtain ⟨tm, df, s⟩ := st
  rw [hx] at h
  cases r with
  | exit i => exact h.elim
  | pan v => exact h.elim
  | normal =>
   obtain ⟨h1, l, h2, h3⟩ := h
   simp only at h1; subst h1
   refine ⟨qf l, s, ?_, h3⟩
   simp only at h2
   simp only [List.isEmpty_nil, dz, er, dy, if_false, js, h2]; rfl
  | ret =>
   obtain ⟨h1, l, h2, h3⟩ := h
   simp only at h1; subst h1
   refine ⟨qf l, s, ?_, h3⟩
   simp only at h2
   simp only [List.isEmpty_nil, dz, er, dy, if_false, js, h2]; rfl
theorem Rw.call {f : FuncId} {args : List AV} {s : ASt} {PR : AV -> ASt -> Prop} (h : Rw f args s PR) (hm : md f = .raw) : ∃ v s', PR v s' /\ ∀ K KP, CW (run md pfs) md false s f args K KP () = K v s' := by
 obtain ⟨v, s1, h1, h2⟩ := h
 exact ⟨v, s1, h2, λ K KP => by simp [CW, lj, hm, h1]⟩
theorem Rw.mono {f : FuncId} {args : List AV} {s : ASt} {PR PR' : AV -> ASt -> Prop} (h : Rw f args s PR) (h1 : ∀ v s, PR v s -> PR' v s) : Rw f args s PR' := by
 obtain ⟨v, s1, e1, e2⟩ := h
 exact ⟨v, s1, e1, h1 _ _ e2⟩
def Oth (T : List Nat) (t : Tl) (T' : List Nat) (t' : Tl) : Prop :=
 T.length <= T'.length /\ (∀ i v, T[i]? = some v -> (∀ ver, t ≠ .tl i ver) -> T'[i]? = some v) /\ ∀ i ver', t' = .tl i ver' -> (∃ ver, t = .tl i ver) \/ T.length <= i
theorem Oth.refl (T : List Nat) (t : Tl) : Oth T t T t := ⟨di _, λ _ _ h _ => h, λ i v h => .inl ⟨v, h⟩⟩
theorem Oth.trans {T T' T'' : List Nat} {t t' t'' : Tl} (h : Oth T t T' t') (k : Oth T' t' T'' t'') : Oth T t T'' t'' := by
 refine ⟨dr h.1 k.1, λ i v e n => k.2.1 i v (h.2.1 i v e n) λ ver e' => ?_, λ i ver e => ?_⟩
 ·have hlt := (List.getElem?_eq_some_iff.1 e).1
  rcases h.2.2 i ver e' with ⟨v0, e0⟩ | hle
  ·exact n v0 e0
  ·omega
 ·rcases k.2.2 i ver e with ⟨v0, e0⟩ | hle
  ·exact h.2.2 i v0 e0
  ·exact .inr (dr h.1 hle)
theorem rh {T : List Nat} {es : Nat} {l : List AV} {t : Tl} {xs : List AV} (h : App T l t) (hl : l.length + xs.length <= wi) (ha : (l.all λ x => x.cells.length == es) = true) (hx : (xs.all λ x => x.cells.length == es && x.cells.all gv) = true) :
  ∃ t' T', (∀ H, qz ⟨H, T⟩ es none l t xs = some (.sl (l ++ xs) t', ⟨H, T'⟩)) /\ App T' (l ++ xs) t' /\ Oth T t T' t' := by
 cases xs with
 | nil => exact ⟨t, T, λ H => by simp [qz], by simpa using h, .refl _ _⟩
 | cons x xs =>
 have hn : l.length + (x :: xs).length <= 1073741824 := hl
 rcases h with ⟨rfl, rfl⟩ | ⟨hne, id, ver, rfl, hT⟩
 ·refine ⟨.tl T.length 0, T ++ [0], λ H => ?_, .inr ⟨by simp, _, _, rfl, by simp⟩, by simp, λ i v e _ => by rw [ae (List.getElem?_eq_some_iff.1 e).1]; exact e, λ i ver' e => .inr ?_⟩
  ·simp only [qz]
   rw [if_pos ⟨.inl hn, ha, hx⟩]
  ·cases e; exact di _
 ·have hlt := (List.getElem?_eq_some_iff.1 hT).1
  refine ⟨.tl id (ver + 1), T.set id (ver + 1), λ H => ?_, .inr ⟨by simp, _, _, rfl, by simp [hlt]⟩, by simp, λ i v e n => ?_, λ i ver' e => .inl ?_⟩
  ·simp only [qz]
   rw [if_pos ⟨.inl hn, ha, hx⟩]
   simp [hT, hne]
  ·have : id ≠ i := by rintro rfl; exact n ver rfl
   rw [b9, if_neg this]; exact e
  ·cases e; exact ⟨ver, rfl⟩
theorem App.lt {T : List Nat} {l : List AV} {t : Tl} (h : App T l t) {i v : Nat} (e : t = .tl i v) : i < T.length := by
 rcases h with ⟨_, rfl⟩ | ⟨_, id, ver, rfl, h2⟩
 ·cases e
 ·cases e; exact (List.getElem?_eq_some_iff.1 h2).1
theorem App.jd {T T' : List Nat} {l : List AV} {t u u' : Tl} (h : App T l t) (o : Oth T u T' u') (d : ∀ i v v', u = .tl i v -> t ≠ .tl i v') : App T' l t := by
 rcases h with ⟨h1, rfl⟩ | ⟨h1, id, ver, rfl, h2⟩
 ·exact .inl ⟨h1, rfl⟩
 ·exact .inr ⟨h1, id, ver, rfl, o.2.1 id ver h2 λ v e => d id v ver e rfl⟩
end Go.Proofs.Eng
namespace Go.Proofs.Eng
open Go Go.Proofs
set_option maxRecDepth 100000
set_option maxHeartbeats 16000000
def Ins.av (x : Ins) : AV := .agg [.int x.op, .int x.a, .int x.b, .str x.n]
def jj (l : List Ins) : List AV := l.map Ins.av
theorem jb (l : List Ins) : (jj l).length = l.length := by simp [jj]
theorem rq (l : List Ins) : ((jj l).all λ x => x.cells.length == 4) = true := by
 rw [aw]; intro x hx
 obtain ⟨b, _, rfl⟩ := List.mem_map.1 hx; rfl
theorem R5 (l : List Ins) (x : Ins) : jj (l ++ [x]) = jj l ++ [x.av] := by simp [jj]
def CS (ci : Nat) (gl : AV) (es : List Ex) (O : List Ins) (H : List fp) (V : List Nat) : Prop := ∃ Q tq to, H[ci]? = some (.cells false [gl, .sl Q tq, .sl (jj O) to]) /\ LIs Ex.Is es Q /\ App V Q tq /\ App V (jj O) to /\ ∀ i v v', tq = .tl i v -> to ≠ .tl i v'
def OwC (ci : Nat) (H : List fp) (i : Nat) : Prop := ∃ x Q tq O to v, H[ci]? = some (.cells false [x, .sl Q tq, .sl O to]) /\ (tq = .tl i v \/ to = .tl i v)
structure Stp (ci : Nat) (H : List fp) (V : List Nat) (H' : List fp) (V' : List Nat) : Prop where
 len : H.length <= H'.length
 vl : V.length <= V'.length
 vk : ∀ i v, V[i]? = some v -> ¬ OwC ci H i -> V'[i]? = some v
 own : ∀ i, OwC ci H' i -> OwC ci H i \/ V.length <= i
 jd : ∀ k, k < H.length -> k ≠ ci -> H'[k]? = H[k]?
theorem Stp.trans {ci : Nat} {A B C : List fp} {V V' V'' : List Nat} (h : Stp ci A V B V') (k : Stp ci B V' C V'') : Stp ci A V C V'' where
 len := dr h.len k.len
 vl := dr h.vl k.vl
 vk i v h1 h2 := k.vk i v (h.vk i v h1 h2) λ h3 => by
  have := (List.getElem?_eq_some_iff.1 h1).1
  rcases h.own i h3 with h4 | h4
  ·exact h2 h4
  ·omega
 own i h1 := by
  rcases k.own i h1 with h2 | h2
  ·exact h.own i h2
  ·exact .inr (dr h.vl h2)
 jd i h1 h2 := (k.jd i (dq h1 h.len) h2).trans (h.jd i h1 h2)
theorem xj {ci : Nat} {H H' : List fp} (h : H'[ci]? = H[ci]?) (i : Nat) : OwC ci H' i ↔ OwC ci H i := by
 unfold OwC; rw [h]
theorem CS.lt {ci : Nat} {gl : AV} {es : List Ex} {O : List Ins} {H : List fp} {V : List Nat} (h : CS ci gl es O H V) : ci < H.length := by
 obtain ⟨_, _, _, h1, _⟩ := h
 exact fy h1
theorem CS.app {ci : Nat} {gl : AV} {es : List Ex} {O : List Ins} {H : List fp} {V : List Nat} (h : CS ci gl es O H V) (G : List fp) : CS ci gl es O (H ++ G) V := by
 obtain ⟨Q, tq, to, h1, h2⟩ := h
 exact ⟨Q, tq, to, gy h1 G, h2⟩
theorem Stp.app {ci : Nat} {H : List fp} (h : ci < H.length) (V : List Nat) (G : List fp) : Stp ci H V (H ++ G) V where
 len := by simp
 vl := di _
 vk _ _ h _ := h
 own i h1 := .inl ((xj (ae h) i).1 h1)
 jd k h1 _ := ae h1
theorem Stp.get {ci : Nat} {A B : List fp} {V V' : List Nat} (h : Stp ci A V B V') {k : Nat} {o : fp} (hk : A[k]? = some o) (h1 : k ≠ ci) : B[k]? = some o := by rw [h.jd k (fy hk) h1]; exact hk
theorem CS.out {ci : Nat} {gl : AV} {es : List Ex} {O O' : List Ins} {H : List fp} {V V' : List Nat} {Q : List AV} {tq to to' : Tl} (h1 : H[ci]? = some (.cells false [gl, .sl Q tq, .sl (jj O) to])) (h2 : LIs Ex.Is es Q) (h3 : App V Q tq) (h5 : ∀ i v v', tq = .tl i v -> to ≠ .tl i v') (ha : App V' (jj O') to') (ho : Oth V to V' to') :
  CS ci gl es O' (H.set ci (.cells false [gl, .sl Q tq, .sl (jj O') to'])) V' /\ Stp ci H V (H.set ci (.cells false [gl, .sl Q tq, .sl (jj O') to'])) V' := by
 have lb := fy h1
 have hs : (H.set ci (.cells false [gl, .sl Q tq, .sl (jj O') to']))[ci]? = some (.cells false [gl, .sl Q tq, .sl (jj O') to']) := by rw [b9, if_pos rfl, if_pos lb]
 refine ⟨⟨Q, tq, to', hs, h2, h3.jd ho λ i v v' e1 e2 => h5 i v' v e2 e1, ha, λ i v v' e1 e2 => ?_⟩, by simp, ho.1, λ i v e hn => ho.2.1 i v e λ ver e2 => hn ⟨_, _, _, _, _, _, h1, .inr e2⟩, λ i ⟨_, _, _, _, _, v, e1, e2⟩ => ?_, λ k k1 k2 => by rw [b9, if_neg (Ne.symm k2)]⟩
 ·rcases ho.2.2 i v' e2 with ⟨v0, e0⟩ | hle
  ·exact h5 i v v0 e1 e0
  ·have := h3.lt e1; omega
 ·rw [hs] at e1
  simp only [fe, fp.cells.injEq, List.cons.injEq, AV.sl.injEq, true_and, and_true] at e1
  obtain ⟨_, ⟨_, rfl⟩, _, rfl⟩ := e1
  rcases e2 with e2 | e2
  ·exact .inl ⟨_, _, _, _, _, _, h1, .inl e2⟩
  ·rcases ho.2.2 i v e2 with ⟨v0, h⟩ | h
   ·exact .inl ⟨_, _, _, _, _, _, h1, .inr h⟩
   ·exact .inr h
theorem a5f {ci : Nat} {gl : AV} {es : List Ex} {O : List Ins} {H : List fp} {V : List Nat} (hC : CS ci gl es O H V) (x : Ins) (hl : O.length < wi) :
  Sh md pfs 70 [.ptr ci 0, .int x.op, .int x.a, .int x.b, .str x.n] ⟨H, V⟩ (λ v s => v = .tup [] /\ ∃ H' V', s = ⟨H', V'⟩ /\ CS ci gl es (O ++ [x]) H' V' /\ Stp ci H V H' V') λ _ _ => False := by
 obtain ⟨Q, tq, to, h1, h2, h3, h4, h5⟩ := hC
 obtain ⟨to', V', a1, a2, a3⟩ := rh (es := 4) (xs := [x.av]) h4 (by rw [jb]; simp only [ak, ao]; omega) (rq O) rfl
 rw [<- R5] at a1 a2
 replace a1 : ∀ H, qz ⟨H, V⟩ 4 none (jj O) to [.agg [.int x.op, .int x.a, .int x.b, .str x.n]] = some (.sl (jj (O ++ [x])) to', ⟨H, V'⟩) := a1
 obtain ⟨c1, c2⟩ := CS.out h1 h2 h3 h5 a2 a3
 refine kg pf70_is (dh rfl) ?_
 simp only [pf70, ↓fj, wall, simprocAttr, wH, h1, a1]
 exact ⟨_, _, rfl, c1, c2⟩
end Go.Proofs.Eng
namespace Go.Proofs.Eng
open Go Go.Proofs
set_option maxRecDepth 100000
set_option maxHeartbeats 16000000
theorem a03 {H : List fp} {T : List Nat} {es : Nat} {l xs : List AV} {t : Tl} (h : App T l t) : K3 ⟨H, T⟩ es l t xs = qz ⟨H, T⟩ es none l t xs := by
 rcases h with ⟨_, rfl⟩ | ⟨_, _, _, rfl, _⟩ <;> rfl
theorem CS.que {ci : Nat} {gl : AV} {es' : List Ex} {O : List Ins} {H : List fp} {V V' : List Nat} {Q Q' : List AV} {tq to tq' : Tl} (h1 : H[ci]? = some (.cells false [gl, .sl Q tq, .sl (jj O) to])) (h4 : App V (jj O) to) (h5 : ∀ i v v', tq = .tl i v -> to ≠ .tl i v') (hi : LIs Ex.Is es' Q') (ha : App V' Q' tq') (ho : Oth V tq V' tq') :
  CS ci gl es' O (H.set ci (.cells false [gl, .sl Q' tq', .sl (jj O) to])) V' /\ Stp ci H V (H.set ci (.cells false [gl, .sl Q' tq', .sl (jj O) to])) V' := by
 have lb := fy h1
 have hs : (H.set ci (.cells false [gl, .sl Q' tq', .sl (jj O) to]))[ci]? = some (.cells false [gl, .sl Q' tq', .sl (jj O) to]) := by rw [b9, if_pos rfl, if_pos lb]
 refine ⟨⟨Q', tq', to, hs, hi, ha, h4.jd ho λ i v v' e1 e2 => h5 i v v' e1 e2, λ i v v' e1 e2 => ?_⟩, by simp, ho.1, λ i v e hn => ho.2.1 i v e λ ver e2 => hn ⟨_, _, _, _, _, _, h1, .inl e2⟩, λ i ⟨_, _, _, _, _, v, e1, e2⟩ => ?_, λ k k1 k2 => by rw [b9, if_neg (Ne.symm k2)]⟩
 ·rcases ho.2.2 i v e1 with ⟨v0, e0⟩ | hle
  ·exact h5 i v0 v' e0 e2
  ·have := h4.lt e2; omega
 ·rw [hs] at e1
  simp only [fe, fp.cells.injEq, List.cons.injEq, AV.sl.injEq, true_and, and_true] at e1
  obtain ⟨_, ⟨_, rfl⟩, _, rfl⟩ := e1
  rcases e2 with e2 | e2
  ·rcases ho.2.2 i v e2 with ⟨v0, h⟩ | h
   ·exact .inl ⟨_, _, _, _, _, _, h1, .inl h⟩
   ·exact .inr h
  ·exact .inl ⟨_, _, _, _, _, _, h1, .inr e2⟩
theorem T8 {ci : Nat} {gl : AV} {es : List Ex} {O : List Ins} {H : List fp} {V : List Nat} (hC : CS ci gl es O H V) {x : Ex} {a : AV} (hx : x.Is a) (hl : es.length < wi) :
  Sh md pfs 67 [.ptr ci 0, a] ⟨H, V⟩ (λ v s => v = .int (es.length : Nat) /\ ∃ H' V', s = ⟨H', V'⟩ /\ CS ci gl (es ++ [x]) O H' V' /\ Stp ci H V H' V') λ _ _ => False := by
 have hlt := hC.lt
 obtain ⟨Q, tq, to, h1, h2, h3, h4, h5⟩ := hC
 have hln := h2.len
 obtain ⟨k, i, n, s, kids⟩ := x
 have hx0 := hx
 obtain ⟨t1, t2, kas, rfl, g1, g2, g3, g4, g5, g6⟩ := hx.opn
 obtain ⟨tq', V', a1, a2, a3⟩ := rh (es := 5) (xs := [.agg [.int k, .int i, .str n, .sl (ints s) t1, .sl kas t2]]) h3 (by simp only [ak, ao]; omega) (h2.all mz) (by
  simp only [db, List.all_nil, tj, Hy, Pa]; rfl)
 have b1 := gy h1 [fp.cells false [.int k, .int i, .str n, .sl (ints s) t1, .sl kas t2]]
 have hB : ∀ H, K3 ⟨H, V⟩ 5 Q tq [.agg [.int k, .int i, .str n, .sl (ints s) t1, .sl kas t2]] = some (.sl (Q ++ [.agg [.int k, .int i, .str n, .sl (ints s) t1, .sl kas t2]]) tq', ⟨H, V'⟩) := λ H => by rw [a03 h3, a1]
 obtain ⟨c1, c2⟩ := CS.que b1 h4 h5 (h2.append (.one hx0)) a2 a3
 have c3 := (Stp.app hlt V [fp.cells false [.int k, .int i, .str n, .sl (ints s) t1, .sl kas t2]]).trans c2
 have lb := fy b1
 have hs1 : ∀ Y, ((H ++ [fp.cells false [AV.int k, .int i, .str n, .sl (ints s) t1, .sl kas t2]]).set ci Y)[ci]? = some Y := λ Y => by rw [b9, if_pos rfl, if_pos lb]
 have w92 : IntKind.i64.wrap (((Q.length + 1 : Nat) : Int) - 1) = (es.length : Nat) := by rw [je (by unfold m7; unfold wi at hl; omega)]; omega
 refine kg pf67_is (dh rfl) ?_
 simp only [pf67, ↓fj, wall, simprocAttr, wH, b1, hB, hs1, Ok, w92, List.length_singleton]
 exact ⟨_, _, rfl, c1, c3⟩
end Go.Proofs.Eng
namespace Go.Proofs.Eng
open Go Go.Proofs
set_option maxRecDepth 100000
set_option maxHeartbeats 16000000
theorem Ga {c : gr} {md : FuncId -> Md} {a b : PC} {E0 : Env} {s : ASt} {Q : fu -> St -> Prop} {nt : Nat} {df : List (FuncId × List AV)} (J : Env -> List fp -> List Nat -> Prop) (h1 : W c md a ⟨tmE nt E0, df, s⟩ (LQ (EQ nt df J) Q) ()) (h2 : ∀ E H T, J E H T -> W c md b ⟨tmE nt E, df, ⟨H, T⟩⟩ Q ()) : W c md (.seq a b) ⟨tmE nt E0, df, s⟩ Q () := by
 rw [a2q]
 refine h1.mono λ r st' hr => ?_
 cases r with
 | normal =>
  obtain ⟨E, H, T, rfl, hJ⟩ := hr
  exact h2 E H T hJ
 | exit n => exact hr
 | ret => exact hr
 | pan v => exact hr
theorem Sh.sw {f : FuncId} {args : List AV} {s : ASt} {PR : AV -> ASt -> Prop} (h : Sh md pfs f args s PR λ _ _ => False) (hm : md f = .shared) : ∃ v s', PR v s' /\ ∀ K KP, CW (run md pfs) md false s f args K KP () = K v s' := by
 rcases h.call hm with h | ⟨_, _, h, _⟩
 ·exact h
 ·exact h.elim
theorem oi {ci : Nat} {gl : AV} {es : List Ex} {O : List Ins} {H : List fp} {V : List Nat} (hC : CS ci gl es O H V) (op a b : Int) (n : ByteArray) (hl : O.length < wi) :
  ∃ H' V', CS ci gl es (O ++ [⟨op, a, b, n⟩]) H' V' /\ Stp ci H V H' V' /\ ∀ K KP, CW (run md pfs) md false ⟨H, V⟩ 70 [.ptr ci 0, .int op, .int a, .int b, .str n] K KP () = K (.tup []) ⟨H', V'⟩ := by
 obtain ⟨_, _, ⟨rfl, H', V', rfl, h1, h2⟩, h3⟩ := (a5f hC ⟨op, a, b, n⟩ hl).sw rfl
 exact ⟨H', V', h1, h2, h3⟩
theorem xf {ci : Nat} {gl : AV} {es : List Ex} {O : List Ins} {H : List fp} {V : List Nat} (hC : CS ci gl es O H V) {x : Ex} {a : AV} (hx : x.Is a) (hl : es.length < wi) :
  ∃ H' V', CS ci gl (es ++ [x]) O H' V' /\ Stp ci H V H' V' /\ ∀ K KP, CW (run md pfs) md false ⟨H, V⟩ 67 [.ptr ci 0, a] K KP () = K (.int (es.length : Nat)) ⟨H', V'⟩ := by
 obtain ⟨_, _, ⟨rfl, H', V', rfl, h1, h2⟩, h3⟩ := (T8 hC hx hl).sw rfl
 exact ⟨H', V', h1, h2, h3⟩
def EmS (ci : Nat) (gl : AV) (gs : List Gl) (f : FuncId) (mk : AV -> List AV) (x : Ex) : Prop := ∀ {es : List Ex} {O : List Ins} {H : List fp} {V : List Nat} {a : AV}, CS ci gl es O H V -> x.Is a -> O.length + (x.emit gs es.length).1.length <= wi -> es.length + (x.emit gs es.length).2.length <= wi ->
 Sh md pfs f (mk a) ⟨H, V⟩ (λ v s => v = .tup [] /\ ∃ H' V', s = ⟨H', V'⟩ /\ CS ci gl (es ++ (x.emit gs es.length).2) (O ++ (x.emit gs es.length).1) H' V' /\ Stp ci H V H' V') λ _ _ => False
theorem EmS.call {ci : Nat} {gl : AV} {gs : List Gl} {f : FuncId} {mk : AV -> List AV} {x : Ex} (h : EmS ci gl gs f mk x) (hf : md f = .shared) {es : List Ex} {O : List Ins} {H : List fp} {V : List Nat} {a : AV} (hC : CS ci gl es O H V) (hx : x.Is a) (b1 : O.length + (x.emit gs es.length).1.length <= wi) (b2 : es.length + (x.emit gs es.length).2.length <= wi) :
  ∃ H' V', CS ci gl (es ++ (x.emit gs es.length).2) (O ++ (x.emit gs es.length).1) H' V' /\ Stp ci H V H' V' /\ ∀ K KP, CW (run md pfs) md false ⟨H, V⟩ f (mk a) K KP () = K (.tup []) ⟨H', V'⟩ := by
 obtain ⟨_, _, ⟨rfl, H', V', rfl, h1, h2⟩, h3⟩ := (h hC hx b1 b2).sw hf
 exact ⟨H', V', h1, h2, h3⟩
abbrev Exp (ci : Nat) (gl : AV) (gs : List Gl) (x : Ex) : Prop := EmS ci gl gs 69 (λ a => [.ptr ci 0, a]) x
theorem yr {ci : Nat} {gl : AV} {gs : List Gl} {x : Ex} (h : Exp ci gl gs x) {es : List Ex} {O : List Ins} {H : List fp} {V : List Nat} {a : AV} (hC : CS ci gl es O H V) (hx : x.Is a) (b1 : O.length + (x.emit gs es.length).1.length <= wi) (b2 : es.length + (x.emit gs es.length).2.length <= wi) :
  ∃ H' V', CS ci gl (es ++ (x.emit gs es.length).2) (O ++ (x.emit gs es.length).1) H' V' /\ Stp ci H V H' V' /\ ∀ K KP, CW (run md pfs) md false ⟨H, V⟩ 69 [.ptr ci 0, a] K KP () = K (.tup []) ⟨H', V'⟩ :=
 EmS.call (f := 69) (mk := λ a => [.ptr ci 0, a]) h rfl hC hx b1 b2
theorem a5u {ci : Nat} {gl : AV} {gs : List Gl} {i : Int} {n : ByteArray} {s : List Int} {kids : List Ex} : EmS ci gl gs 145 (λ a => [a, .ip [.ptr ci 0] 0]) (.mk 0 i n s kids) := by
 intro es O H V a hC hx b1 b2
 have e : (Ex.mk 0 i n s kids).emit gs es.length = ([⟨0, i, 0, ⟨#[]⟩⟩], []) := by simp [Ex.emit]
 rw [e] at b1 b2 ⊢
 obtain ⟨t1, t2, kas, rfl, g1, g2, g3, g4, g5, g6⟩ := hx.opn
 simp only [ak, ao] at b1
 obtain ⟨H', V', c1, c2, c3⟩ := oi (hC.app [.cells false [.int 0, .int i, .str n, .sl (ints s) t1, .sl kas t2]]) 0 i 0 ⟨#[]⟩ (by omega)
 refine kg pf145_is (dh rfl) ?_
 simp only [pf145, ↓fj, wall, simprocAttr, wH, c3]
 exact ⟨_, _, rfl, by simpa using c1, (Stp.app hC.lt _ _).trans c2⟩
theorem a48 {ci : Nat} {gl : AV} {gs : List Gl} {i : Int} {n : ByteArray} {s : List Int} {kids : List Ex} (hk : kids.length = 1) : EmS ci gl gs 146 (λ a => [a, .ip [.ptr ci 0] 0]) (.mk 1 i n s kids) := by
 intro es O H V a hC hx b1 b2
 have e : (Ex.mk 1 i n s kids).emit gs es.length = ([⟨1, (es.length : Nat), 0, ⟨#[]⟩⟩], kids.take 1) := by simp [Ex.emit]
 rw [e] at b1 b2 ⊢
 obtain ⟨t1, t2, kas, rfl, g1, g2, g3, g4, g5, g6⟩ := hx.opn
 simp only [ak, ao, b7, hk] at b1 b2
 have hkl := g6.len
 have hall := g6.all mz
 obtain ⟨y, c2, d0, d1, d3, d4, d5, d6, d7, d8⟩ := g6.get (i := 0) mz (by omega)
 have hy : kids.take 1 = [y] := by
  match kids, hk with
  | [z], _ => simp at d0; rw [d0]; rfl
 obtain ⟨H1, V1, p1, p2, p3⟩ := xf (hC.app [.cells false [.int 1, .int i, .str n, .sl (ints s) t1, .sl kas t2]]) d8 (by omega)
 obtain ⟨H2, V2, q1, q2, q3⟩ := oi p1 1 (es.length : Nat) 0 ⟨#[]⟩ (by omega)
 have hd0 : ((0 : Nat) : Int) = 0 := rfl
 refine kg pf146_is (dh rfl) ?_
 simp only [pf146, ↓fj, wall, simprocAttr, wH, d4, d5, d6, d7, hall, p3, q3]
 rw [hy]
 exact ⟨by simp [lq], _, _, rfl, q1, ((Stp.app hC.lt _ _).trans p2).trans q2⟩
theorem Em {gs : List Gl} {kids : List Ex} {j : Nat} {x : Ex} (h : kids[j]? = some x) (c : Nat) : im gs c (kids.take (j + 1)) = ((im gs c (kids.take j)).1 ++ (x.emit gs (c + (im gs c (kids.take j)).2.length)).1, (im gs c (kids.take j)).2 ++ (x.emit gs (c + (im gs c (kids.take j)).2.length)).2) := by
 rw [bj, h]
 exact Fu gs _ _ _
theorem H7 (gs : List Gl) : ∀ (l m : List Ex) (c : Nat), im gs c (l ++ m) = ((im gs c l).1 ++ (im gs (c + (im gs c l).2.length) m).1, (im gs c l).2 ++ (im gs (c + (im gs c l).2.length) m).2)
 | [], m, c => by simp [im]
 | x :: l, m, c => by simp only [bn, im, H7 gs l, aj, ah, du]
theorem Jr {gs : List Gl} {kids : List Ex} {c : Nat} (j : Nat) : (im gs c (kids.take j)).1.length <= (im gs c kids).1.length /\ (im gs c (kids.take j)).2.length <= (im gs c kids).2.length := by
 have := H7 gs (kids.take j) (kids.drop j) c
 rw [cx] at this
 rw [this]
 simp only [ah]
 omega
theorem a05 {ci : Nat} {gl : AV} {gs : List Gl} {i : Int} {n : ByteArray} {s : List Int} {kids : List Ex} (ih : ∀ x ∈ kids, Exp ci gl gs x) : EmS ci gl gs 148 (λ a => [.ptr ci 0, a]) (.mk 3 i n s kids) := by
 intro es O H V a hC hx b1 b2
 have e : (Ex.mk 3 i n s kids).emit gs es.length = ((im gs es.length kids).1 ++ [⟨4, i, (kids.length : Nat), n⟩], (im gs es.length kids).2) := by simp [Ex.emit]
 rw [e] at b1 b2 ⊢
 obtain ⟨t1, t2, kas, rfl, g1, g2, g3, g4, g5, g6⟩ := hx.opn
 simp only [ak, ao, ah] at b1 b2
 have hkl := g6.len
 have hall := g6.all mz
 refine kg pf148_is (dh rfl) ?_
 simp only [pf148]
 refine Ga (λ E H' V' => H' = H ++ [.cells false [.int 3, .int i, .str n, .sl (ints s) t1, .sl kas t2]] /\ V = V' /\ E 0 = .ptr ci 0 /\ E 3 = .ptr H.length 0) ?_ ?_
 ·simp only [↓fj, wall, simprocAttr, wH]; exact jm ⟨rfl, rfl, rfl, rfl⟩
 rintro E _ _ ⟨rfl, rfl, e0, e3⟩
 refine Ga (λ E H' V' => CS ci gl (es ++ (im gs es.length kids).2) (O ++ (im gs es.length kids).1) H' V' /\ Stp ci H V H' V' /\ E 0 = .ptr ci 0 /\ E 3 = .ptr H.length 0 /\ H'[H.length]? = some (.cells false [.int 3, .int i, .str n, .sl (ints s) t1, .sl kas t2])) ?_ ?_
 ·refine Ga (λ E H' V' => H' = H ++ [.cells false [.int 3, .int i, .str n, .sl (ints s) t1, .sl kas t2]] /\ V = V' /\ E 0 = .ptr ci 0 /\ E 3 = .ptr H.length 0 /\ E 7 = .sl kas t2 /\ E 8 = .int kas.length /\ E 9 = .int (0 : Nat)) ?_ ?_
  ·simp only [↓fj, wall, simprocAttr, wH, e0, e3]; exact jm ⟨rfl, rfl, e0, e3, rfl, rfl, rfl⟩
  clear e0 e3 E
  rintro E _ _ ⟨rfl, rfl, e0, e3, e7, e8, e9⟩
  rw [E8]
  refine j6 (λ j => kas.length - j) (λ j E H' V' => CS ci gl (es ++ (im gs es.length (kids.take j)).2) (O ++ (im gs es.length (kids.take j)).1) H' V' /\ Stp ci H V H' V' /\ E 0 = .ptr ci 0 /\ E 3 = .ptr H.length 0 /\ H'[H.length]? = some (.cells false [.int 3, .int i, .str n, .sl (ints s) t1, .sl kas t2]) /\ E 7 = .sl kas t2 /\ E 8 = .int kas.length /\ E 9 = .int (j : Nat) /\ j <= kas.length) ?_ 0 ⟨by simpa [im] using hC.app _, .app hC.lt _ _, e0, e3, by simp, e7, e8, e9, dk _⟩
  clear e0 e3 e7 e8 e9 E
  rintro j E H1 V1 ⟨hC1, hS1, e0, e3, hb, e7, e8, e9, hj⟩
  rcases dj j kas.length with hlt | hge
  ·have hdec : decide ((j : Int) < kas.length) = true := by simpa using hlt
   obtain ⟨x, c, d0, d1, d3, d4, d5, d6, d7, d8⟩ := g6.get mz hlt
   have hen := Em (gs := gs) d0 es.length
   have hle := Jr (gs := gs) (kids := kids) (c := es.length) (j + 1)
   rw [hen] at hle
   simp only [ah] at hle
   obtain ⟨H2, V2, hC2, hS2, cr⟩ := yr (ih x d3) (hC1.app [.cells false c]) d8 (by rw [ah, ah]; omega) (by rw [ah]; omega)
   rw [ah] at hC2
   simp only [↓fj, wall, simprocAttr, wH, e0, e3, e7, e8, e9, hdec, d4, d5, d6, d7, hall, cr]
   exact jm ⟨j + 1, by omega, by rw [hen, <- aj, <- aj]; exact hC2, (hS1.trans (.app hC1.lt _ _)).trans hS2, e0, e3, hS2.get (gy hb _) (by have := hC.lt; omega), e7, e8, iw (by unfold jh; unfold jh at g5; omega), by omega⟩
  ·have hdec : decide ((j : Int) < kas.length) = false := by simpa using hge
   rw [au (by omega)] at hC1
   simp only [↓fj, wall, simprocAttr, e8, e9, hdec]
   exact jm ⟨hC1, hS1, e0, e3, hb⟩
 clear e0 e3 E
 rintro E H1 V1 ⟨hC1, hS1, e0, e3, hb⟩
 obtain ⟨H2, V2, q1, q2, q3⟩ := oi hC1 4 i (kids.length : Nat) n (by rw [ah]; omega)
 simp only [↓fj, wall, simprocAttr, wH, e0, e3, hb, hkl, q3]
 exact ⟨_, _, rfl, by rw [<- aj]; exact q1, hS1.trans q2⟩
end Go.Proofs.Eng
namespace Go.Proofs.Eng
open Go Go.Proofs
set_option maxRecDepth 100000
set_option maxHeartbeats 16000000
theorem Fw {ci : Nat} {gl : AV} {gs : List Gl} {k i : Int} {n : ByteArray} {s : List Int} {kids : List Ex} (hk : k = 2 \/ k = 6 \/ k = 8 \/ k = 9 \/ k = 10 \/ k = 11) (ih : ∀ x ∈ kids, Exp ci gl gs x) : EmS ci gl gs 172 (λ a => [a, .ip [.ptr ci 0] 0, .ip [.int (opK k)] 0]) (.mk k i n s kids) := by
 intro es O H V a hC hx b1 b2
 have e : (Ex.mk k i n s kids).emit gs es.length = ((im gs es.length kids).1 ++ [⟨opK k, 0, 0, ⟨#[]⟩⟩], (im gs es.length kids).2) := by
  rcases hk with rfl | rfl | rfl | rfl | rfl | rfl <;> simp [Ex.emit, Ins.o]
 rw [e] at b1 b2 ⊢
 obtain ⟨t1, t2, kas, rfl, g1, g2, g3, g4, g5, g6⟩ := hx.opn
 simp only [ak, ao, ah] at b1 b2
 have hkl := g6.len
 have hall := g6.all mz
 generalize opK k = op at *
 refine kg pf172_is (dh rfl) ?_
 simp only [pf172]
 refine Ga (λ E H' V' => H' = H ++ [.cells false [.int k, .int i, .str n, .sl (ints s) t1, .sl kas t2]] /\ V = V' /\ E 1 = .ip [.ptr ci 0] 0 /\ E 2 = .ip [.int op] 0 /\ E 3 = .ptr H.length 0) ?_ ?_
 ·simp only [↓fj, wall, simprocAttr, wH]; exact jm ⟨rfl, rfl, rfl, rfl, rfl⟩
 rintro E _ _ ⟨rfl, rfl, e0, e2, e3⟩
 refine Ga (λ E H' V' => CS ci gl (es ++ (im gs es.length kids).2) (O ++ (im gs es.length kids).1) H' V' /\ Stp ci H V H' V' /\ E 1 = .ip [.ptr ci 0] 0 /\ E 2 = .ip [.int op] 0) ?_ ?_
 ·refine Ga (λ E H' V' => H' = H ++ [.cells false [.int k, .int i, .str n, .sl (ints s) t1, .sl kas t2]] /\ V = V' /\ E 1 = .ip [.ptr ci 0] 0 /\ E 2 = .ip [.int op] 0 /\ E 7 = .sl kas t2 /\ E 8 = .int kas.length /\ E 9 = .int (0 : Nat)) ?_ ?_
  ·simp only [↓fj, wall, simprocAttr, wH, e0, e2, e3]; exact jm ⟨rfl, rfl, e0, e2, rfl, rfl, rfl⟩
  clear e0 e2 e3 E
  rintro E _ _ ⟨rfl, rfl, e0, e2, e7, e8, e9⟩
  rw [E8]
  refine j6 (λ j => kas.length - j) (λ j E H' V' => CS ci gl (es ++ (im gs es.length (kids.take j)).2) (O ++ (im gs es.length (kids.take j)).1) H' V' /\ Stp ci H V H' V' /\ E 1 = .ip [.ptr ci 0] 0 /\ E 2 = .ip [.int op] 0 /\ E 7 = .sl kas t2 /\ E 8 = .int kas.length /\ E 9 = .int (j : Nat) /\ j <= kas.length) ?_ 0 ⟨by simpa [im] using hC.app _, .app hC.lt _ _, e0, e2, e7, e8, e9, dk _⟩
  clear e0 e2 e7 e8 e9 E
  rintro j E H1 V1 ⟨hC1, hS1, e0, e2, e7, e8, e9, hj⟩
  rcases dj j kas.length with hlt | hge
  ·have hdec : decide ((j : Int) < kas.length) = true := by simpa using hlt
   obtain ⟨x, c, d0, d1, d3, d4, d5, d6, d7, d8⟩ := g6.get mz hlt
   have hen := Em (gs := gs) d0 es.length
   have hle := Jr (gs := gs) (kids := kids) (c := es.length) (j + 1)
   rw [hen] at hle
   simp only [ah] at hle
   obtain ⟨H2, V2, hC2, hS2, cr⟩ := yr (ih x d3) (hC1.app [.cells false c]) d8 (by rw [ah, ah]; omega) (by rw [ah]; omega)
   rw [ah] at hC2
   simp only [↓fj, wall, simprocAttr, wH, e0, e7, e8, e9, hdec, d4, d5, d6, d7, hall, cr]
   exact jm ⟨j + 1, by omega, by rw [hen, <- aj, <- aj]; exact hC2, (hS1.trans (.app hC1.lt _ _)).trans hS2, e0, e2, e7, e8, iw (by unfold jh; unfold jh at g5; omega), by omega⟩
  ·have hdec : decide ((j : Int) < kas.length) = false := by simpa using hge
   rw [au (by omega)] at hC1
   simp only [↓fj, wall, simprocAttr, e8, e9, hdec]
   exact jm ⟨hC1, hS1, e0, e2⟩
 clear e0 e2 e3 E
 rintro E H1 V1 ⟨hC1, hS1, e0, e2⟩
 obtain ⟨H2, V2, q1, q2, q3⟩ := oi hC1 op 0 0 ⟨#[]⟩ (by rw [ah]; omega)
 simp only [↓fj, wall, simprocAttr, wH, e0, e2, q3]
 exact ⟨_, _, rfl, by rw [<- aj]; exact q1, hS1.trans q2⟩
theorem a5s {ci : Nat} {gl : AV} {gs : List Gl} {i : Int} {n : ByteArray} {s : List Int} {kids : List Ex} (hk : kids.length = 2) (ih : ∀ x ∈ kids, Exp ci gl gs x) : EmS ci gl gs 151 (λ a => [.ptr ci 0, a]) (.mk 7 i n s kids) := by
 intro es O H V a hC hx b1 b2
 obtain ⟨y, z, rfl⟩ : ∃ y z, kids = [y, z] := by
  match kids, hk with
  | [y, z], _ => exact ⟨y, z, rfl⟩
 have e : (Ex.mk 7 i n s [y, z]).emit gs es.length = ((y.emit gs es.length).1 ++ ⟨9, 0, 0, ⟨#[]⟩⟩ :: (z.emit gs (es.length + (y.emit gs es.length).2.length)).1 ++ [⟨10, 0, 0, ⟨#[]⟩⟩], (y.emit gs es.length).2 ++ (z.emit gs (es.length + (y.emit gs es.length).2.length)).2) := by simp [Ex.emit, kh, yj, Ins.o]
 rw [e] at b1 b2 ⊢
 obtain ⟨t1, t2, kas, rfl, g1, g2, g3, g4, g5, g6⟩ := hx.opn
 simp only [ak, ao, ah] at b1 b2
 have hkl := g6.len
 simp only [ak, ao] at hkl
 have hall := g6.all mz
 obtain ⟨y', c, d0, d1, d3, d4, d5, d6, d7, d8⟩ := g6.get (i := 0) mz (by omega)
 obtain ⟨z', c', f0, f1, f3, f4, f5, f6, f7, f8⟩ := g6.get (i := 1) mz (by omega)
 obtain rfl : y = y' := by simpa using d0
 obtain rfl : z = z' := by simpa using f0
 obtain ⟨H1, V1, hC1, hS1, c1⟩ := yr (ih y d3) (hC.app [.cells false [.int 7, .int i, .str n, .sl (ints s) t1, .sl kas t2]]) d8 (by omega) (by omega)
 obtain ⟨H2, V2, hC2, hS2, c2⟩ := oi hC1 9 0 0 ⟨#[]⟩ (by rw [ah]; omega)
 obtain ⟨H3, V3, hC3, hS3, c3⟩ := yr (ih z f3) hC2 f8 (by simp only [ah, ak, ao]; omega) (by simp only [ah]; omega)
 rw [ah] at hC3
 obtain ⟨H4, V4, hC4, hS4, c4⟩ := oi hC3 10 0 0 ⟨#[]⟩ (by simp only [ah, ak, ao]; omega)
 have hb0 : (H ++ [fp.cells false [.int 7, .int i, .str n, .sl (ints s) t1, .sl kas t2]])[H.length]? = some (.cells false [.int 7, .int i, .str n, .sl (ints s) t1, .sl kas t2]) := by simp
 have hne : H.length ≠ ci := by have := hC.lt; omega
 have hb1 := hS1.get hb0 hne
 have hb2 := hS2.get hb1 hne
 have hb3 := hS3.get hb2 hne
 refine kg pf151_is (dh rfl) ?_
 simp only [pf151, ↓fj, wall, simprocAttr, wH, d4, d5, d6, d7, f4, f5, f6, f7, hall, c1, c2, c3, c4, hb1, hb2, hb3]
 refine ⟨_, _, rfl, ?_, (((Stp.app hC.lt _ _).trans hS1).trans hS2).trans (hS3.trans hS4)⟩
 simpa only [aj, bn, bo] using hC4
end Go.Proofs.Eng
namespace Go.Proofs.Eng
open Go Go.Proofs
set_option maxRecDepth 100000
set_option maxHeartbeats 16000000
theorem Um {ci : Nat} {gl : AV} {gs : List Gl} {i : Int} {n : ByteArray} {s : List Int} {kids : List Ex} (hk : kids.length = s.length + 1) (ih : ∀ x ∈ kids, Exp ci gl gs x) : EmS ci gl gs 149 (λ a => [.ptr ci 0, a]) (.mk 4 i n s kids) := by
 intro es O H V a hC hx b1 b2
 obtain ⟨y, l, rfl⟩ : ∃ y l, kids = y :: l := by
  match kids, hk with
  | y :: l, _ => exact ⟨y, l, rfl⟩
 have e : (Ex.mk 4 i n s (y :: l)).emit gs es.length = ((y.emit gs es.length).1 ++ ⟨5, (s.length : Nat), 0, ⟨#[]⟩⟩ :: brs (es.length + (y.emit gs es.length).2.length) s, (y.emit gs es.length).2 ++ l) := by simp [Ex.emit, kh]
 rw [e] at b1 b2 ⊢
 obtain ⟨t1, t2, kas, rfl, g1, g2, g3, g4, g5, g6⟩ := hx.opn
 simp only [ak, ao, ah, Bh] at b1 b2
 have hkl := g6.len
 simp only [ak] at hkl hk
 have hall := g6.all mz
 have hia := mn s
 obtain ⟨y', c, d0, d1, d3, d4, d5, d6, d7, d8⟩ := g6.get (i := 0) mz (by omega)
 obtain rfl : y = y' := by simpa using d0
 have hb0 : (H ++ [fp.cells false [.int 4, .int i, .str n, .sl (ints s) t1, .sl kas t2]])[H.length]? = some (.cells false [.int 4, .int i, .str n, .sl (ints s) t1, .sl kas t2]) := by simp
 have hne : H.length ≠ ci := by have := hC.lt; omega
 obtain ⟨H1, V1, hC1, hS1, c1⟩ := yr (ih y d3) (hC.app [.cells false [.int 4, .int i, .str n, .sl (ints s) t1, .sl kas t2]]) d8 (by omega) (by omega)
 obtain ⟨H2, V2, hC2, hS2, c2⟩ := oi hC1 5 (s.length : Nat) 0 ⟨#[]⟩ (by rw [ah]; omega)
 have hb1 := hS1.get hb0 hne
 have hb2 := hS2.get hb1 hne
 have hS : Stp ci H V H2 V2 := ((Stp.app hC.lt _ _).trans hS1).trans hS2
 refine kg pf149_is (dh rfl) ?_
 simp only [pf149]
 refine Ga (λ E H' V' => H' = H ++ [.cells false [.int 4, .int i, .str n, .sl (ints s) t1, .sl kas t2]] /\ V = V' /\ E 0 = .ptr ci 0 /\ E 3 = .ptr H.length 0) ?_ ?_
 ·simp only [↓fj, wall, simprocAttr, wH]; exact jm ⟨rfl, rfl, rfl, rfl⟩
 rintro E _ _ ⟨rfl, rfl, e0, e3⟩
 refine Ga (λ E H' V' => H1 = H' /\ V1 = V' /\ E 0 = .ptr ci 0 /\ E 3 = .ptr H.length 0) ?_ ?_
 ·simp only [↓fj, wall, simprocAttr, wH, e0, e3, d4, d5, d6, d7, hall, c1]; exact jm ⟨rfl, rfl, e0, e3⟩
 clear e0 e3 E
 rintro E _ _ ⟨rfl, rfl, e0, e3⟩
 refine Ga (λ E H' V' => H2 = H' /\ V2 = V' /\ E 0 = .ptr ci 0 /\ E 3 = .ptr H.length 0) ?_ ?_
 ·simp only [↓fj, wall, simprocAttr, wH, e0, e3, hb1, ig, c2]; exact jm ⟨rfl, rfl, e0, e3⟩
 clear e0 e3 E
 rintro E _ _ ⟨rfl, rfl, e0, e3⟩
 refine Ga (λ E H' V' => H2 = H' /\ V2 = V' /\ E 0 = .ptr ci 0 /\ E 3 = .ptr H.length 0 /\ E 18 = .sl (ints s) t1 /\ E 19 = .int (s.length : Nat) /\ E 20 = .int (0 : Nat)) ?_ ?_
 ·simp only [↓fj, wall, simprocAttr, wH, e0, e3, hb2, ig]; exact jm ⟨rfl, rfl, e0, e3, rfl, rfl, rfl⟩
 clear e0 e3 E
 rintro E _ _ ⟨rfl, rfl, e0, e3, e18, e19, e20⟩
 rw [E8]
 refine j6 (λ j => s.length - j) (λ j E H' V' => CS ci gl (es ++ (y.emit gs es.length).2 ++ l.take j) (O ++ (y.emit gs es.length).1 ++ [⟨5, (s.length : Nat), 0, ⟨#[]⟩⟩] ++ brs (es.length + (y.emit gs es.length).2.length) (s.take j)) H' V' /\ Stp ci H V H' V' /\ E 0 = .ptr ci 0 /\ E 3 = .ptr H.length 0 /\ H'[H.length]? = some (.cells false [.int 4, .int i, .str n, .sl (ints s) t1, .sl kas t2]) /\ E 18 = .sl (ints s) t1 /\ E 19 = .int (s.length : Nat) /\ E 20 = .int (j : Nat) /\ j <= s.length) ?_ 0 ⟨by simpa [brs] using hC2, hS, e0, e3, hb2, e18, e19, e20, dk _⟩
 clear e0 e3 e18 e19 e20 E
 rintro j E H3 V3 ⟨hC3, hS3, e0, e3, hb, e18, e19, e20, hj⟩
 rcases dj j s.length with hlt | hge
 ·have hdec : decide ((j : Int) < (s.length : Nat)) = true := by simpa using hlt
  obtain ⟨v, q0, q1, q2⟩ := Bu hlt
  obtain ⟨x, c', f0, f1, f3, f4, f5, f6, f7, f8⟩ := g6.get (i := j + 1) mz (by omega)
  have f0' : l[j]? = some x := by simpa using f0
  obtain ⟨H4, V4, p1, p2, p3⟩ := xf hC3 f8 (by simp only [ah, b7]; omega)
  obtain ⟨m, hm⟩ : ∃ m, m = (es ++ (y.emit gs es.length).2 ++ l.take j).length := ⟨_, rfl⟩
  rw [<- hm] at p3
  obtain ⟨H5, V5, r1, r2, r3⟩ := oi p1 6 (m : Nat) v ⟨#[]⟩ (by simp only [ah, ak, ao, Bh, b7]; omega)
  have w30 : IntKind.i64.wrap ((j : Int) + 1) = ((j + 1 : Nat) : Int) := Hr (by unfold jh; unfold jh at g4; omega)
  simp only [↓fj, wall, simprocAttr, wH, e0, e3, e18, e19, e20, hdec, q2, hia, hb, w30, f4, f5, f6, f7, hall, p3, r3]
  refine jm ⟨j + 1, by omega, ?_, (hS3.trans p2).trans r2, e0, e3, r2.get (p2.get hb hne) hne, e18, e19, rfl, by omega⟩
  have et : l.take (j + 1) = l.take j ++ [x] := by rw [bj, f0']; rfl
  have eb : brs (es.length + (y.emit gs es.length).2.length) (s.take (j + 1)) = brs (es.length + (y.emit gs es.length).2.length) (s.take j) ++ [⟨6, ((m : Nat) : Int), v, ⟨#[]⟩⟩] := by
   rw [hm]
   have : s.take (j + 1) = s.take j ++ [v] := by rw [bj, q0]; rfl
   rw [this, Ls, ah, ah, b7, b7, Nat.min_eq_left (by omega), Nat.min_eq_left (by omega)]
  rw [et, eb]
  simpa only [aj, bn, bo] using r1
 ·have hdec : decide ((j : Int) < (s.length : Nat)) = false := by simpa using hge
  rw [au (by omega), au (by omega)] at hC3
  simp only [↓fj, wall, simprocAttr, e19, e20, hdec]
  exact ⟨_, _, rfl, by simpa only [aj, bn, bo] using hC3, hS3⟩
end Go.Proofs.Eng
namespace Go.Proofs.Eng
open Go Go.Proofs
set_option maxRecDepth 100000
set_option maxHeartbeats 16000000
theorem Out.a2t {f : FuncId} {args args' : List AV} {s : ASt} {PR : AV -> Prop} (h : Out md pfs f args' PR λ _ => False) (hm : md f = .pure) (ha : iq (gh 20 s) args = some args') : ∃ v, PR v /\ ∀ K KP, CW (run md pfs) md false s f args K KP () = K v (args.foldl (frz 20) s) := by
 obtain ⟨out, s', out', h1, h2, h3⟩ := h
 cases out' with
 | pan v => exact h3.elim
 | ret v => exact ⟨v, h3, λ K KP => by simp [CW, lj, hm, ha, h1, h2]⟩
theorem Pm {n : ByteArray} : ∀ {gs : List Gl} {j : Nat} {x : Gl}, gs[j]? = some x -> x.1 = n -> ((gs.take j).any λ g => decide (g.1 = n)) = false -> zq gs n = j
 | [], j, x, h, _, _ => by simp at h
 | g :: gs, 0, x, h, h1, _ => by
  simp only [bw, fe] at h
  subst h
  rw [zq, if_pos h1]
 | g :: gs, j + 1, x, h, h1, h2 => by
  simp only [bu] at h
  simp only [List.take_succ_cons, List.any_cons, Bool.or_eq_false_iff, decide_eq_false_iff_not] at h2
  rw [zq, if_neg h2.1, Pm h h1 h2.2]
theorem Zr {g : Gl} {a : AV} (h : Ww g a) {k i : Int} {n : ByteArray} {x y : AV} (hp : gg [.int k, .int i, .str n, x, y] = true) : Out md pfs 173 [a, .ip [.int k, .int i, .str n, x, y] 0] (· = .bool (decide (g.1 = n))) λ _ => False := by
 obtain ⟨m, x0⟩ := g
 obtain ⟨k', i', n', s', kids'⟩ := x0
 obtain ⟨c, rfl, l, he⟩ := h
 obtain ⟨t1, t2, kas, e, _⟩ := he.opn
 simp only [AV.agg.injEq] at e
 subst e
 refine iy pf173_is (dh rfl) ?_
 simp only [pf173, ↓fj, wall, simprocAttr, wH, sd, nk]
theorem P4 {H : List fp} {V : List Nat} {L : List AV} {f b : Nat} {fz : Bool} (h : H[b]? = some (.cells fz L)) (hp : gg L = true) : gh 20 ⟨H, V⟩ (.fn f [.ptr b 0]) = some (.fn f [.ip L 0]) := by
 rw [a35]; simp only [iq, Tu, h, th hp, dk, if_true, fg]
theorem Sm (m : Nat) : ∀ (l : List AV) (s : ASt), gg l = true -> l.foldl (frz m) s = s
 | [], s, _ => rfl
 | x :: l, s, h => by
  rw [ga, dx] at h
  rw [dc, zk h.1, Sm m l s h.2]
theorem Oa {H : List fp} {V : List Nat} {L : List AV} {f b : Nat} {fz : Bool} (h : H[b]? = some (.cells fz L)) (hp : gg L = true) : frz 20 ⟨H, V⟩ (.fn f [.ptr b 0]) = ⟨H.set b (.cells true L), V⟩ := by
 rw [a2k]
 simp only [ga, Ml, ej, dy, if_false, dc, List.foldl_nil, Su, h, Sm _ _ _ hp, ASt.fz]
theorem Rr {ci : Nat} {gas : List AV} {tg : Tl} {gs : List Gl} {i : Int} {n : ByteArray} {s : List Int} {kids : List Ex} (hg : LIs Ww gs gas) (htg : tg.pure = true) (hl : gas.length <= jh) (hf : (A1 gs n).isSome = true) : EmS ci (.sl gas tg) gs 150 (λ a => [.ptr ci 0, a]) (.mk 5 i n s kids) := by
 intro es O H V a hC hx b1 b2
 have e : (Ex.mk 5 i n s kids).emit gs es.length = ([⟨7, (zq gs n : Nat), 0, ⟨#[]⟩⟩], []) := by simp [Ex.emit]
 rw [e] at b1 b2 ⊢
 obtain ⟨t1, t2, kas, rfl, g1, g2, g3, g4, g5, g6⟩ := hx.opn
 have hpur := qe _ hx
 rw [lu] at hpur
 simp only [ak, ao] at b1
 have hall := hg.all Uh
 have hgp : gz (.sl gas tg) = true := by rw [lg]; simp [htg, hg.pure λ x a h => Uh.pure h]
 have hbx : (H ++ [fp.cells false [.int 5, .int i, .str n, .sl (ints s) t1, .sl kas t2]])[H.length]? = some (.cells false [.int 5, .int i, .str n, .sl (ints s) t1, .sl kas t2]) := by simp
 obtain ⟨v, ⟨r, rfl, hr⟩, hc⟩ := (Mf Uh 173 [.ip [.int 5, .int i, .str n, .sl (ints s) t1, .sl kas t2] 0] rfl (by simp [ga, gu, Oj, hpur]) (λ g => decide (g.1 = n)) (t := tg) hg hl λ g _ a ha => Zr ha hpur).a2t rfl (s := ⟨H ++ [.cells false [.int 5, .int i, .str n, .sl (ints s) t1, .sl kas t2]], V⟩) (args := [.sl gas tg, .fn 173 [.ptr H.length 0]]) (by
  rw [iq, iu hgp, iq, P4 hbx hpur, iq])
 have hr' : r = (zq gs n : Nat) := by
  rcases hr with ⟨_, h2⟩ | ⟨j, x, rfl, h2, h3, h4⟩
  ·have := Cs n gs
   rw [hf, h2] at this; cases this
  ·rw [Pm h2 (by simpa using h3) h4]
 subst hr'
 have hfz : (([.sl gas tg, .fn 173 [.ptr H.length 0]] : List AV).foldl (frz 20) ⟨H ++ [.cells false [.int 5, .int i, .str n, .sl (ints s) t1, .sl kas t2]], V⟩) = ⟨H ++ [.cells true [.int 5, .int i, .str n, .sl (ints s) t1, .sl kas t2]], V⟩ := by
  rw [dc, zk hgp, dc, Oa hbx hpur, List.foldl_nil]
  simp
 rw [hfz] at hc
 obtain ⟨H', V', c1, c2, c3⟩ := oi (hC.app [.cells true [.int 5, .int i, .str n, .sl (ints s) t1, .sl kas t2]]) 7 (zq gs n : Nat) 0 ⟨#[]⟩ (by omega)
 obtain ⟨Q, tq, to, h1, _⟩ := id hC
 refine kg pf150_is (dh rfl) ?_
 simp only [pf150, ↓fj, wall, simprocAttr, wH, gy h1, hc, c3]
 exact ⟨_, _, rfl, by simpa using c1, (Stp.app hC.lt _ _).trans c2⟩
end Go.Proofs.Eng
namespace Go.Proofs.Eng
open Go Go.Proofs
set_option maxRecDepth 100000
set_option maxHeartbeats 16000000
theorem nu (H : List fp) (V : List Nat) (ci : Nat) (K KP) : CW (run md pfs) md false ⟨H, V⟩ 112 [.ptr ci 0] K KP () = K (emA (.ptr ci 0)) ⟨H, V⟩ := by
 have h := Dx (md := md) (pfs := pfs) (f := 112) (pf := ⟨0, [], .ora P5⟩) (by simp [pfs]) rfl (args := [.ptr ci 0]) (v := emA (.ptr ci 0)) (s := ⟨H, V⟩) (s' := ⟨H, V⟩) rfl
 simp [CW, lj, show md 112 = .raw from rfl, h]
theorem eqI (k : IntKind) (x : Int) : lq (.v (.int k x)) (.v (.int k x)) = true := by rw [lq]; simp [eqV]
theorem eqS (x : ByteArray) : lq (.v (.string x)) (.v (.string x)) = true := by rw [lq]; simp [eqV, nk]
theorem eqL {α : Type} {R : α -> AV -> Prop} : ∀ {l : List α} {al : List AV}, (∀ x ∈ l, ∀ a, R x a -> lq a a = true) -> LIs R l al -> jl al al = true
 | [], [], _, _ => by rw [jl]
 | [], _ :: _, _, h => h.elim
 | _ :: _, [], _, h => h.elim
 | x :: l, a :: al, h, hl => by
  rw [jl, h x (by simp) a hl.1, eqL (λ y hy => h y (by simp [hy])) hl.2]; rfl
theorem eqT (t : Tl) (l : List AV) (h : jl l l = true) : lq (.sl l t) (.sl l t) = true := by rw [lq, h]; simp
theorem a0p : ∀ l : List Int, jl (ints l) (ints l) = true
 | [] => by rw [ints, List.map_nil, jl]
 | x :: l => by have := a0p l; simp only [ints] at this ⊢; rw [bq, jl, this, lq]; simp [eqV]
theorem a8i (e : Ex) : ∀ {a : AV}, e.Is a -> lq a a = true := by
 induction e using Ex.ind with
 | h k i n s kids ih =>
  intro a h
  obtain ⟨t1, t2, kas, rfl, _, _, _, _, _, h5⟩ := h.opn
  rw [lq, jl, jl, jl, jl, jl, jl, eqI, eqI, eqS, eqT _ _ (a0p _), eqT _ _ (eqL (λ x hx a h => ih x hx h) h5)]; rfl
theorem a1d {ci : Nat} {gas : List AV} {tg : Tl} {gs : List Gl} (hg : LIs Ww gs gas) (htg : tg.pure = true) (hl : gas.length <= jh) (e : Ex) : ∀ {v : Int}, e.err (λ n => (A1 gs n).isSome) v = 0 -> 0 <= v -> v + 64 * e.dep <= B62 -> Exp ci (.sl gas tg) gs e := by
 induction e using Ex.ind with
 | h k i n s kids ih =>
 intro v he hv hd es O H V a hC hx b1 b2
 have ihk : ∀ x ∈ kids, Exp ci (.sl gas tg) gs x := λ x hxk => by
  obtain ⟨j, hj⟩ := c7 hxk
  obtain ⟨h1, h2, h3⟩ := Ie he hv hd hj
  exact ih x hxk h1 h2 (by omega)
 have har := yq _ he
 rw [Ex.ar] at har
 obtain ⟨r0, r1, r4, r5, r7, _⟩ := har
 obtain ⟨f1, f2, f3, f4, f5⟩ := vw he
 obtain ⟨k0, k1, _⟩ := yd f1
 obtain ⟨t1, t2, kas, rfl, g1, g2, g3, g4, g5, g6⟩ := (id hx).opn
 have hC' := hC.app [.cells false [.int k, .int i, .str n, .sl (ints s) t1, .sl kas t2]]
 have hS := Stp.app hC.lt V [fp.cells false [.int k, .int i, .str n, .sl (ints s) t1, .sl kas t2]]
 have hk12 : k = 0 \/ k = 1 \/ k = 2 \/ k = 3 \/ k = 4 \/ k = 5 \/ k = 6 \/ k = 7 \/ k = 8 \/ k = 9 \/ k = 10 \/ k = 11 := by omega
 have heq := a8i _ hx
 refine kg pf69_is (dh rfl) ?_
 rcases hk12 with rfl | rfl | rfl | rfl | rfl | rfl | rfl | rfl | rfl | rfl | rfl | rfl
 ·obtain ⟨H', V', c1, c2, c3⟩ := EmS.call (f := 145) a5u rfl hC' hx b1 b2
  simp only [pf69, ↓fj, wall, simprocAttr, wH, nu, emA, c3]
  exact ⟨⟨eqI _ _, heq⟩, _, _, rfl, c1, hS.trans c2⟩
 ·obtain ⟨H', V', c1, c2, c3⟩ := EmS.call (f := 146) (a48 (r1 rfl)) rfl hC' hx b1 b2
  simp only [pf69, ↓fj, wall, simprocAttr, wH, nu, emA, c3]
  exact ⟨⟨eqI _ _, heq⟩, _, _, rfl, c1, hS.trans c2⟩
 ·obtain ⟨H', V', c1, c2, c3⟩ := EmS.call (f := 172) (Fw (by omega) ihk) rfl hC' hx b1 b2
  simp only [opK, show ((6 : Int) = 2) = False by decide, show ((6 : Int) = 8) = False by decide, show ((6 : Int) = 9) = False by decide, show ((6 : Int) = 10) = False by decide, show ((8 : Int) = 2) = False by decide, show ((8 : Int) = 6) = False by decide, show ((8 : Int) = 9) = False by decide, show ((8 : Int) = 10) = False by decide, show ((9 : Int) = 2) = False by decide, show ((9 : Int) = 6) = False by decide, show ((9 : Int) = 8) = False by decide, show ((9 : Int) = 10) = False by decide, show ((10 : Int) = 2) = False by decide, show ((10 : Int) = 6) = False by decide, show ((10 : Int) = 8) = False by decide, show ((10 : Int) = 9) = False by decide, show ((11 : Int) = 2) = False by decide, show ((11 : Int) = 6) = False by decide, show ((11 : Int) = 8) = False by decide, show ((11 : Int) = 9) = False by decide, show ((11 : Int) = 10) = False by decide, if_false, if_true] at c3
  simp only [pf69, ↓fj, wall, simprocAttr, wH, nu, emA, afA, c3]
  exact ⟨⟨eqI _ _, heq⟩, _, _, rfl, c1, hS.trans c2⟩
 ·obtain ⟨H', V', c1, c2, c3⟩ := EmS.call (f := 148) (a05 ihk) rfl hC' hx b1 b2
  simp only [pf69, ↓fj, wall, simprocAttr, wH, nu, emA, afA, c3]
  exact ⟨⟨eqI _ _, heq⟩, _, _, rfl, c1, hS.trans c2⟩
 ·obtain ⟨H', V', c1, c2, c3⟩ := EmS.call (f := 149) (Um (r4 rfl) ihk) rfl hC' hx b1 b2
  simp only [pf69, ↓fj, wall, simprocAttr, wH, nu, emA, afA, c3]
  exact ⟨⟨eqI _ _, heq⟩, _, _, rfl, c1, hS.trans c2⟩
 ·obtain ⟨H', V', c1, c2, c3⟩ := EmS.call (f := 150) (Rr hg htg hl (f4 rfl)) rfl hC' hx b1 b2
  simp only [pf69, ↓fj, wall, simprocAttr, wH, nu, emA, afA, c3]
  exact ⟨⟨eqI _ _, heq⟩, _, _, rfl, c1, hS.trans c2⟩
 ·obtain ⟨H', V', c1, c2, c3⟩ := EmS.call (f := 172) (Fw (by omega) ihk) rfl hC' hx b1 b2
  simp only [opK, show ((6 : Int) = 2) = False by decide, show ((6 : Int) = 8) = False by decide, show ((6 : Int) = 9) = False by decide, show ((6 : Int) = 10) = False by decide, show ((8 : Int) = 2) = False by decide, show ((8 : Int) = 6) = False by decide, show ((8 : Int) = 9) = False by decide, show ((8 : Int) = 10) = False by decide, show ((9 : Int) = 2) = False by decide, show ((9 : Int) = 6) = False by decide, show ((9 : Int) = 8) = False by decide, show ((9 : Int) = 10) = False by decide, show ((10 : Int) = 2) = False by decide, show ((10 : Int) = 6) = False by decide, show ((10 : Int) = 8) = False by decide, show ((10 : Int) = 9) = False by decide, show ((11 : Int) = 2) = False by decide, show ((11 : Int) = 6) = False by decide, show ((11 : Int) = 8) = False by decide, show ((11 : Int) = 9) = False by decide, show ((11 : Int) = 10) = False by decide, if_false, if_true] at c3
  simp only [pf69, ↓fj, wall, simprocAttr, wH, nu, emA, afA, c3]
  exact ⟨⟨eqI _ _, heq⟩, _, _, rfl, c1, hS.trans c2⟩
 ·obtain ⟨H', V', c1, c2, c3⟩ := EmS.call (f := 151) (a5s (r7 rfl) ihk) rfl hC' hx b1 b2
  simp only [pf69, ↓fj, wall, simprocAttr, wH, nu, emA, afA, c3]
  exact ⟨⟨eqI _ _, heq⟩, _, _, rfl, c1, hS.trans c2⟩
 all_goals
  obtain ⟨H', V', c1, c2, c3⟩ := EmS.call (f := 172) (Fw (by omega) ihk) rfl hC' hx b1 b2
  simp only [opK, show ((6 : Int) = 2) = False by decide, show ((6 : Int) = 8) = False by decide, show ((6 : Int) = 9) = False by decide, show ((6 : Int) = 10) = False by decide, show ((8 : Int) = 2) = False by decide, show ((8 : Int) = 6) = False by decide, show ((8 : Int) = 9) = False by decide, show ((8 : Int) = 10) = False by decide, show ((9 : Int) = 2) = False by decide, show ((9 : Int) = 6) = False by decide, show ((9 : Int) = 8) = False by decide, show ((9 : Int) = 10) = False by decide, show ((10 : Int) = 2) = False by decide, show ((10 : Int) = 6) = False by decide, show ((10 : Int) = 8) = False by decide, show ((10 : Int) = 9) = False by decide, show ((11 : Int) = 2) = False by decide, show ((11 : Int) = 6) = False by decide, show ((11 : Int) = 8) = False by decide, show ((11 : Int) = 9) = False by decide, show ((11 : Int) = 10) = False by decide, if_false, if_true] at c3
  simp only [pf69, ↓fj, wall, simprocAttr, wH, nu, emA, afA, c3]
  exact ⟨⟨eqI _ _, heq⟩, _, _, rfl, c1, hS.trans c2⟩
end Go.Proofs.Eng
namespace Go.Proofs.Eng
open Go Go.Proofs
set_option maxRecDepth 100000
set_option maxHeartbeats 16000000
theorem s7 (n : Nat) (s : ASt) (t : Tl) : (t.sm n s).pure = true := by
 cases t <;> simp only [Tl.sm] <;> (try split) <;> rfl
theorem x8 (l : List Ins) : gg (jj l) = true := by
 induction l with
 | nil => rfl
 | cons x l ih => simp only [jj, bq] at ih ⊢; rw [ga, ih, Ins.av]; simp [lu, ga, gu, mg]
def nmA (l : List ByteArray) : List AV := l.map λ n => .str n
theorem wa (l : List ByteArray) : gg (nmA l) = true := by
 induction l with
 | nil => rfl
 | cons x l ih => simp only [nmA, bq] at ih ⊢; rw [ga, ih]; simp [mg]
theorem wk (l : List ByteArray) : ((nmA l).all λ x => x.cells.length == 1) = true := by
 rw [aw]; intro x hx
 obtain ⟨b, _, rfl⟩ := List.mem_map.1 hx; rfl
theorem Wt (l : List ByteArray) (x : ByteArray) : nmA (l ++ [x]) = nmA l ++ [.str x] := by simp [nmA]
theorem jx (l : List ByteArray) : (nmA l).length = l.length := by simp [nmA]
def blX (b : List Ins) (a : AV) : Prop := ∃ t, a = .sl (jj b) t
def Ro (b : List Ins) (a : AV) : Prop := ∃ t, a = .sl (jj b) t /\ t.pure = true /\ b.length <= jh
def Cd.Is (c : Cd) (a : AV) : Prop := ∃ Bs t1 t2 t3, a = .agg [.sl Bs t1, .sl (nmA c.gl) t2, .sl (ints c.st) t3] /\ LIs Ro c.bl Bs /\ t1.pure = true /\ t2.pure = true /\ t3.pure = true /\ Bs.length <= jh /\ c.gl.length <= jh /\ c.st.length <= jh
theorem a32 {b : List Ins} {a : AV} (h : blX b a) : (a.cells.length == 1) = true := by
 obtain ⟨t, rfl⟩ := h; rfl
theorem a3j {n : Nat} {s : ASt} {l : List Ins} {t : Tl} : gh (n + 2) s (.sl (jj l) t) = some (.sl (jj l) (t.sm (n + 1) s)) := by
 rw [Wj, yx (x8 l)]; rfl
theorem Sy (n : Nat) (s : ASt) : ∀ {l : List (List Ins)} {al : List AV}, (∀ b ∈ l, b.length <= jh) -> LIs blX l al -> ∃ al', iq (r9 (gh (n + 2) s)) al = some al' /\ LIs Ro l al'
 | [], [], _, _ => ⟨[], rfl, trivial⟩
 | [], _ :: _, _, h => h.elim
 | _ :: _, [], _, h => h.elim
 | b :: l, a :: al, hb, hh => by
  obtain ⟨⟨t, rfl⟩, h⟩ := hh
  obtain ⟨al', h1, h2⟩ := Sy n s (λ x hx => hb x (by simp [hx])) h
  exact ⟨_ :: al', by rw [iq, h1, show r9 (gh (n + 2) s) (.sl (jj b) t) = gh (n + 2) s (.sl (jj b) t) from rfl, a3j], ⟨_, rfl, s7 _ _ _, hb b (by simp)⟩, h2⟩
theorem LIs.mp {α : Type} {R S : α -> AV -> Prop} (h : ∀ x a, R x a -> S x a) : ∀ {l : List α} {al : List AV}, LIs R l al -> LIs S l al
 | [], [], _ => trivial
 | [], _ :: _, h => h.elim
 | _ :: _, [], h => h.elim
 | _ :: _, _ :: _, ⟨h1, h2⟩ => ⟨h _ _ h1, LIs.mp h h2⟩
def Sep (ci : Nat) (H : List fp) (t : Tl) : Prop := ∀ i v, t = .tl i v -> ¬ OwC ci H i
def Dif (t u : Tl) : Prop := ∀ i v v', t = .tl i v -> u ≠ .tl i v'
theorem Dif.symm {t u : Tl} (h : Dif t u) : Dif u t := λ i v v' e e' => h i v' v e' e
theorem Dif.oth {V V' : List Nat} {l : List AV} {t u u' : Tl} (h : Dif t u) (ha : App V l t) (o : Oth V u V' u') : Dif t u' := λ i v v' e e' => by
 rcases o.2.2 i v' e' with ⟨v0, e0⟩ | hle
 ·exact h i v v0 e e0
 ·have := ha.lt e; omega
theorem Sep.oth {ci : Nat} {gl : AV} {es : List Ex} {O : List Ins} {H H' : List fp} {V V' : List Nat} {t t' : Tl} (h : Sep ci H t) (hC : CS ci gl es O H V) (hH : H'[ci]? = H[ci]?) (o : Oth V t V' t') : Sep ci H' t' := λ i v e hw => by
 rw [xj hH] at hw
 rcases o.2.2 i v e with ⟨v0, e0⟩ | hle
 ·exact h i v0 e0 hw
 ·obtain ⟨Q, tq, to, h1, _, h3, h4, _⟩ := hC
  obtain ⟨x, Q', tq', O', to', v', e1, e2⟩ := hw
  rw [h1] at e1
  simp only [fe, fp.cells.injEq, List.cons.injEq, AV.sl.injEq, true_and, and_true] at e1
  obtain ⟨_, ⟨_, rfl⟩, _, rfl⟩ := e1
  rcases e2 with e2 | e2
  ·have := h3.lt e2; omega
  ·have := h4.lt e2; omega
theorem CS.oth {ci : Nat} {gl : AV} {es : List Ex} {O : List Ins} {H H' : List fp} {V V' : List Nat} {t t' : Tl} (hC : CS ci gl es O H V) (h : Sep ci H t) (hH : H'[ci]? = H[ci]?) (o : Oth V t V' t') : CS ci gl es O H' V' := by
 obtain ⟨Q, tq, to, h1, h2, h3, h4, h5⟩ := hC
 refine ⟨Q, tq, to, hH.trans h1, h2, h3.jd o λ i v v' e e' => h i v e ⟨_, _, _, _, _, v', h1, .inl e'⟩, h4.jd o λ i v v' e e' => h i v e ⟨_, _, _, _, _, v', h1, .inr e'⟩, h5⟩
theorem Stp.row {ci : Nat} {H H' : List fp} {V V' : List Nat} (h : Stp ci H V H' V') {l : List AV} {t : Tl} (ha : App V l t) (hs : Sep ci H t) : App V' l t /\ Sep ci H' t := by
 refine ⟨?_, λ i v e hw => ?_⟩
 ·rcases ha with ⟨h1, rfl⟩ | ⟨h1, id, ver, rfl, h2⟩
  ·exact .inl ⟨h1, rfl⟩
  ·exact .inr ⟨h1, id, ver, rfl, h.vk id ver h2 (hs id ver rfl)⟩
 ·rcases h.own i hw with h' | h'
  ·exact hs i v e h'
  ·have := ha.lt e; omega
structure CI (gl : AV) (es : List Ex) (O : List Ins) (bls : List (List Ins)) (ns : List ByteArray) (ss : List Int) (H : List fp) (V : List Nat) (Bs : List AV) (tb tg ts : Tl) : Prop where
 cs : CS 2 gl es O H V
 h3 : H[3]? = some (.cells false [.ptr 2 0])
 h4 : H[4]? = some (.cells false [.sl Bs tb, .sl (nmA ns) tg, .sl (ints ss) ts])
 bl : LIs blX bls Bs
 ab : App V Bs tb
 ag : App V (nmA ns) tg
 ai : App V (ints ss) ts
 sb : Sep 2 H tb
 sg : Sep 2 H tg
 ss : Sep 2 H ts
 bg : Dif tb tg
 bs : Dif tb ts
 gs : Dif tg ts
section
variable {gl : AV} {es : List Ex} {O : List Ins} {bls : List (List Ins)} {ns : List ByteArray} {ss : List Int} {H : List fp} {V : List Nat} {Bs : List AV} {tb tg ts : Tl}
theorem CI.lt (h : CI gl es O bls ns ss H V Bs tb tg ts) : 4 < H.length := fy h.h4
theorem Sep.app {ci : Nat} {H : List fp} {t : Tl} (h : Sep ci H t) (hl : ci < H.length) (G : List fp) : Sep ci (H ++ G) t := λ i v e hw => h i v e ((xj (ae hl) i).1 hw)
theorem CI.app (h : CI gl es O bls ns ss H V Bs tb tg ts) (G : List fp) : CI gl es O bls ns ss (H ++ G) V Bs tb tg ts :=
 ⟨h.cs.app G, gy h.h3 G, gy h.h4 G, h.bl, h.ab, h.ag, h.ai, h.sb.app h.cs.lt G, h.sg.app h.cs.lt G, h.ss.app h.cs.lt G, h.bg, h.bs, h.gs⟩
theorem CI.stp (h : CI gl es O bls ns ss H V Bs tb tg ts) {es' : List Ex} {O' : List Ins} {H' : List fp} {V' : List Nat} (hC : CS 2 gl es' O' H' V') (hS : Stp 2 H V H' V') : CI gl es' O' bls ns ss H' V' Bs tb tg ts :=
 ⟨hC, hS.get h.h3 (by decide), hS.get h.h4 (by decide), h.bl, (hS.row h.ab h.sb).1, (hS.row h.ag h.sg).1, (hS.row h.ai h.ss).1, (hS.row h.ab h.sb).2, (hS.row h.ag h.sg).2, (hS.row h.ai h.ss).2, h.bg, h.bs, h.gs⟩
theorem CI.a89 (h : CI gl es O bls ns ss H V Bs tb tg ts) {b : List Ins} {x : AV} {tb' : Tl} {V' : List Nat} (hx : blX b x) (ha : App V' (Bs ++ [x]) tb') (o : Oth V tb V' tb') : CI gl es O (bls ++ [b]) ns ss (H.set 4 (.cells false [.sl (Bs ++ [x]) tb', .sl (nmA ns) tg, .sl (ints ss) ts])) V' (Bs ++ [x]) tb' tg ts := by
 have hl := h.lt
 have e : ∀ Y : fp, (H.set 4 Y)[2]? = H[2]? := λ Y => by rw [b9, if_neg (by decide)]
 refine ⟨h.cs.oth h.sb (e _) o, by rw [b9, if_neg (by decide)]; exact h.h3, by rw [b9, if_pos rfl, if_pos hl], h.bl.append (.one hx), ha, h.ag.jd o h.bg, h.ai.jd o h.bs, h.sb.oth h.cs (e _) o, λ i v ee hw => h.sg i v ee ((xj (e _) i).1 hw), λ i v ee hw => h.ss i v ee ((xj (e _) i).1 hw), (h.bg.symm.oth h.ag o).symm, (h.bs.symm.oth h.ai o).symm, h.gs⟩
theorem CI.a88 (h : CI gl es O bls ns ss H V Bs tb tg ts) {n : ByteArray} {tg' : Tl} {V' : List Nat} (ha : App V' (nmA (ns ++ [n])) tg') (o : Oth V tg V' tg') : CI gl es O bls (ns ++ [n]) ss (H.set 4 (.cells false [.sl Bs tb, .sl (nmA (ns ++ [n])) tg', .sl (ints ss) ts])) V' Bs tb tg' ts := by
 have hl := h.lt
 have e : ∀ Y : fp, (H.set 4 Y)[2]? = H[2]? := λ Y => by rw [b9, if_neg (by decide)]
 refine ⟨h.cs.oth h.sg (e _) o, by rw [b9, if_neg (by decide)]; exact h.h3, by rw [b9, if_pos rfl, if_pos hl], h.bl, h.ab.jd o h.bg.symm, ha, h.ai.jd o h.gs, λ i v ee hw => h.sb i v ee ((xj (e _) i).1 hw), h.sg.oth h.cs (e _) o, λ i v ee hw => h.ss i v ee ((xj (e _) i).1 hw), h.bg.oth h.ab o, h.bs, (h.gs.symm.oth h.ai o).symm⟩
theorem CI.a8e (h : CI gl es O bls ns ss H V Bs tb tg ts) {n : Int} {ts' : Tl} {V' : List Nat} (ha : App V' (ints (ss ++ [n])) ts') (o : Oth V ts V' ts') : CI gl es O bls ns (ss ++ [n]) (H.set 4 (.cells false [.sl Bs tb, .sl (nmA ns) tg, .sl (ints (ss ++ [n])) ts'])) V' Bs tb tg ts' := by
 have hl := h.lt
 have e : ∀ Y : fp, (H.set 4 Y)[2]? = H[2]? := λ Y => by rw [b9, if_neg (by decide)]
 refine ⟨h.cs.oth h.ss (e _) o, by rw [b9, if_neg (by decide)]; exact h.h3, by rw [b9, if_pos rfl, if_pos hl], h.bl, h.ab.jd o h.bs.symm, h.ag.jd o h.gs.symm, ha, λ i v ee hw => h.sb i v ee ((xj (e _) i).1 hw), λ i v ee hw => h.sg i v ee ((xj (e _) i).1 hw), h.ss.oth h.cs (e _) o, h.bg, h.bs.oth h.ab o, h.gs.oth h.ag o⟩
theorem CI.nil (h : CI gl es O bls ns ss H V Bs tb tg ts) {Q : List AV} {tq to : Tl} {L : List AV} (h1 : H[2]? = some (.cells false [gl, .sl Q tq, .sl L to])) : CI gl es [] bls ns ss (H.set 2 (.cells false [gl, .sl Q tq, .sl [] .nil])) V Bs tb tg ts := by
 have hl := h.lt
 obtain ⟨Q', tq', to', g1, g2, g3, g4, g5⟩ := h.cs
 rw [h1] at g1
 simp only [fe, fp.cells.injEq, List.cons.injEq, AV.sl.injEq, true_and, and_true] at g1
 obtain ⟨⟨rfl, rfl⟩, rfl, rfl⟩ := g1
 have hs : (H.set 2 (.cells false [gl, .sl Q tq, .sl [] .nil]))[2]? = some (.cells false [gl, .sl Q tq, .sl (jj []) .nil]) := by rw [b9, if_pos rfl, if_pos (by omega)]; rfl
 have ho : ∀ i, OwC 2 (H.set 2 (.cells false [gl, .sl Q tq, .sl [] .nil])) i -> OwC 2 H i := λ i ⟨_, _, _, _, _, v, e1, e2⟩ => by
  rw [hs] at e1
  simp only [fe, fp.cells.injEq, List.cons.injEq, AV.sl.injEq, true_and, and_true] at e1
  obtain ⟨_, ⟨_, rfl⟩, _, rfl⟩ := e1
  rcases e2 with e2 | e2
  ·exact ⟨_, _, _, _, _, _, h1, .inl e2⟩
  ·cases e2
 refine ⟨⟨Q, tq, .nil, hs, g2, g3, .inl ⟨rfl, rfl⟩, λ i v v' _ e => by cases e⟩, by rw [b9, if_neg (by decide)]; exact h.h3, by rw [b9, if_neg (by decide)]; exact h.h4, h.bl, h.ab, h.ag, h.ai, λ i v e hw => h.sb i v e (ho i hw), λ i v e hw => h.sg i v e (ho i hw), λ i v e hw => h.ss i v e (ho i hw), h.bg, h.bs, h.gs⟩
end
theorem Ju (H : List fp) (V : List Nat) (ci : Nat) (K KP) : CW (run md pfs) md false ⟨H, V⟩ 68 [.ptr ci 0] K KP () = K (.fn 111 [.ptr H.length 0]) ⟨H ++ [.cells false [.ptr ci 0]], V⟩ := by
 have : Rw 68 [.ptr ci 0] ⟨H, V⟩ (λ v s => v = .fn 111 [.ptr H.length 0] /\ s = ⟨H ++ [.cells false [.ptr ci 0]], V⟩) := by
  refine ly pf68_is (dh rfl) ?_
  simp only [pf68, ↓fj, wall, simprocAttr, wH, gq, fq]
 obtain ⟨v, s, ⟨rfl, rfl⟩, h⟩ := this.call rfl
 exact h K KP
end Go.Proofs.Eng
