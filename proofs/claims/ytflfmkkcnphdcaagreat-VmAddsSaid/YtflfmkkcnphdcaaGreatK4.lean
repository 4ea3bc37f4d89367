/- The checker: the form of an instruction, the blocks it refers to. No conditions beyond those in the theorems. -/
import Derived.Test.YtflfmkkcnphdcaaGreatY8
set_option linter.all false
set_option linter.deprecated false
set_option linter.unnecessarySimpa false
set_option linter.unusedVariables false
set_option linter.unusedSimpArgs false
set_option linter.defProp false
namespace Go.Proofs.Eng
open Go Go.Proofs
set_option maxRecDepth 100000
set_option maxHeartbeats 16000000
def nsL (n : Nat) : List Int := (List.range' 1 n).map λ (i : Nat) => (i : Int)
theorem Jt (n : Nat) : nsL (n + 1) = nsL n ++ [((n + 1 : Nat) : Int)] := by
 rw [nsL, nsL, List.range'_concat, List.map_append, bq, List.map_nil]; congr 2; simp; omega
theorem a1s (n : Nat) : (nsL n).length = n := by simp [nsL]
theorem Hk (l : List Int) (x : Int) : ints (l ++ [x]) = ints l ++ [.int x] := by simp [ints]
theorem Dp {b : Nat} : ∀ {l : List Nat}, b ∈ l -> b <= l.sum
 | x :: l, h => by
  rcases List.mem_cons.1 h with rfl | h
  ·simp
  ·have := Dp h; simp; omega
theorem qi {H : List fp} {k j : Nat} {o x : fp} (h : H[k]? = some o) (n : j ≠ k) : (H.set j x)[k]? = some o := by rw [b9, if_neg n]; exact h
theorem a4h {nt : Nat} {E : Env} {q : Nat} {x : AV} : xo (tmE nt E) [q] [x] = tmE nt (Hu E q x) := (show xo (tmE nt E) [q] [x] = put (tmE nt E) (some q) x from rfl).trans (by simp only [↓fj, wall, simprocAttr])
theorem vq.mem {P : Ex -> Int -> Prop} : ∀ {l : List Ex} {zs : List Int}, vq P l zs -> ∀ {x}, x ∈ l -> ∃ z, P x z
 | [], [], _, x, hx => by cases hx
 | y :: l, z :: zs, h, x, hx => by
  rcases List.mem_cons.1 hx with rfl | hx
  ·exact ⟨z, h.1⟩
  ·exact vq.mem h.2 hx
 | [], _ :: _, h, _, _ => h.elim
 | _ :: _, [], h, _, _ => h.elim
theorem a5i {gl : AV} {es : List Ex} {O : List Ins} {H : List fp} {V : List Nat} (hC : CS 2 gl es O H V) {k : Nat} (hk : H[k]? = some (.cells false [.ptr 2 0])) (hl : es.length <= 4000000000000000000) :
  (∀ i x, es[i]? = some x -> ∃ c, x.Is (.agg c) /\ itF 111 [.ptr k 0] ⟨H, V⟩ i = some (some [.agg c])) /\ itF 111 [.ptr k 0] ⟨H, V⟩ es.length = some none := by
 obtain ⟨Q, tq, to, h1, h2, _⟩ := hC
 have hall := h2.all mz
 have hlen := h2.len
 have hc : ((Q.all λ x => x.cells.length == 5) = true /\ Q.length <= 4000000000000000000) := ⟨hall, by omega⟩
 refine ⟨λ i x hx => ?_, ?_⟩
 ·have hi : i < Q.length := by rw [hlen]; exact (List.getElem?_eq_some_iff.1 hx).1
  obtain ⟨y, c, d0, _, _, d4, _, _, _, d8⟩ := h2.get mz hi
  rw [hx] at d0; cases d0
  exact ⟨c, d8, by simp only [itF, if_true, hk, h1]; rw [if_pos hc, d4]⟩
 ·simp only [itF, if_true, hk, h1]
  rw [if_pos hc, da (by omega), hlen]; simp
theorem Lg {p : Pr} {pa : AV} (hp : p.Is pa) {B : Int} (hok : p.check = 0 -> G7 p B /\ (lf p).bl.length <= 900000 /\ ((lf p).bl.map List.length).sum <= wi) :
  Out md pfs 23 [pa] (λ v => (p.check ≠ 0 /\ v = .tup [.agg [.sl [] .nil, .sl [] .nil, .sl [] .nil], .int p.check]) \/ (p.check = 0 /\ ∃ a, v = .tup [a, .int 0] /\ (lf p).Is a)) λ _ => False := by
 obtain ⟨gas, tg0, c, rfl, h1, h2, h3, h4, h5, h6, h7, h8, h9, h10⟩ := id hp
 have hgl : gas.length = p.gs.length := h3.len
 have jy : wi = 1073741824 := rfl
 refine iy pf23_is (dh rfl) ?_
 obtain ⟨_, rfl, cck⟩ := (Rq hp).call rfl (by simp [ga, gu, Wq hp])
 cases hz : (p.check == 0)
 ·have hz' : p.check ≠ 0 := by simpa using hz
  have hne : (p.check != 0) = true := by simp [bne, hz]
  simp only [pf23, ↓fj, wall, simprocAttr, wH, h5, h6, h10, cck, hz, hne]
  exact .inl hz'
 have hz' : p.check = 0 := by simpa using hz
 obtain ⟨hP, hbl, hsum⟩ := hok hz'
 rw [hz'] at cck
 have hcnt := F8 hP
 have hI0 : CI (.sl gas tg0) [] [] [] [] [] [.cells false (.sl gas tg0 :: c), .cells false [.sl [] .nil, .sl [] .nil, .sl [] .nil], .cells false [.sl gas tg0, .sl [] .nil, .sl [] .nil], .cells false [.ptr 2 0], .cells false [.sl [] .nil, .sl [] .nil, .sl [] .nil]] [] [] .nil .nil .nil :=
  ⟨⟨[], .nil, .nil, rfl, trivial, .inl ⟨rfl, rfl⟩, .inl ⟨rfl, rfl⟩, λ _ _ _ e => by cases e⟩, rfl, rfl, trivial, .inl ⟨rfl, rfl⟩, .inl ⟨rfl, rfl⟩, .inl ⟨rfl, rfl⟩, λ _ _ e => (by cases e), λ _ _ e => (by cases e), λ _ _ e => (by cases e), λ _ _ _ e => (by cases e), λ _ _ _ e => (by cases e), λ _ _ _ e => (by cases e)⟩
 obtain ⟨H1, V1, a1, a2, a3⟩ := xf hI0.cs h4 (by simp)
 have hI1 := hI0.stp a1 a2
 simp only [pf23, ↓fj, wall, simprocAttr, wH, h5, h6, h10, cck, a3]
 have hH1 : H1[1]? = some (.cells false [.sl [] .nil, .sl [] .nil, .sl [] .nil]) := a2.get rfl (by decide)
 have hH0 : H1[0]? = some (.cells false (.sl gas tg0 :: c)) := a2.get rfl (by decide)
 simp only [↓fj, wall, simprocAttr, wH, hH0]
 refine j6 (λ j => gas.length - j) (λ j E H T => j <= gas.length /\ H[1]? = some (.cells false [.sl [] .nil, .sl [] .nil, .sl [] .nil]) /\ E 2 = .ptr 1 0 /\ E 5 = .ptr 3 0 /\ E 6 = .ptr 4 0 /\ E 25 = .sl gas tg0 /\ E 26 = .int gas.length /\ E 27 = .int j /\ ∃ tg ts, CI (.sl gas tg0) (p.main :: (p.gs.take j).map (·.2)) [] [] ((p.gs.take j).map (·.1)) (nsL j) H T [] .nil tg ts) ?_ 0 ⟨dk _, hH1, rfl, rfl, rfl, rfl, rfl, rfl, _, _, hI1⟩
 rintro j E H V ⟨hj, b1, e2, e5, e6, e25, e26, e27, tg, ts, hI⟩
 rcases dj j gas.length with hlt | hge
 ·obtain ⟨g, _, d0, d1, d3, d4, ⟨c2, rfl, hns, hg⟩⟩ := h3.at hlt
  obtain ⟨c3, e, g1, g2⟩ := mz.cells hg
  cases e
  have g3 : c2.take 5 = c2 := au (by omega)
  have hdec : decide ((j : Int) < gas.length) = true := by simpa using hlt
  have hA := hI.app [.cells false (.str g.1 :: c2)]
  have hgn : ((p.gs.take (j + 1)).map (·.1)) = (p.gs.take j).map (·.1) ++ [g.1] := by rw [bj, d0]; simp
  have hge : p.main :: ((p.gs.take (j + 1)).map (·.2)) = (p.main :: (p.gs.take j).map (·.2)) ++ [g.2] := by rw [bj, d0]; simp
  have hbl' := hcnt.1
  obtain ⟨tg', V', q1, q2, q3⟩ := rh (es := 1) (xs := [.str g.1]) hA.ag (by simp [jx]; omega) (wk _) rfl
  rw [<- Wt] at q1 q2
  replace q1 : ∀ H, qz ⟨H, V⟩ 1 none (nmA ((p.gs.take j).map (·.1))) tg [.str g.1] = some (.sl (nmA ((p.gs.take j).map (·.1) ++ [g.1])) tg', ⟨H, V'⟩) := q1
  have hB := hA.a88 q2 q3
  obtain ⟨H3, V3, r1, r2, r3⟩ := xf hB.cs hg (by simp; omega)
  have hD := hB.stp r1 r2
  have hel : (p.main :: (p.gs.take j).map (·.2)).length = j + 1 := by simp; omega
  rw [hel] at r3
  obtain ⟨ts', V4, u1, u2, u3⟩ := rh (es := 1) (xs := [.int ((j + 1 : Nat) : Int)]) hD.ai (by rw [ig, a1s]; simp only [ak, ao]; omega) (mn _) rfl
  rw [<- Hk, <- Jt] at u1
  rw [<- Hk] at u2
  replace u1 : ∀ H, qz ⟨H, V3⟩ 1 none (ints (nsL j)) ts [.int ((j + 1 : Nat) : Int)] = some (.sl (ints (nsL (j + 1))) ts', ⟨H, V4⟩) := u1
  have hF := hD.a8e u2 u3
  rw [<- Jt] at hF
  have hlen := hI.lt
  have f8 : ((H ++ [fp.cells false (.str g.1 :: c2)]).set 4 (.cells false [.sl [] .nil, .sl (nmA ((p.gs.take j).map (·.1) ++ [g.1])) tg', .sl (ints (nsL j)) ts]))[H.length]? = some (.cells false (.str g.1 :: c2)) := qi (by simp) (by omega)
  have hq : lq (.sl (ints (nsL j)) ts) (.sl (ints (nsL j)) ts) = true := eqT _ _ (a0p _)
  simp only [↓fj, wall, simprocAttr, wH, e2, e5, e6, e25, e26, e27, hdec, d4, h10, g1, g2, g3, hA.h3, hA.h4, hB.h3, hB.h4, f8, q1, r3, hD.h4, hD.h3, u1, hq]
  exact jm ⟨j + 1, by omega, by omega, qi (r2.get (qi (gy b1 _) (by decide)) (by decide)) (by decide), e2, e5, e6, e25, e26, iw (by omega), _, _, by rw [hgn, hge]; exact hF⟩
 have hdec : decide ((j : Int) < gas.length) = false := by simpa using hge
 have hjl : j = p.gs.length := by omega
 subst hjl
 rw [au (by omega)] at hI
 have hlen := hI.lt
 have hA := hI.app [.cells false [.ptr 2 0]]
 simp only [↓fj, wall, simprocAttr, wH, e2, e5, e6, e25, e26, e27, hdec, hI.h3, Ju]
 generalize hk : H.length = k
 have hk4 : 4 < k := by omega
 have hkx : (H ++ [fp.cells false [.ptr 2 0]])[k]? = some (.cells false [.ptr 2 0]) := by rw [<- hk]; simp
 refine Xl (gf := 111) (caps := [.ptr k 0]) rfl rfl 900000 (by decide) (λ i s => ∃ H V es bls zs f Bs O tb tg ts, s = ⟨H, V⟩ /\ CI (.sl gas tg0) es O bls (p.gs.map (·.1)) (nsL p.gs.length) H V Bs tb tg ts /\ H[1]? = some (.cells false [.sl [] .nil, .sl [] .nil, .sl [] .nil]) /\ H[k]? = some (.cells false [.ptr 2 0]) /\ bls.length = i /\ i <= es.length /\ szL (es.drop i) <= f /\ vq (C2 p.gl B) (es.drop i) zs /\ bls ++ blocks p.gs f es.length (es.drop i) = (lf p).bl) ?_ ?_
 ·rintro i s ⟨H, V, es, bls, zs, f, Bs, O, tb, tg, ts, rfl, hI, b1, hkk, hbi, hi, hf, hz, hb⟩
  have har : arL (es.drop i) := (ra _).2 λ x hx => by
   obtain ⟨z, hz⟩ := vq.mem hz hx
   exact yq _ hz.1
  have hcb := (Aj p.gs f es.length (es.drop i) hf har).1
  have hle : es.length <= 900000 := by
   have := congrArg List.length hb
   rw [ah, hcb, b8] at this; omega
  obtain ⟨it1, it2⟩ := a5i hI.cs hkk (by omega)
  rcases dj i es.length with hlt | hge
  ·right
   have hx : es[i]? = some es[i] := aa hlt
   generalize es[i] = x at hx
   obtain ⟨c3, hxI, hit⟩ := it1 i x hx
   refine ⟨by omega, _, hit, rfl, ?_⟩
   obtain ⟨c4, e, g1, g2⟩ := mz.cells hxI
   cases e
   have g3 : c3.take 5 = c3 := au (by omega)
   have hA := hI.app [.cells false c3]
   obtain ⟨Q, tq, to, k1, _⟩ := id hA.cs
   have hN := hA.nil k1
   have hdr : es.drop i = x :: es.drop (i + 1) := by
    obtain ⟨h, rfl⟩ := List.getElem?_eq_some_iff.1 hx
    exact bx h
   rw [hdr] at hz hb hf hcb har
   obtain ⟨z, zs', rfl⟩ : ∃ z zs', zs = z :: zs' := by
    cases zs with
    | nil => exact hz.elim
    | cons z zs' => exact ⟨z, zs', rfl⟩
   obtain ⟨⟨he1, he2, he3⟩, hz2⟩ := hz
   have hP3 := hP.hB
   obtain ⟨n1, n2, n3⟩ := Fm p.gs x (yq _ he1) es.length
   have hsz := C5 p.gs x es.length
   rw [yp hf] at hb
   have hm := congrArg List.length hb
   have hml : ((x.emit p.gs es.length).1 ++ [Ins.o 3]).length <= wi := by
    refine dr ?_ hsum
    refine Dp (List.mem_map_of_mem ?_)
    rw [<- hb]; simp
   simp only [ah, ak, ao] at hml
   rw [nbL] at hcb
   have hdl := congrArg List.length hdr
   rw [b8] at hdl
   have hbb := congrArg List.length hb
   rw [ah, <- yp hf, hcb] at hbb
   obtain ⟨H2, V2, r1, r2, r3⟩ := EmS.call (f := 69) (mk := λ a => [.ptr 2 0, a]) (a1d h3 h1 h2 x he1 he2 (by omega)) rfl hN.cs hxI (by simp only [ao]; omega) (by simp only [ak] at hdl hbb; omega)
   have hN2 := hN.stp r1 r2
   obtain ⟨H3, V3, t1, t2, t3⟩ := oi hN2.cs 3 0 0 ⟨#[]⟩ (by simp only [ao, ah]; omega)
   have hN3 := hN2.stp t1 t2
   obtain ⟨Q3, tq3, to3, k3, _⟩ := id hN3.cs
   rw [bo] at t1 hN3 k3
   have hBs := hI.bl.len
   obtain ⟨tb', V4, u1, u2, u3⟩ := rh (es := 1) (xs := [.sl (jj ((x.emit p.gs es.length).1 ++ [⟨3, 0, 0, ⟨#[]⟩⟩])) to3]) hN3.ab (by simp only [ak, ao]; omega) (aw.2 λ y hy => by
    obtain ⟨q, hq⟩ := List.mem_iff_getElem?.1 hy
    obtain ⟨b, a, _, _, _, e4, e5⟩ := hI.bl.at (i := q) (List.getElem?_eq_some_iff.1 hq).1
    rw [hq] at e4; cases e4
    exact a32 e5) rfl
   have hF := hN3.a89 (b := (x.emit p.gs es.length).1 ++ [⟨3, 0, 0, ⟨#[]⟩⟩]) ⟨to3, rfl⟩ u2 u3
   have f9 : (((H ++ [fp.cells false c3]).set 2 (.cells false [.sl gas tg0, .sl Q tq, .sl [] .nil])))[H.length]? = some (.cells false c3) := qi (by simp) (by have := hI.lt; omega)
   simp only [a4h, ↓fj, wall, simprocAttr, wH, a77, a7g, g1, g2, g3, e2, e5, e6, hA.h3, hA.h4, k1, hN.h3, f9, r3, t3, hN2.h3, hN3.h3, hN3.h4, k3, u1]
   refine ⟨_, _, _, bls ++ [(x.emit p.gs es.length).1 ++ [Ins.o 3]], zs' ++ x.uw z, f, _, _, _, _, _, rfl, hF, ?_, ?_, by simp [hbi], by simp only [ah]; omega, ?_, ?_, ?_⟩
   ·exact qi (t2.get (r2.get (qi (gy b1 _) (by decide)) (by decide)) (by decide)) (by decide)
   ·exact qi (t2.get (r2.get (qi (gy hkk _) (by omega)) (by omega)) (by omega)) (by omega)
   ·rw [List.drop_append_of_le_length (by omega), oj]; rw [szL] at hf; omega
   ·rw [List.drop_append_of_le_length (by omega)]
    exact hz2.app (Li hP3 x ⟨he1, he2, he3⟩)
   ·rw [List.drop_append_of_le_length (by omega), ah, aj]
    exact hb
  ·left
   have : i = es.length := by omega
   subst this
   refine ⟨it2, ?_⟩
   rw [List.drop_length] at hb
   have hb0 : blocks p.gs f es.length [] = [] := by cases f <;> rfl
   rw [hb0, List.append_nil] at hb
   subst hb
   have hlt1 : 1 < H.length := by have := hI.lt; omega
   have hs1 : ∀ Y : fp, (H.set 1 Y)[1]? = some Y := λ Y => by rw [b9, if_pos rfl, if_pos hlt1]
   have hBl := hI.bl.len
   obtain ⟨Bs', p1, p2⟩ := Sy 1015 ⟨H.set 1 (.cells false [.sl Bs tb, .sl (nmA (p.gs.map (·.1))) tg, .sl (ints (nsL p.gs.length)) ts]), V⟩ (l := (lf p).bl) (λ b hb => by
    have := Dp (List.mem_map_of_mem (f := List.length) hb)
    have : jh = 9223372036854775807 := rfl
    omega) hI.bl
   have p3 : gh 1020 ⟨H.set 1 (.cells false [.sl Bs tb, .sl (nmA (p.gs.map (·.1))) tg, .sl (ints (nsL p.gs.length)) ts]), V⟩ (.tup [.agg [.sl Bs tb, .sl (nmA (p.gs.map (·.1))) tg, .sl (ints (nsL p.gs.length)) ts], .int 0]) = some (.tup [.agg [.sl Bs' (tb.sm 1017 ⟨H.set 1 (.cells false [.sl Bs tb, .sl (nmA (p.gs.map (·.1))) tg, .sl (ints (nsL p.gs.length)) ts]), V⟩), .sl (nmA (p.gs.map (·.1))) (tg.sm 1017 ⟨H.set 1 (.cells false [.sl Bs tb, .sl (nmA (p.gs.map (·.1))) tg, .sl (ints (nsL p.gs.length)) ts]), V⟩), .sl (ints (nsL p.gs.length)) (ts.sm 1017 ⟨H.set 1 (.cells false [.sl Bs tb, .sl (nmA (p.gs.map (·.1))) tg, .sl (ints (nsL p.gs.length)) ts]), V⟩)], .int 0]) := by
    rw [Xa]
    simp only [iq, a3x, Wj, p1, yx (wa _), yx (km _), iu (n := 1018) mg, iu (n := 1019) mg, fg]
   have p4 := p2.len
   have hlb : jh = 9223372036854775807 := rfl
   simp only [↓fj, wall, simprocAttr, wH, hI.h4, b1, e2, e6, hlt1, hs1, p3]
   exact .inr ⟨hz', _, rfl, _, _, _, _, rfl, p2, s7 _ _ _, s7 _ _ _, s7 _ _ _, by omega, by simp only [lf, dg]; omega, by simp only [lf, dg, List.length_range']; omega⟩
 ·refine ⟨_, _, p.es, [], List.replicate p.es.length 0, szL p.es, _, _, _, _, _, rfl, hA, gy b1 _, hkx, rfl, dk _, di _, ?_, rfl⟩
  exact Cg hP.all
end Go.Proofs.Eng
namespace Go.Proofs.Eng
open Go Go.Proofs
set_option maxRecDepth 100000
theorem Cm {es : Nat} {al : List AV} {t : Tl} (ht : t.pure = true) {n : Nat} (hn : n <= al.length) : ∃ t', t'.pure = true /\ r6 es al t 0 n none = some (.sl (al.take n) t') := by
 unfold r6
 rw [if_pos ⟨dk _, hn⟩]
 simp only [List.drop_zero]
 split
 ·rename_i h
  exact ⟨t, ht, by rw [h.2, List.take_length]⟩
 ·cases t with
  | tl _ _ => simp [Tl.pure] at ht
  | tls _ _ _ => simp [Tl.pure] at ht
  | _ => exact ⟨_, rfl, rfl⟩
theorem Rb {es : Nat} {al : List AV} {t : Tl} (ht : t.pure = true) {n m : Nat} (hn : n <= m) (hm : m = al.length) : ∃ t', t'.pure = true /\ r6 es al t n m none = some (.sl (al.drop n) t') := by
 subst hm
 unfold r6
 rw [if_pos ⟨hn, di _⟩]
 simp only [List.take_length]
 split
 ·rename_i h
  exact ⟨t, ht, by rw [h.1, List.drop_zero]⟩
 ·cases t with
  | tl _ _ => simp [Tl.pure] at ht
  | tls _ _ _ => simp [Tl.pure] at ht
  | _ => exact ⟨_, rfl, rfl⟩
theorem or_some {p : Prop} {_ : Decidable p} {c d : Bool} (h : (decide p || c) = d) : ∃ b : Bool, (b = true ↔ p) /\ (b || c) = d := ⟨_, decide_eq_true_iff, h⟩
theorem Dq {l : List Int} {j : Nat} (h : j < l.length) : ∃ x, l[j]? = some x /\ (ints l)[j]? = some (.int x) := by
 obtain ⟨x, a, _, c⟩ := Bu h; exact ⟨x, a, c⟩
theorem Nc {l : List ByteArray} {j : Nat} (h : j < l.length) : ∃ x, l[j]? = some x /\ (nmA l)[j]? = some (.str x) := by
 have := aa h
 exact ⟨_, this, by rw [nmA, bh, this]; rfl⟩
theorem Pk {l : List Ins} {j : Nat} (h : j < l.length) : ∃ x, l[j]? = some x /\ (jj l)[j]? = some (.agg [.int x.op, .int x.a, .int x.b, .str x.n]) := by
 have := aa h
 exact ⟨_, this, by rw [jj, bh, this]; rfl⟩
theorem Xu (f : FuncId) (caps : List AV) (hf : md f = .pure) (hcaps : gg caps = true) (p : Int -> Bool) {l : List Int} {t : Tl} (hl : l.length <= jh) (hg : ∀ x ∈ l, Out md pfs f (.int x :: caps) (· = .bool (p x)) λ _ => False) :
  Out md pfs 161 [.sl (ints l) t, .fn f caps] (λ v => ∃ r : Int, v = .int r /\ ((r = -1 /\ l.any p = false) \/ ∃ (j : Nat) (x : Int), r = j /\ l[j]? = some x /\ p x = true /\ (l.take j).any p = false)) λ _ => False := by
 refine iy pf161_is (dh rfl) ?_
 simp only [pf161, ↓fj, wall, simprocAttr]
 refine j6 (λ j => l.length - j) (λ j E H T => E 0 = .sl (ints l) t /\ E 1 = .fn f caps /\ E 7 = .int l.length /\ E 8 = .int j /\ j <= l.length /\ (l.take j).any p = false) ?_ 0 ?_
 ·rintro j E H T ⟨e0, e1, e7, e8, hj, hn⟩
  rcases dj j l.length with hlt | hge
  ·obtain ⟨x, d0, d4⟩ := Dq hlt
   have hdec : decide ((j : Int) < l.length) = true := by simpa using hlt
   obtain ⟨v, rfl, hc⟩ := (hg x (aq d0)).call hf (by simp [ga, gu, mg, hcaps])
   cases hp : p x
   ·simp only [↓fj, wall, simprocAttr, e0, e1, e7, e8, hdec, d4, mn, ig, hc, hp]
    exact jm ⟨j + 1, by omega, e0, e1, e7, iw (by omega), by omega, by rw [bj, d0]; simp [List.any_append, hn, hp]⟩
   ·simp only [↓fj, wall, simprocAttr, e0, e1, e7, e8, hdec, d4, mn, ig, hc, hp]
    exact ⟨_, rfl, .inr ⟨j, x, rfl, d0, hp, hn⟩⟩
  ·have hdec : decide ((j : Int) < l.length) = false := by simpa using hge
   simp only [↓fj, wall, simprocAttr, e0, e1, e7, e8, hdec, ig]
   rw [au (by omega)] at hn
   exact ⟨_, rfl, .inl ⟨rfl, hn⟩⟩
 ·exact ⟨rfl, rfl, by rw [<- ig l]; rfl, rfl, dk _, rfl⟩
theorem Sn {p : Int -> Bool} (f : FuncId) (caps : List AV) (hf : md f = .pure) (hcaps : gg caps = true) {l : List Int} {t : Tl} (ht : t.pure = true) (hl : l.length <= jh) (hg : ∀ x ∈ l, Out md pfs f (.int x :: caps) (· = .bool (p x)) λ _ => False) : Out md pfs 132 [.sl (ints l) t, .fn f caps] (· = .bool (l.any p)) λ _ => False := by
 refine iy pf132_is (dh rfl) ?_
 obtain ⟨v, ⟨r, rfl, hr⟩, hc⟩ := (Xu f caps hf hcaps p (t := t) hl hg).call rfl (by simp [ga, gu, lg, yo, ht, km, hcaps])
 have hd : decide (r >= 0) = l.any p := by
  rcases hr with ⟨rfl, h2⟩ | ⟨j, x, rfl, h2, h3, _⟩
  ·rw [h2]; rfl
  ·have : l.any p = true := ck.2 ⟨x, aq h2, h3⟩
   rw [this]; simp
 simp only [pf132, ↓fj, wall, simprocAttr, hc, hd]
theorem Wl (f : FuncId) (caps : List AV) (hf : md f = .pure) (hcaps : gg caps = true) (p : ByteArray -> Bool) {l : List ByteArray} {t : Tl} (hl : l.length <= jh) (hg : ∀ x ∈ l, Out md pfs f (.str x :: caps) (· = .bool (p x)) λ _ => False) :
  Out md pfs 163 [.sl (nmA l) t, .fn f caps] (λ v => ∃ r : Int, v = .int r /\ ((r = -1 /\ l.any p = false) \/ ∃ (j : Nat) (x : ByteArray), r = j /\ l[j]? = some x /\ p x = true /\ (l.take j).any p = false)) λ _ => False := by
 refine iy pf163_is (dh rfl) ?_
 simp only [pf163, ↓fj, wall, simprocAttr]
 refine j6 (λ j => l.length - j) (λ j E H T => E 0 = .sl (nmA l) t /\ E 1 = .fn f caps /\ E 7 = .int l.length /\ E 8 = .int j /\ j <= l.length /\ (l.take j).any p = false) ?_ 0 ?_
 ·rintro j E H T ⟨e0, e1, e7, e8, hj, hn⟩
  rcases dj j l.length with hlt | hge
  ·obtain ⟨x, d0, d4⟩ := Nc hlt
   have hdec : decide ((j : Int) < l.length) = true := by simpa using hlt
   obtain ⟨v, rfl, hc⟩ := (hg x (aq d0)).call hf (by simp [ga, gu, mg, hcaps])
   cases hp : p x
   ·simp only [↓fj, wall, simprocAttr, e0, e1, e7, e8, hdec, d4, wk, jx, hc, hp]
    exact jm ⟨j + 1, by omega, e0, e1, e7, iw (by omega), by omega, by rw [bj, d0]; simp [List.any_append, hn, hp]⟩
   ·simp only [↓fj, wall, simprocAttr, e0, e1, e7, e8, hdec, d4, wk, jx, hc, hp]
    exact ⟨_, rfl, .inr ⟨j, x, rfl, d0, hp, hn⟩⟩
  ·have hdec : decide ((j : Int) < l.length) = false := by simpa using hge
   simp only [↓fj, wall, simprocAttr, e0, e1, e7, e8, hdec, jx]
   rw [au (by omega)] at hn
   exact ⟨_, rfl, .inl ⟨rfl, hn⟩⟩
 ·exact ⟨rfl, rfl, by rw [<- jx l]; rfl, rfl, dk _, rfl⟩
theorem Up {p : ByteArray -> Bool} (f : FuncId) (caps : List AV) (hf : md f = .pure) (hcaps : gg caps = true) {l : List ByteArray} {t : Tl} (ht : t.pure = true) (hl : l.length <= jh) (hg : ∀ x ∈ l, Out md pfs f (.str x :: caps) (· = .bool (p x)) λ _ => False) : Out md pfs 135 [.sl (nmA l) t, .fn f caps] (· = .bool (l.any p)) λ _ => False := by
 refine iy pf135_is (dh rfl) ?_
 obtain ⟨v, ⟨r, rfl, hr⟩, hc⟩ := (Wl f caps hf hcaps p (t := t) hl hg).call rfl (by simp [ga, gu, lg, yo, ht, wa, hcaps])
 have hd : decide (r >= 0) = l.any p := by
  rcases hr with ⟨rfl, h2⟩ | ⟨j, x, rfl, h2, h3, _⟩
  ·rw [h2]; rfl
  ·have : l.any p = true := ck.2 ⟨x, aq h2, h3⟩
   rw [this]; simp
 simp only [pf135, ↓fj, wall, simprocAttr, hc, hd]
theorem Qc (f : FuncId) (caps : List AV) (hf : md f = .pure) (hcaps : gg caps = true) (p : Ins -> Bool) {l : List Ins} {t : Tl} (hl : l.length <= jh) (hg : ∀ x ∈ l, Out md pfs f (.agg [.int x.op, .int x.a, .int x.b, .str x.n] :: caps) (· = .bool (p x)) λ _ => False) :
  Out md pfs 185 [.sl (jj l) t, .fn f caps] (λ v => ∃ r : Int, v = .int r /\ ((r = -1 /\ l.any p = false) \/ ∃ (j : Nat) (x : Ins), r = j /\ l[j]? = some x /\ p x = true /\ (l.take j).any p = false)) λ _ => False := by
 refine iy pf185_is (dh rfl) ?_
 simp only [pf185, ↓fj, wall, simprocAttr]
 refine j6 (λ j => l.length - j) (λ j E H T => E 0 = .sl (jj l) t /\ E 1 = .fn f caps /\ E 7 = .int l.length /\ E 8 = .int j /\ j <= l.length /\ (l.take j).any p = false) ?_ 0 ?_
 ·rintro j E H T ⟨e0, e1, e7, e8, hj, hn⟩
  rcases dj j l.length with hlt | hge
  ·obtain ⟨x, d0, d4⟩ := Pk hlt
   have hdec : decide ((j : Int) < l.length) = true := by simpa using hlt
   obtain ⟨v, rfl, hc⟩ := (hg x (aq d0)).call hf (by simp [ga, gu, lu, mg, hcaps])
   cases hp : p x
   ·simp only [↓fj, wall, simprocAttr, e0, e1, e7, e8, hdec, d4, rq, jb, hc, hp]
    exact jm ⟨j + 1, by omega, e0, e1, e7, iw (by omega), by omega, by rw [bj, d0]; simp [List.any_append, hn, hp]⟩
   ·simp only [↓fj, wall, simprocAttr, e0, e1, e7, e8, hdec, d4, rq, jb, hc, hp]
    exact ⟨_, rfl, .inr ⟨j, x, rfl, d0, hp, hn⟩⟩
  ·have hdec : decide ((j : Int) < l.length) = false := by simpa using hge
   simp only [↓fj, wall, simprocAttr, e0, e1, e7, e8, hdec, jb]
   rw [au (by omega)] at hn
   exact ⟨_, rfl, .inl ⟨rfl, hn⟩⟩
 ·exact ⟨rfl, rfl, by rw [<- jb l]; rfl, rfl, dk _, rfl⟩
theorem T7 {p : Ins -> Bool} (f : FuncId) (caps : List AV) (hf : md f = .pure) (hcaps : gg caps = true) {l : List Ins} {t : Tl} (ht : t.pure = true) (hl : l.length <= jh) (hg : ∀ x ∈ l, Out md pfs f (.agg [.int x.op, .int x.a, .int x.b, .str x.n] :: caps) (· = .bool (p x)) λ _ => False) : Out md pfs 182 [.sl (jj l) t, .fn f caps] (· = .bool (l.any p)) λ _ => False := by
 refine iy pf182_is (dh rfl) ?_
 obtain ⟨v, ⟨r, rfl, hr⟩, hc⟩ := (Qc f caps hf hcaps p (t := t) hl hg).call rfl (by simp [ga, gu, lg, yo, ht, x8, hcaps])
 have hd : decide (r >= 0) = l.any p := by
  rcases hr with ⟨rfl, h2⟩ | ⟨j, x, rfl, h2, h3, _⟩
  ·rw [h2]; rfl
  ·have : l.any p = true := ck.2 ⟨x, aq h2, h3⟩
   rw [this]; simp
 simp only [pf182, ↓fj, wall, simprocAttr, hc, hd]
theorem Qv {l : List Int} {t : Tl} (x : Int) (hl : l.length <= jh) :
  Out md pfs 179 [.sl (ints l) t, .int x] (λ v => ∃ r : Int, v = .int r /\ ((r = -1 /\ x ∉ l) \/ ∃ j : Nat, r = j /\ l[j]? = some x /\ x ∉ l.take j)) λ _ => False := by
 refine iy pf179_is (dh rfl) ?_
 simp only [pf179, ↓fj, wall, simprocAttr]
 refine j6 (λ j => l.length - j) (λ j E H T => E 0 = .sl (ints l) t /\ E 1 = .int x /\ E 7 = .int l.length /\ E 8 = .int j /\ j <= l.length /\ x ∉ l.take j) ?_ 0 ?_
 ·rintro j E H T ⟨e0, e1, e7, e8, hj, hn⟩
  rcases dj j l.length with hlt | hge
  ·obtain ⟨y, d0, d4⟩ := Dq hlt
   have hdec : decide ((j : Int) < l.length) = true := by simpa using hlt
   by_cases hxy : x = y
   ·subst hxy
    simp only [↓fj, wall, simprocAttr, e0, e1, e7, e8, hdec, d4, mn, ig, sd, nk, decide_true, beq_self_eq_true]
    exact ⟨_, rfl, .inr ⟨j, rfl, d0, hn⟩⟩
   ·have hb : (x == y) = false := beq_false_of_ne hxy
    have hd : decide (x = y) = false := decide_eq_false hxy
    simp only [↓fj, wall, simprocAttr, e0, e1, e7, e8, hdec, d4, mn, ig, sd, nk, hb, hd]
    exact jm ⟨j + 1, by omega, e0, e1, e7, iw (by omega), by omega, by rw [bj, d0]; simp [hn, hxy]⟩
  ·have hdec : decide ((j : Int) < l.length) = false := by simpa using hge
   simp only [↓fj, wall, simprocAttr, e0, e1, e7, e8, hdec, ig]
   rw [au (by omega)] at hn
   exact ⟨_, rfl, .inl ⟨rfl, hn⟩⟩
 ·exact ⟨rfl, rfl, by rw [<- ig l]; rfl, rfl, dk _, by simp⟩
theorem R4 {l : List Int} {t : Tl} (x : Int) (ht : t.pure = true) (hl : l.length <= jh) {b : Bool} (hbx : b = true ↔ x ∈ l) : Out md pfs 162 [.sl (ints l) t, .int x] (· = .bool b) λ _ => False := by
 refine iy pf162_is (dh rfl) ?_
 obtain ⟨v, ⟨r, rfl, hr⟩, hc⟩ := (Qv (l := l) (t := t) x hl).call rfl (by simp [ga, gu, lg, mg, ht, km])
 have hd : decide (r >= 0) = b := by
  rcases hr with ⟨rfl, h2⟩ | ⟨j, rfl, h2, _⟩
  ·cases b with
   | false => rfl
   | true => exact absurd (hbx.1 rfl) h2
  ·rw [hbx.2 (aq h2)]; simp
 simp only [pf162, ↓fj, wall, simprocAttr, hc, hd]
theorem Uc {l : List Int} {t : Tl} (ht : t.pure = true) (hl : l.length <= jh) : Out md pfs 134 [.sl (ints l) t] (· = .bool (oz [] l)) λ _ => False := by
 refine iy pf134_is (dh rfl) ?_
 simp only [pf134, ↓fj, wall, simprocAttr]
 refine j6 (λ j => l.length - j) (λ j E H T => E 0 = .sl (ints l) t /\ E 5 = .sl (ints l) t /\ E 6 = .int l.length /\ E 7 = .int j /\ j <= l.length /\ oz (l.take j) (l.drop j) = oz [] l) ?_ 0 ⟨rfl, rfl, by rw [<- ig l]; rfl, rfl, dk _, rfl⟩
 rintro j E H T ⟨e0, e5, e6, e7, hj, hn⟩
 rcases dj j l.length with hlt | hge
 ·obtain ⟨y, d0, d4⟩ := Dq hlt
  have hdec : decide ((j : Int) < l.length) = true := by simpa using hlt
  have hdr : l.drop j = y :: l.drop (j + 1) := by
   obtain ⟨h, rfl⟩ := List.getElem?_eq_some_iff.1 d0
   exact bx h
  have htk : l.take (j + 1) = l.take j ++ [y] := by rw [bj, d0]; rfl
  rw [hdr, oz, <- htk] at hn
  have htl : (l.take j).length = j := by rw [b7]; omega
  have hsl : (ints l).take j = ints (l.take j) := by simp [ints]
  have hj2 : (j : Int) <= (l.length : Nat) := by omega
  obtain ⟨t', ht', hs⟩ := Cm (es := 1) (al := ints l) ht (n := j) (by rw [ig]; exact hj)
  rw [hsl] at hs
  obtain ⟨b, hb, hn⟩ := or_some hn
  obtain ⟨_, rfl, hc⟩ := (R4 (l := l.take j) (t := t') y ht' (by omega) (b := b) hb).call rfl (by simp [ga, gu, lg, mg, km, ht'])
  cases b
  ·simp only [↓fj, wall, simprocAttr, e0, e5, e6, e7, hdec, d4, mn, ig, hj2, hs, hc]
   exact jm ⟨j + 1, by omega, e0, e5, e6, iw (by omega), by omega, by simpa using hn⟩
  ·simp only [↓fj, wall, simprocAttr, e0, e5, e6, e7, hdec, d4, mn, ig, hj2, hs, hc]
   rw [<- hn]; rfl
 ·have hdec : decide ((j : Int) < l.length) = false := by simpa using hge
  simp only [↓fj, wall, simprocAttr, e0, e5, e6, e7, hdec]
  rw [bt (by omega), oz] at hn
  rw [<- hn]
theorem S4 {l : List ByteArray} {t : Tl} (x : ByteArray) (hl : l.length <= jh) :
  Out md pfs 180 [.sl (nmA l) t, .str x] (λ v => ∃ r : Int, v = .int r /\ ((r = -1 /\ x ∉ l) \/ ∃ j : Nat, r = j /\ l[j]? = some x /\ x ∉ l.take j)) λ _ => False := by
 refine iy pf180_is (dh rfl) ?_
 simp only [pf180, ↓fj, wall, simprocAttr]
 refine j6 (λ j => l.length - j) (λ j E H T => E 0 = .sl (nmA l) t /\ E 1 = .str x /\ E 7 = .int l.length /\ E 8 = .int j /\ j <= l.length /\ x ∉ l.take j) ?_ 0 ?_
 ·rintro j E H T ⟨e0, e1, e7, e8, hj, hn⟩
  rcases dj j l.length with hlt | hge
  ·obtain ⟨y, d0, d4⟩ := Nc hlt
   have hdec : decide ((j : Int) < l.length) = true := by simpa using hlt
   by_cases hxy : x = y
   ·subst hxy
    simp only [↓fj, wall, simprocAttr, e0, e1, e7, e8, hdec, d4, wk, jx, sd, nk, decide_true, beq_self_eq_true]
    exact ⟨_, rfl, .inr ⟨j, rfl, d0, hn⟩⟩
   ·have hd : decide (x = y) = false := decide_eq_false hxy
    simp only [↓fj, wall, simprocAttr, e0, e1, e7, e8, hdec, d4, wk, jx, sd, nk, hd]
    exact jm ⟨j + 1, by omega, e0, e1, e7, iw (by omega), by omega, by rw [bj, d0]; simp [hn, hxy]⟩
  ·have hdec : decide ((j : Int) < l.length) = false := by simpa using hge
   simp only [↓fj, wall, simprocAttr, e0, e1, e7, e8, hdec, jx]
   rw [au (by omega)] at hn
   exact ⟨_, rfl, .inl ⟨rfl, hn⟩⟩
 ·exact ⟨rfl, rfl, by rw [<- jx l]; rfl, rfl, dk _, by simp⟩
theorem Si {l : List ByteArray} {t : Tl} (x : ByteArray) (ht : t.pure = true) (hl : l.length <= jh) {b : Bool} (hbx : b = true ↔ x ∈ l) : Out md pfs 164 [.sl (nmA l) t, .str x] (· = .bool b) λ _ => False := by
 refine iy pf164_is (dh rfl) ?_
 obtain ⟨v, ⟨r, rfl, hr⟩, hc⟩ := (S4 (l := l) (t := t) x hl).call rfl (by simp [ga, gu, lg, mg, ht, wa])
 have hd : decide (r >= 0) = b := by
  rcases hr with ⟨rfl, h2⟩ | ⟨j, rfl, h2, _⟩
  ·cases b with
   | false => rfl
   | true => exact absurd (hbx.1 rfl) h2
  ·rw [hbx.2 (aq h2)]; simp
 simp only [pf164, ↓fj, wall, simprocAttr, hc, hd]
theorem Uu {l : List ByteArray} {t : Tl} (ht : t.pure = true) (hl : l.length <= jh) : Out md pfs 137 [.sl (nmA l) t] (· = .bool (oz [] l)) λ _ => False := by
 refine iy pf137_is (dh rfl) ?_
 simp only [pf137, ↓fj, wall, simprocAttr]
 refine j6 (λ j => l.length - j) (λ j E H T => E 0 = .sl (nmA l) t /\ E 5 = .sl (nmA l) t /\ E 6 = .int l.length /\ E 7 = .int j /\ j <= l.length /\ oz (l.take j) (l.drop j) = oz [] l) ?_ 0 ⟨rfl, rfl, by rw [<- jx l]; rfl, rfl, dk _, rfl⟩
 rintro j E H T ⟨e0, e5, e6, e7, hj, hn⟩
 rcases dj j l.length with hlt | hge
 ·obtain ⟨y, d0, d4⟩ := Nc hlt
  have hdec : decide ((j : Int) < l.length) = true := by simpa using hlt
  have hdr : l.drop j = y :: l.drop (j + 1) := by
   obtain ⟨h, rfl⟩ := List.getElem?_eq_some_iff.1 d0
   exact bx h
  have htk : l.take (j + 1) = l.take j ++ [y] := by rw [bj, d0]; rfl
  rw [hdr, oz, <- htk] at hn
  have htl : (l.take j).length = j := by rw [b7]; omega
  have hsl : (nmA l).take j = nmA (l.take j) := by simp [nmA]
  have hj2 : (j : Int) <= (l.length : Nat) := by omega
  obtain ⟨t', ht', hs⟩ := Cm (es := 1) (al := nmA l) ht (n := j) (by rw [jx]; exact hj)
  rw [hsl] at hs
  obtain ⟨b, hb, hn⟩ := or_some hn
  obtain ⟨_, rfl, hc⟩ := (Si (l := l.take j) (t := t') y ht' (by omega) (b := b) hb).call rfl (by simp [ga, gu, lg, mg, wa, ht'])
  cases b
  ·simp only [↓fj, wall, simprocAttr, e0, e5, e6, e7, hdec, d4, wk, jx, hj2, hs, hc]
   exact jm ⟨j + 1, by omega, e0, e5, e6, iw (by omega), by omega, by simpa using hn⟩
  ·simp only [↓fj, wall, simprocAttr, e0, e5, e6, e7, hdec, d4, wk, jx, hj2, hs, hc]
   rw [<- hn]; rfl
 ·have hdec : decide ((j : Int) < l.length) = false := by simpa using hge
  simp only [↓fj, wall, simprocAttr, e0, e5, e6, e7, hdec]
  rw [bt (by omega), oz] at hn
  rw [<- hn]
end Go.Proofs.Eng
namespace Go.Proofs.Eng
open Go Go.Proofs
set_option maxRecDepth 100000
set_option maxHeartbeats 16000000
theorem It (op : Int) : Out md pfs 181 [.int op] (· = .tup [.bool (xr op), .bool (xm op), .bool (vi op)]) λ _ => False := by
 refine iy pf181_is (dh rfl) ?_
 have h : op = 0 \/ op = 1 \/ op = 5 \/ op = 7 \/ op = 6 \/ op = 4 \/ ((op == 0) = false /\ (op == 1) = false /\ (op == 5) = false /\ (op == 7) = false /\ (op == 6) = false /\ (op == 4) = false) := by
  simp only [beq_eq_false_iff_ne]; omega
 rcases h with rfl | rfl | rfl | rfl | rfl | rfl | ⟨h0, h1, h5, h7, h6, h4⟩
 all_goals first
  | (simp only [pf181, ↓fj, wall, simprocAttr, xr, xm, vi]; done)
  | (simp only [pf181, ↓fj, wall, simprocAttr, xr, xm, vi]; rfl)
  | (simp only [pf181, ↓fj, wall, simprocAttr, xr, xm, vi, h0, h1, h5, h7, h6, h4]; first | done | rfl)
theorem Nw (x : Ins) (h0 : 0 <= x.op) (h1 : x.op <= 14) : Out md pfs 169 [x.av] (· = .tup [.int (jq x), .int (j7 x)]) λ _ => False := by
 obtain ⟨op, a, b, n⟩ := x
 simp only at h0 h1
 refine iy pf169_is (dh rfl) ?_
 have h : op = 0 \/ op = 1 \/ op = 2 \/ op = 3 \/ op = 4 \/ op = 5 \/ op = 6 \/ op = 7 \/ op = 8 \/ op = 9 \/ op = 10 \/ op = 11 \/ op = 12 \/ op = 13 \/ op = 14 := by omega
 rcases h with rfl | rfl | rfl | rfl | rfl | rfl | rfl | rfl | rfl | rfl | rfl | rfl | rfl | rfl | rfl
 all_goals
  simp only [pf169, ↓fj, wall, simprocAttr, Ins.av, jq, j7]
  first | done | rfl | simp
theorem Mi (x : Ins) : Out md pfs 183 [.agg [.int x.op, .int x.a, .int x.b, .str x.n]] (· = .bool (x.op != 6)) λ _ => False := by
 refine iy pf183_is (dh rfl) ?_
 simp only [pf183, ↓fj, wall, simprocAttr]
theorem Qr (s : ByteArray) : (s.size == 0) = decide (s = ⟨#[]⟩) := by
 obtain ⟨⟨l⟩⟩ := s
 cases l <;> simp [ByteArray.size]
theorem Rj (x : Ins) {rest : List Ins} {t : Tl} (br : Int) (ht : t.pure = true) (hl : rest.length <= jh) : Out md pfs 167 [x.av, .sl (jj rest) t, .int br] (· = .bool (sq x rest br)) λ _ => False := by
 obtain ⟨op, a, b, n⟩ := x
 refine iy pf167_is (dh rfl) ?_
 obtain ⟨_, rfl, co⟩ := (It op).call rfl (by simp [ga, gu, mg])
 cases c1 : decide (op < 0) <;> cases c2 : decide (op >= 15) <;> cases c3 : decide (a < 0) <;> cases c4 : decide (b < 0)
 case false.false.false.false =>
  generalize hA : xr op = uA at co
  generalize hB : xm op = uB at co
  generalize hN : vi op = uN at co
  have tri : ∀ (u c : Bool), (u = true) \/ (u = false /\ c = true) \/ (u = false /\ c = false) := λ u c => by cases u <;> cases c <;> simp
  simp only [decide_eq_true_eq, decide_eq_false_iff_not] at c1 c2 c3 c4
  have k1 : decide (0 <= op) = true := decide_eq_true (by omega)
  have k2 : decide (op <= 14) = true := decide_eq_true (by omega)
  have k3 : decide (0 <= a) = true := decide_eq_true (by omega)
  have k4 : decide (0 <= b) = true := decide_eq_true (by omega)
  have k5 : decide (op < 0) = false := decide_eq_false (by omega)
  have k6 : decide (op >= 15) = false := decide_eq_false (by omega)
  have k7 : decide (a < 0) = false := decide_eq_false (by omega)
  have k8 : decide (b < 0) = false := decide_eq_false (by omega)
  have e0 : sq ⟨op, a, b, n⟩ rest br = ((uA || a == 0) && (uB || b == 0) && (uN || n.size == 0) && ((op == 6) == decide (0 < br)) && (op != 5 || Aa ⟨op, a, b, n⟩ rest)) := by
   simp only [sq, hA, hB, hN, k1, k2, k3, k4, Bool.true_and]
  obtain ⟨R, hR⟩ : ∃ R, R = sq ⟨op, a, b, n⟩ rest br := ⟨_, rfl⟩
  rw [<- hR]
  rw [e0] at hR
  clear e0
  have tA : (uA = true /\ uA = true /\ (uA || a == 0) = true) \/ (uA = false /\ (a != 0) = true /\ (uA || a == 0) = false) \/ (uA = false /\ (a != 0) = false /\ (uA || a == 0) = true) := by
   cases uA <;> cases h : (a == 0) <;> simp [bne, h]
  have tB : (uB = true /\ uB = true /\ (uB || b == 0) = true) \/ (uB = false /\ (b != 0) = true /\ (uB || b == 0) = false) \/ (uB = false /\ (b != 0) = false /\ (uB || b == 0) = true) := by
   cases uB <;> cases h : (b == 0) <;> simp [bne, h]
  have tN : (uN = true /\ uN = true /\ (uN || n.size == 0) = true) \/ (uN = false /\ (!decide (n = ⟨#[]⟩)) = true /\ (uN || n.size == 0) = false) \/ (uN = false /\ (!decide (n = ⟨#[]⟩)) = false /\ (uN || n.size == 0) = true) := by
   rw [Qr]; cases uN <;> cases h : decide (n = ⟨#[]⟩) <;> simp
  have tC : ((op == 6) = decide (br > 0) /\ (op == 6) = decide (br > 0) /\ ((op == 6) == decide (0 < br)) = true) \/ ((op == 6) = true /\ decide (br > 0) = false /\ ((op == 6) == decide (0 < br)) = false) \/ ((op == 6) = false /\ decide (br > 0) = true /\ ((op == 6) == decide (0 < br)) = false) := by
   cases (op == 6) <;> cases h : decide (0 < br) <;> simp_all
  rcases tA with ⟨a1, a2, a3⟩ | ⟨a1, a2, a3⟩ | ⟨a1, a2, a3⟩
  rotate_left
  ·
   subst a1
   simp only [a3, ej] at hR
   simp only [pf167, ↓fj, wall, simprocAttr, Ins.av, k5, k6, k7, k8, co, a2, hR]
  all_goals
   rcases tB with ⟨b1, b2, b3⟩ | ⟨b1, b2, b3⟩ | ⟨b1, b2, b3⟩
   rotate_left
   ·
    simp only [b3, ej, er] at hR
    simp only [pf167, ↓fj, wall, simprocAttr, Ins.av, k5, k6, k7, k8, co, a1, a2, b1, b2, hR]
   all_goals
    rcases tN with ⟨n1, n2, n3⟩ | ⟨n1, n2, n3⟩ | ⟨n1, n2, n3⟩
    rotate_left
    ·
     simp only [n3, ej, er] at hR
     simp only [pf167, ↓fj, wall, simprocAttr, Ins.av, sd, k5, k6, k7, k8, co, a1, a2, b1, b2, n1, n2, hR]
    all_goals
     rcases tC with ⟨d1, d2, d3⟩ | ⟨d1, d2, d3⟩ | ⟨d1, d2, d3⟩
     rotate_left
     ·
      simp only [d3, ej, er] at hR
      simp only [pf167, ↓fj, wall, simprocAttr, Ins.av, sd, k5, k6, k7, k8, co, a1, a2, b1, b2, n1, n2, d1, d2, hR, show ((true : Bool) == false) = false from rfl, show ((false : Bool) == true) = false from rfl, ed, dz]
     ·
      simp only [d3, ej, er] at hR
      simp only [pf167, ↓fj, wall, simprocAttr, Ins.av, sd, k5, k6, k7, k8, co, a1, a2, b1, b2, n1, n2, d1, d2, hR, show ((true : Bool) == false) = false from rfl, show ((false : Bool) == true) = false from rfl, ed, dz]
     cases h5 : (op != 5)
     ·simp only [a3, b3, n3, d3, h5, Bool.true_and, Bool.false_or] at hR
      have ho5 : op = 5 := by simpa [bne] using h5
      obtain ⟨m, rfl⟩ : ∃ m : Nat, a = m := ⟨a.toNat, by omega⟩
      rw [Aa] at hR
      simp only [ew] at hR
      cases g1 : decide ((m : Int) <= 32)
      ·rw [g1] at hR
       simp only [ej] at hR
       simp only [pf167, ↓fj, wall, simprocAttr, Ins.av, sd, jb, k5, k6, k7, k8, co, a1, a2, b1, b2, n1, n2, d1, d2, h5, g1, hR, beq_self_eq_true, dz, ed]
      cases g2 : decide ((m : Int) <= rest.length)
      ·rw [g1, g2] at hR
       simp only [ej, er] at hR
       simp only [pf167, ↓fj, wall, simprocAttr, Ins.av, sd, jb, k5, k6, k7, k8, co, a1, a2, b1, b2, n1, n2, d1, d2, h5, g1, g2, hR, beq_self_eq_true, dz, ed]
      rw [g1, g2] at hR
      simp only [Bool.true_and] at hR
      have g3 : m <= rest.length := by have := of_decide_eq_true g2; omega
      have g4 : (m : Int) <= rest.length := by omega
      obtain ⟨t', ht', hs⟩ := Cm (es := 4) (al := jj rest) ht (n := m) (by rw [jb]; exact g3)
      have hsl : (jj rest).take m = jj (rest.take m) := by simp [jj]
      rw [hsl] at hs
      obtain ⟨_, rfl, hc⟩ := (T7 183 [] rfl rfl (t := t') (l := rest.take m) ht' (by rw [b7]; omega) (λ x _ => Mi x)).call rfl (by simp [ga, gu, lg, yo, x8, ht'])
      have hall : ((rest.take m).all λ y => y.op == 6) = !((rest.take m).any λ x => x.op != 6) := by
       rw [List.all_eq_not_any_not]; rfl
      rw [hall] at hR
      simp only [pf167, ↓fj, wall, simprocAttr, Ins.av, sd, jb, k5, k6, k7, k8, co, a1, a2, b1, b2, n1, n2, d1, d2, h5, g1, g2, g4, hs, hc, hR, rq, beq_self_eq_true, dz, ed]
     ·simp only [a3, b3, n3, d3, h5, Bool.true_and, Bool.true_or] at hR
      simp only [pf167, ↓fj, wall, simprocAttr, Ins.av, sd, k5, k6, k7, k8, co, a1, a2, b1, b2, n1, n2, d1, d2, h5, hR, beq_self_eq_true, dz, ed]
 all_goals
  simp only [pf167, ↓fj, wall, simprocAttr, Ins.av, c1, c2, c3, c4]
  simp only [decide_eq_true_eq, decide_eq_false_iff_not] at c1 c2 c3 c4
  refine (G4 ?_)
  simp [sq]
  omega
end Go.Proofs.Eng
namespace Go.Proofs.Eng
open Go Go.Proofs
set_option maxRecDepth 100000
set_option maxHeartbeats 16000000
theorem Xq {Bs : List AV} {t1 : Tl} {x y : AV} (hp : gg [.sl Bs t1, x, y] = true) (n : Int) : Out md pfs 133 [.int n, .ip [.sl Bs t1, x, y] 0] (· = .bool (decide (n < 1) || decide (n >= (Bs.length : Nat)))) λ _ => False := by
 refine iy pf133_is (dh rfl) ?_
 cases h1 : decide (n < 1) <;> cases h2 : decide (n >= (Bs.length : Nat))
 all_goals simp only [pf133, ↓fj, wall, simprocAttr, h1, h2, Bool.or_true, Bool.or_false, Bool.true_or, Bool.false_or]
theorem W7 (s : ByteArray) (hs : s.size <= jh) : Out md pfs 136 [.str s] (· = .bool (!isName s)) λ _ => False := by
 refine iy pf136_is (dh rfl) ?_
 obtain ⟨_, rfl, hc⟩ := (Az s hs).call rfl (by simp [ga, gu, mg])
 simp only [pf136, ↓fj, wall, simprocAttr, hc]
theorem Pl : ∀ {l : List (List Ins)} {al : List AV}, LIs Ro l al -> gg al = true
 | [], [], _ => rfl
 | [], _ :: _, h => h.elim
 | _ :: _, [], h => h.elim
 | b :: l, a :: al, h => by
  obtain ⟨⟨t, rfl, ht, _⟩, h⟩ := h
  rw [ga, Pl h]; simp [lg, ht, x8]
theorem N3 {c : Cd} {a : AV} (h : c.Is a) : gz a = true := by
 obtain ⟨Bs, t1, t2, t3, rfl, g1, g2, g3, g4, _⟩ := h
 simp [lu, ga, gu, lg, Pl g1, g2, g3, g4, wa, km]
theorem Lt {c : Cd} {a : AV} (h : c.Is a) (hn : ∀ g ∈ c.gl, g.size <= jh) : Out md pfs 87 [a] (· = .int c.Dm) λ _ => False := by
 obtain ⟨Bs, t1, t2, t3, rfl, g1, g2, g3, g4, g5, g6, g7⟩ := id h
 have hp : gg [.sl Bs t1, .sl (nmA c.gl) t2, .sl (ints c.st) t3] = true := by have := N3 h; rwa [lu] at this
 have hBl := g1.len
 refine iy pf87_is (dh rfl) ?_
 obtain ⟨_, rfl, c1⟩ := (Sn (p := λ n => decide (n < 1) || decide (n >= (Bs.length : Nat))) 133 [.ip [.sl Bs t1, .sl (nmA c.gl) t2, .sl (ints c.st) t3] 0] rfl (by simp [ga, gu, Oj] at hp ⊢; simp [hp]) (t := t3) g4 g7 (λ x _ => Xq hp x)).a2t rfl (s := ⟨[.cells false [.sl Bs t1, .sl (nmA c.gl) t2, .sl (ints c.st) t3]], []⟩) (args := [.sl (ints c.st) t3, .fn 133 [.ptr 0 0]]) (by
  rw [iq, iu (by simp [lg, g4, km]), iq, P4 rfl hp, iq])
 have hfz : (([.sl (ints c.st) t3, .fn 133 [.ptr 0 0]] : List AV).foldl (frz 20) ⟨[.cells false [.sl Bs t1, .sl (nmA c.gl) t2, .sl (ints c.st) t3]], []⟩) = ⟨[.cells true [.sl Bs t1, .sl (nmA c.gl) t2, .sl (ints c.st) t3]], []⟩ := by
  rw [dc, zk (by simp [lg, g4, km]), dc, Oa rfl hp, List.foldl_nil]; rfl
 rw [hfz] at c1
 obtain ⟨_, rfl, c2⟩ := (Uc g4 g7).call rfl (by simp [ga, gu, lg, g4, km])
 obtain ⟨_, rfl, c3⟩ := (Up (p := λ s => !isName s) 136 [] rfl rfl (t := t2) g3 g6 (λ x hx => W7 x (hn x hx))).call rfl (by simp [ga, gu, lg, yo, g3, wa])
 obtain ⟨_, rfl, c4⟩ := (Uu g3 g6).call rfl (by simp [ga, gu, lg, g3, wa])
 generalize hA : (c.st.any λ n => decide (n < 1) || decide (n >= (Bs.length : Nat))) = bA at c1
 generalize hB : oz [] c.st = bB at c2
 generalize hC : (c.gl.any λ s => !isName s) = bC at c3
 generalize hD : oz [] c.gl = bD at c4
 have hA' : (c.st.any λ s => decide (s < 1) || decide ((c.bl.length : Int) <= s)) = bA := by rw [<- hA, hBl]
 have hR : c.Dm = if c.bl = [] \/ c.st.length ≠ c.gl.length \/ bA = true \/ bB = true then 3 else if bC = true then 29 else if bD = true then 8 else 0 := by
  rw [Cd.Dm, hA', hB, hC, hD]
 have hbl : c.bl = [] ↔ Bs.length = 0 := by rw [hBl]; exact ⟨λ h => by rw [h]; rfl, λ h => List.length_eq_zero_iff.1 h⟩
 rw [hR]
 cases q1 : (((Bs.length : Nat) : Int) == 0)
 ·have q1' : ¬ c.bl = [] := by rw [hbl]; have := ne_of_beq_false q1; omega
  cases q2 : (((c.st.length : Nat) : Int) != ((c.gl.length : Nat) : Int))
  ·have q2' : c.st.length = c.gl.length := by simp only [bne_eq_false_iff_eq] at q2; omega
   have q3 : (bA = true \/ bB = true) ↔ (c.bl = [] \/ c.st.length ≠ c.gl.length \/ bA = true \/ bB = true) := by simp [q1', q2']
   have hR2 : ∀ (x y : Int), (if c.bl = [] \/ c.st.length ≠ c.gl.length \/ bA = true \/ bB = true then x else y) = if bA = true \/ bB = true then x else y := λ x y => by
    by_cases h : bA = true \/ bB = true
    ·rw [if_pos h, if_pos (q3.1 h)]
    ·rw [if_neg h, if_neg λ h' => h (q3.2 h')]
   rw [hR2]
   cases bA
   ·cases bB
    ·cases bC
     ·cases bD
      all_goals simp only [pf87, ↓fj, wall, simprocAttr, wH, ig, jx, q1, q2, c1, c2, c3, c4, dy, or_self, if_false, if_true]
     ·simp only [pf87, ↓fj, wall, simprocAttr, wH, ig, jx, q1, q2, c1, c2, c3, c4, dy, or_self, if_false, if_true]
    ·simp only [pf87, ↓fj, wall, simprocAttr, wH, ig, jx, q1, q2, c1, c2, c3, c4, dy, false_or, if_true]
   ·simp only [pf87, ↓fj, wall, simprocAttr, wH, ig, jx, q1, q2, c1, c2, c3, c4, true_or, if_true]
  ·have q2' : c.st.length ≠ c.gl.length := by simp only [bne_iff_ne, ne_eq] at q2; omega
   rw [if_pos (.inr (.inl q2'))]
   simp only [pf87, ↓fj, wall, simprocAttr, wH, ig, jx, q1, q2]
 ·have q1' : c.bl = [] := by rw [hbl]; have := eq_of_beq q1; omega
  rw [if_pos (.inl q1')]
  simp only [pf87, ↓fj, wall, simprocAttr, wH, ig, jx, q1]
end Go.Proofs.Eng
namespace Go.Proofs.Eng
open Go Go.Proofs
set_option maxRecDepth 100000
set_option maxHeartbeats 16000000
structure KS (ki si : Nat) (Bs : List AV) (t1 t2 t3 : Tl) (c : Cd) (S : List Int) (H : List fp) : Prop where
 k : H[ki]? = some (.cells false [.sl Bs t1, .sl (nmA c.gl) t2, .sl (ints c.st) t3, .bs si 0 c.bl.length 1 false])
 s : H[si]? = some (.cells false (ints S))
 sl : S.length = c.bl.length
 ne : ki ≠ si
 bl : LIs Ro c.bl Bs
 p1 : t1.pure = true
 gl : c.gl.length <= jh
theorem KS.app {ki si : Nat} {Bs : List AV} {t1 t2 t3 : Tl} {c : Cd} {S : List Int} {H : List fp} (h : KS ki si Bs t1 t2 t3 c S H) (G : List fp) : KS ki si Bs t1 t2 t3 c S (H ++ G) :=
 ⟨gy h.k G, gy h.s G, h.sl, h.ne, h.bl, h.p1, h.gl⟩
section
variable {ki si : Nat} {Bs : List AV} {t1 t2 t3 : Tl} {c : Cd} {S : List Int} {H : List fp} {V : List Nat}
theorem a0a (h : KS ki si Bs t1 t2 t3 c S H) (x : Ins) {rest : List Ins} {t : Tl} (br : Int) (ht : t.pure = true) (hl : rest.length <= jh) (hn : x.n.size <= jh) :
  Sh md pfs 139 [.ptr ki 0, x.av, .sl (jj rest) t, .int br] ⟨H, V⟩ (λ v s => v = .int (mw c.bl.length c.gl.length x rest br) /\ ∃ G, s = ⟨H ++ G, V⟩) λ _ _ => False := by
 obtain ⟨op, a, b, n⟩ := x
 simp only at hn
 have hBl := h.bl.len
 have hk := gy h.k [fp.cells false [.int op, .int a, .int b, .str n]]
 obtain ⟨_, rfl, cp⟩ := (Rj ⟨op, a, b, n⟩ (rest := rest) (t := t) br ht hl).call rfl (by simp [ga, gu, lg, mg, x8, ht, Ins.av, lu])
 obtain ⟨_, rfl, cn⟩ := (Az n hn).call rfl (by simp [ga, gu, mg])
 simp only [Ins.av] at cp
 have go : ∀ r, mw c.bl.length c.gl.length ⟨op, a, b, n⟩ rest br = r -> (Sh md pfs 139 [.ptr ki 0, .agg [.int op, .int a, .int b, .str n], .sl (jj rest) t, .int br] ⟨H, V⟩ (λ v s => v = .int r /\ ∃ G, s = ⟨H ++ G, V⟩) λ _ _ => False) -> Sh md pfs 139 [.ptr ki 0, Ins.av ⟨op, a, b, n⟩, .sl (jj rest) t, .int br] ⟨H, V⟩ (λ v s => v = .int (mw c.bl.length c.gl.length ⟨op, a, b, n⟩ rest br) /\ ∃ G, s = ⟨H ++ G, V⟩) λ _ _ => False := by
  rintro r rfl h; exact h
 cases hi : sq ⟨op, a, b, n⟩ rest br
 ·refine go 3 (by rw [mw, if_pos hi]) ?_
  rw [hi] at cp
  refine kg pf139_is (dh rfl) ?_
  simp only [pf139, ↓fj, wall, simprocAttr, wH, cp]
  exact ⟨_, rfl⟩
 rw [hi] at cp
 have hf : mw c.bl.length c.gl.length ⟨op, a, b, n⟩ rest br = if op = 4 /\ isName n = false then 29 else if ma c.bl.length c.gl.length ⟨op, a, b, n⟩ = true then 2 else 0 := by rw [mw, if_neg (by rw [hi]; simp)]
 have hop : op = 4 \/ op = 1 \/ op = 6 \/ op = 7 \/ ((op == 4) = false /\ (op == 1) = false /\ (op == 6) = false /\ (op == 7) = false) := by
  simp only [beq_eq_false_iff_ne]; omega
 rcases hop with rfl | rfl | rfl | rfl | ⟨o4, o1, o6, o7⟩
 ·cases hnm : isName n
  ·refine go 29 (by rw [hf, if_pos ⟨rfl, hnm⟩]) ?_
   rw [hnm] at cn
   refine kg pf139_is (dh rfl) ?_
   simp only [pf139, ↓fj, wall, simprocAttr, wH, cp, cn]
   exact ⟨_, rfl⟩
  ·rw [hnm] at cn
   cases h32 : decide (a >= 32)
   ·refine go 0 (by rw [hf, if_neg (by simp [hnm]), if_neg (by simp [ma]; simpa using h32)]) ?_
    refine kg pf139_is (dh rfl) ?_
    simp only [pf139, ↓fj, wall, simprocAttr, wH, cp, cn, h32]
    exact ⟨_, rfl⟩
   ·refine go 2 (by rw [hf, if_neg (by simp [hnm]), if_pos (by simp [ma]; simpa using h32)]) ?_
    refine kg pf139_is (dh rfl) ?_
    simp only [pf139, ↓fj, wall, simprocAttr, wH, cp, cn, h32]
    exact ⟨_, rfl⟩
 ·cases h1 : decide (a >= ((Bs.length : Nat) : Int))
  ·refine go 0 (by rw [hf, if_neg (by simp), if_neg (by simp [ma]; simp at h1; omega)]) ?_
   refine kg pf139_is (dh rfl) ?_
   simp only [pf139, ↓fj, wall, simprocAttr, wH, cp, hk, h1]
   exact ⟨_, rfl⟩
  ·refine go 2 (by rw [hf, if_neg (by simp), if_pos (by simp [ma]; simp at h1; omega)]) ?_
   refine kg pf139_is (dh rfl) ?_
   simp only [pf139, ↓fj, wall, simprocAttr, wH, cp, hk, h1]
   exact ⟨_, rfl⟩
 ·cases h1 : decide (a >= ((Bs.length : Nat) : Int))
  ·cases h64 : decide (b > 64)
   ·refine go 0 (by rw [hf, if_neg (by simp), if_neg (by simp [ma]; simp at h1 h64; omega)]) ?_
    refine kg pf139_is (dh rfl) ?_
    simp only [pf139, ↓fj, wall, simprocAttr, wH, cp, hk, h1, h64]
    exact ⟨_, rfl⟩
   ·refine go 2 (by rw [hf, if_neg (by simp), if_pos (by simp [ma]; simp at h1 h64; omega)]) ?_
    refine kg pf139_is (dh rfl) ?_
    simp only [pf139, ↓fj, wall, simprocAttr, wH, cp, hk, h1, h64]
    exact ⟨_, rfl⟩
  ·refine go 2 (by rw [hf, if_neg (by simp), if_pos (by simp [ma]; simp at h1; omega)]) ?_
   refine kg pf139_is (dh rfl) ?_
   simp only [pf139, ↓fj, wall, simprocAttr, wH, cp, hk, h1]
   exact ⟨_, rfl⟩
 ·cases h1 : decide (a >= ((c.gl.length : Nat) : Int))
  ·refine go 0 (by rw [hf, if_neg (by simp), if_neg (by simp [ma]; simp at h1; omega)]) ?_
   refine kg pf139_is (dh rfl) ?_
   simp only [pf139, ↓fj, wall, simprocAttr, wH, cp, hk, jx, h1]
   exact ⟨_, rfl⟩
  ·refine go 2 (by rw [hf, if_neg (by simp), if_pos (by simp [ma]; simp at h1; omega)]) ?_
   refine kg pf139_is (dh rfl) ?_
   simp only [pf139, ↓fj, wall, simprocAttr, wH, cp, hk, jx, h1]
   exact ⟨_, rfl⟩
 ·have n4 : op ≠ 4 := ne_of_beq_false o4
  refine go 0 (by rw [hf, if_neg (by simp [n4]), if_neg (by simp [ma, o4, o1, o6, o7])]) ?_
  refine kg pf139_is (dh rfl) ?_
  simp only [pf139, ↓fj, wall, simprocAttr, wH, cp, o4, o1, o6, o7]
  exact ⟨_, rfl⟩
end
end Go.Proofs.Eng
