/- d43Few, told. No conditions beyond those in the theorems. -/
import Derived.Test.YtodnkbnbjhcikaaDoorH6
import Derived.Test.YtodnkbnbjhcikaaDoorJ7
import Derived.Lib.AppendIntMem
import Derived.Lib.ItoaLen
import Derived.WalkKit
import Derived.Maps.AppendAt
import Derived.Deep.RegionHeld3
import Derived.BigCall
import Derived.Laws.IdiomStrings
import Derived.Test.YtodnkbnbjhcikaaDoorCM
set_option linter.all false
set_option linter.deprecated false
set_option linter.unnecessarySimpa false
set_option linter.unusedVariables false
set_option linter.unusedSimpArgs false
set_option linter.defProp false
namespace Go.Proofs.Eng
open Go Go.Proofs
set_option maxRecDepth 100000
def Sz (v : List Int) : Prop := ∀ x ∈ v, 0 ≤ x ∧ x ≤ 2
def digs (f : Int) (v : List Int) : Int := v.foldl (fun n x => 3 * n + x) f
def numS (s : Int × List Int) : Int := digs s.1 s.2 * 8 + (s.2.length : Nat)
theorem digs_inj : ∀ {v u : List Int} {f g : Int}, v.length = u.length → Sz v → Sz u → digs f v = digs g u → f = g ∧ v = u
  | [], [], _, _, _, _, _, h => ⟨h, rfl⟩
  | [], _ :: _, _, _, h, _, _, _ => by simp at h
  | _ :: _, [], _, _, h, _, _, _ => by simp at h
  | x :: v, y :: u, f, g, h, hv, hu, e => by
    obtain ⟨h1, h2⟩ := digs_inj (f := 3 * f + x) (g := 3 * g + y) (by simpa using h) (fun z hz => hv z (by simp [hz])) (fun z hz => hu z (by simp [hz])) e
    have a := hv x (by simp)
    have b := hu y (by simp)
    have : f = g ∧ x = y := by omega
    exact ⟨this.1, by rw [this.2, h2]⟩
theorem numS_inj {s p : Int × List Int} (h1 : s.2.length ≤ 3) (h2 : p.2.length ≤ 3) (hs : Sz s.2) (hp : Sz p.2) (e : numS s = numS p) : s = p := by
  unfold numS at e
  have h3 : s.2.length = p.2.length := by omega
  obtain ⟨a, b⟩ := digs_inj (f := s.1) (g := p.1) h3 hs hp (by omega)
  exact Prod.ext a b
structure Vst (A : Int → Nat) (s : Int × List Int) : Prop where
  lo : 0 ≤ s.1
  hi : s.1 < 4
  len : s.2.length = A s.1
  few : A s.1 ≤ 3
  sz : Sz s.2
theorem Vst.inj {A : Int → Nat} {s p : Int × List Int} (h : Vst A s) (k : Vst A p) (e : numS s = numS p) : s = p := numS_inj (by rw [h.len]; exact h.few) (by rw [k.len]; exact k.few) h.sz k.sz e
def seqs : Nat → List (List Int)
  | 0 => [[]]
  | n + 1 => (seqs n).flatMap fun v => [0 :: v, 1 :: v, 2 :: v]
def allS (A : Int → Nat) : List (Int × List Int) := (List.range 4).flatMap fun (f : Nat) => (seqs (A (f : Int))).map fun v => ((f : Int), v)
def mk (L : List (Int × Int)) (s : Int × List Int) : Int := (lookI (numS s) L).getD 0
def unm (A : Int → Nat) (L : List (Int × Int)) : Nat := (allS A).countP fun s => mk L s == 0
def Mk12 (L : List (Int × Int)) : Prop := ∀ k v, lookI k L = some v → v = 1 ∨ v = 2
theorem Mk12.nil : Mk12 [] := fun _ _ h => by simp [lookI] at h
theorem Mk12.up {L : List (Int × Int)} (h : Mk12 L) {k v : Int} (hv : v = 1 ∨ v = 2) : Mk12 (upI k v L) := fun x y hx => by
  rw [look_up] at hx
  split at hx
  · cases hx; exact hv
  · exact h x y hx
theorem Mk12.val {L : List (Int × Int)} (h : Mk12 L) (s : Int × List Int) : mk L s = 0 ∨ mk L s = 1 ∨ mk L s = 2 := by
  unfold mk
  cases e : lookI (numS s) L with
  | none => exact .inl rfl
  | some v => exact .inr (h _ _ e)
structure Lat (A : Int → Nat) (L L' : List (Int × Int)) : Prop where
  one : ∀ p, Vst A p → (mk L' p = 1 ↔ mk L p = 1)
  pos : ∀ p, Vst A p → mk L p ≠ 0 → mk L' p ≠ 0
  m12 : Mk12 L'
theorem Lat.refl {A : Int → Nat} {L : List (Int × Int)} (h : Mk12 L) : Lat A L L := ⟨fun _ _ => Iff.rfl, fun _ _ h => h, h⟩
theorem Lat.trans {A : Int → Nat} {L L' L'' : List (Int × Int)} (h : Lat A L L') (k : Lat A L' L'') : Lat A L L'' := ⟨fun p hp => (k.one p hp).trans (h.one p hp), fun p hp hm => k.pos p hp (h.pos p hp hm), k.m12⟩
theorem mem_allS_v {A : Int → Nat} (hA : ∀ f, A f ≤ 3) {s : Int × List Int} (h : s ∈ allS A) : Vst A s := by
  have hsq : ∀ n v, v ∈ seqs n → v.length = n ∧ Sz v := by
    intro n
    induction n with
    | zero => intro v hv; simp [seqs] at hv; subst hv; exact ⟨rfl, fun x hx => by simp at hx⟩
    | succ n ih =>
      intro v hv
      simp only [seqs, List.mem_flatMap] at hv
      obtain ⟨u, hu, hv⟩ := hv
      obtain ⟨h1, h2⟩ := ih u hu
      simp only [List.mem_cons, List.not_mem_nil, or_false] at hv
      rcases hv with rfl | rfl | rfl <;> exact ⟨by simp [h1], fun x hx => by
        rcases List.mem_cons.1 hx with rfl | hx
        · omega
        · exact h2 x hx⟩
  unfold allS at h
  rw [List.mem_flatMap] at h
  obtain ⟨f, hf, h⟩ := h
  obtain ⟨v, hv, rfl⟩ := List.mem_map.1 h
  obtain ⟨h1, h2⟩ := hsq _ _ hv
  have := List.mem_range.1 hf
  exact ⟨by simp, by simp; omega, h1, hA _, h2⟩
theorem Lat.unm {A : Int → Nat} (hA : ∀ f, A f ≤ 3) {L L' : List (Int × Int)} (h : Lat A L L') : unm A L' ≤ Eng.unm A L := by
  unfold Eng.unm
  refine List.countP_mono_left fun s hs h0 => ?_
  simp only [beq_iff_eq] at h0 ⊢
  exact Classical.byContradiction fun hn => h.pos s (mem_allS_v hA hs) hn h0
structure FewS (l q : List Cl) (ar : Int → Nat) (args : List Int) : Prop where
  good : ∀ c ∈ l, Good ar c
  clo : Clo ar l q
  bad : ∀ x ∈ q, badB x = false
  fun_ : ∀ c ∈ l, c.f < 4 ∧ c.t < 4
  af : ∀ c ∈ l, (args.getD c.f.toNat 0) = (ar c.f : Nat) ∧ (args.getD c.t.toNat 0) = (ar c.t : Nat)
  few : ∀ n ∈ args, 0 ≤ n ∧ n ≤ 3
  len : args.length ≤ 4
def arA (args : List Int) (f : Int) : Nat := (args.getD f.toNat 0).toNat
theorem FewS.ar {l q : List Cl} {ar : Int → Nat} {args : List Int} (h : FewS l q ar args) {c : Cl} (hc : c ∈ l) : arA args c.f = ar c.f ∧ arA args c.t = ar c.t := by
  obtain ⟨h1, h2⟩ := h.af c hc
  unfold arA
  rw [h1, h2]; simp
def Rch (l : List Cl) (s p : Int × List Int) : Prop := ∃ x, Gen l x ∧ x.f = s.1 ∧ x.t = p.1 ∧ FitW x s.2 p.2
theorem clo_gen2 {ar : Int → Nat} {l q : List Cl} (h : Clo ar l q) (hg : ∀ c ∈ l, Good ar c) {x : Cl} (hx : Gen l x) : x ∈ q := by
  induction hx with
  | base hd => exact h.sub _ hd
  | step hx hd e ih => exact h.cl _ ih _ hd e
theorem FewS.no {l q : List Cl} {ar : Int → Nat} {args : List Int} (h : FewS l q ar args) {s : Int × List Int} (hs : Vst (arA args) s) : ¬ Rch l s s := by
  rintro ⟨x, hx, h1, h2, h3⟩
  have hxq := clo_gen2 h.clo h.good hx
  have e : x.f = x.t := by rw [h1, h2]
  refine no_cycle h.clo h.good h.bad hxq e ?_ h3
  have : ∀ {y : Cl}, Gen l y → arA args y.f = ar y.f := fun hy => by
    induction hy with
    | base hd => exact (h.ar hd).1
    | step _ _ _ ih => exact ih
  rw [hs.len, ← h1, this hx]
theorem FewS.one {l : List Cl} {s p : Int × List Int} {c : Cl} (hc : c ∈ l) (h1 : c.f = s.1) (h2 : c.t = p.1) (h3 : FitW c s.2 p.2) : Rch l s p := ⟨c, .base hc, h1, h2, h3⟩
theorem told_ok {f : FuncId} (hmd : md f = .pure) {o : List AV → ASt → Option (AV × ASt)} (h : ∀ args s v s', o args s = some (v, s') → s' = s ∧ pureAVs args = true ∧ ∃ PR : AV → Prop, Out md pfs f args PR (fun _ => False) ∧ ∀ v0, PR v0 → ∀ g w u, Rep g s w v0 u → Rep g s w v u) : OraOK Tryd.prog f o := by
  intro args s v s' hv
  obtain ⟨rfl, hp, PR, ⟨out, s1, out', e1, e2, e3⟩, hrep⟩ := h _ _ _ _ hv
  cases out' with
  | pan x => exact e3.elim
  | ret v0 =>
    have hcall : callA (run md pfs) md true s' f args = some (.ret v0, s') := by simp [callA, hmd, hp, purify_all s' hp, e1, e2, frz_all s' hp]
    have hS := run_sound (md := md) hm pfsOK
    refine ⟨(hS _ _ _ _ _ e1).1, fun g w vs hI hr => ?_⟩
    obtain ⟨_, hcalls⟩ := callA_sound hS hcall hI hr
    refine hcalls.mono ?_
    rintro e w' ⟨g', h1, h2, h3, _⟩
    cases e with
    | returned u => exact ⟨g', h1, h2, hrep _ e3 _ _ _ h3⟩
    | _ => exact h3.elim
theorem lis_uniq : ∀ {l m : List Cl} {al : List AV}, LIs ClIs l al → LIs ClIs m al → l = m
  | [], [], _, _, _ => rfl
  | [], _ :: _, [], _, h => by simp [LIs] at h
  | [], _ :: _, _ :: _, h, _ => by simp [LIs] at h
  | _ :: _, [], [], h, _ => by simp [LIs] at h
  | _ :: _, [], _ :: _, _, h => by simp [LIs] at h
  | _ :: _, _ :: _, [], h, _ => by simp [LIs] at h
  | x :: l, y :: m, a :: al, h, k => by
    simp only [LIs] at h k
    have hrow : ∀ {l m : List (List Int)} {al : List AV}, LIs RowIs l al → LIs RowIs m al → l = m := by
      intro l
      induction l with
      | nil => intro m al h k; cases al <;> cases m <;> first | rfl | simp [LIs] at h k
      | cons r l ih =>
        intro m al h k
        cases al with
        | nil => simp [LIs] at h
        | cons a al =>
          cases m with
          | nil => simp [LIs] at k
          | cons r' m =>
            simp only [LIs] at h k
            obtain ⟨t, rfl, _⟩ := h.1.of
            obtain ⟨t', e, _⟩ := k.1.of
            simp only [AV.sl.injEq] at e
            have hi : ∀ {a b : List Int}, ints a = ints b → a = b := by
              intro a
              induction a with
              | nil => intro b h; cases b with | nil => rfl | cons _ _ => simp [ints] at h
              | cons x a iha =>
                intro b h
                cases b with
                | nil => simp [ints] at h
                | cons y b =>
                  simp only [ints, List.map_cons, List.cons.injEq, AV.v.injEq, Value.int.injEq, true_and] at h
                  rw [h.1, iha h.2]
            rw [hi e.1, ih h.2 k.2]
    obtain ⟨bl, t, rfl, h1, _⟩ := h.1.of
    obtain ⟨bl', t', e, k1, _⟩ := k.1.of
    simp only [AV.agg.injEq, List.cons.injEq, AV.v.injEq, Value.int.injEq, true_and, AV.sl.injEq, and_true] at e
    obtain ⟨e1, e2, rfl, rfl⟩ := e
    have := hrow h1 k1
    rw [lis_uniq h.2 k.2]
    cases x; cases y
    simp only at e1 e2 this
    rw [e1, e2, this]
open Classical in
noncomputable def termO : List AV → ASt → Option (AV × ASt)
  | [.sl al t], s => if h : (t.pure = true ∧ al.length ≤ 1000) ∧ ∃ cs, LIs ClIs cs al then some (.tup [.bool (termL (Classical.choose h.2)).1, mkAV (termL (Classical.choose h.2)).2.1, .int (termL (Classical.choose h.2)).2.2], s) else none
  | _, _ => none
theorem termO_eq {cs : List Cl} {al : List AV} {t : Tl} {s : ASt} (h : LIs ClIs cs al) (ht : t.pure = true) (hl : al.length ≤ 1000) : termO [.sl al t] s = some (.tup [.bool (termL cs).1, mkAV (termL cs).2.1, .int (termL cs).2.2], s) := by
  have hc : (t.pure = true ∧ al.length ≤ 1000) ∧ ∃ cs, LIs ClIs cs al := ⟨⟨ht, hl⟩, cs, h⟩
  simp only [termO]
  rw [dif_pos hc, lis_uniq (Classical.choose_spec hc.2) h]
theorem term_ok : OraOK Tryd.prog 17 termO := told_ok rfl fun args s v s' hv => by
  unfold termO at hv
  split at hv
  · rename_i _ al t
    split at hv
    · rename_i hc
      simp only [Option.some.injEq, Prod.mk.injEq] at hv
      obtain ⟨rfl, rfl⟩ := hv
      obtain ⟨⟨ht, hl⟩, _⟩ := id hc
      have h := Classical.choose_spec hc.2
      generalize Classical.choose hc.2 = cs at h
      refine ⟨rfl, by simp [pvs_cons, pvs_nil, pv_sl, ht, clsPure h], _, pterm_ret h ht hl, ?_⟩
      rintro v0 ⟨x, rfl, hx⟩ g w u hu
      obtain ⟨cs', rfl, hr⟩ := hu.tup_inv
      obtain ⟨u0, cs', rfl, r0, hr⟩ := hr.cons_inv
      obtain ⟨u1, cs', rfl, r1, hr⟩ := hr.cons_inv
      obtain ⟨u2, cs', rfl, r2, hr⟩ := hr.cons_inv
      obtain rfl : cs' = [] := List.length_eq_zero_iff.1 hr.1.symm
      refine .tup _ rfl (RepL.cons r0 (RepL.cons ?_ (.one r2))).2
      obtain ⟨xl, xt, e, _⟩ := hx.of
      have hx' := hx
      rw [e] at r1
      obtain ⟨cs2, rfl, hr2⟩ := r1.agg_inv
      rw [e] at hx'
      have hm := cl_mk hx' hr2
      exact .agg _ hm.1 hm.2
    · simp at hv
  · simp at hv
def trueO : List AV → ASt → Option (AV × ASt)
  | [], s => some (.bool true, s)
  | _, _ => none
theorem true_ok : OraOK Tryd.prog 27 trueO := told_ok rfl fun args s v s' hv => by
  unfold trueO at hv
  split at hv
  · simp only [Option.some.injEq, Prod.mk.injEq] at hv
    obtain ⟨rfl, rfl⟩ := hv
    exact ⟨rfl, by simp [pvs_nil], _, d43_ret, fun v0 h g w u hu => by rw [← h]; exact hu⟩
  · simp at hv
def extL (a : List Int) (n : Nat) : List Int := a ++ List.replicate (n - a.length) 0
def argsL (cs : List Cl) : List Int := cs.foldl (fun a c => ((extL a ((mx c.f c.t).toNat + 1)).set c.t.toNat (c.m.length : Nat)).set c.f.toNat (colN c : Nat)) []
def bigC (c : Cl) : Bool := decide (c.f > 3) || decide (c.t > 3) || decide (c.m.length > 3) || decide (colN c > 3)
def fewV (cs : List Cl) : AV := if checkR cs = 0 ∧ cs.length ≤ 8 ∧ cs.any bigC = false then .tup [.sl (ints (argsL cs)) .al, .bool true] else .tup [.sl [] .nil, .bool false]
open Go Go.Proofs Go.Shelf Go.RowKit
abbrev iv (l : List Int) : List Value := l.map fun n => .int .i64 n
abbrev Limbs (N bm om : Nat) (x1 x2 x3 x4 : Value) (w : World) : Prop := w.cell? ⟨N, 0, none⟩ = some x1 ∧ w.cell? ⟨N, 1, none⟩ = some x2 ∧ w.cell? ⟨N, 2, none⟩ = some x3 ∧ w.cell? ⟨bm, om, none⟩ = some x4
theorem keepD {N bm om : Nat} {x1 x2 x3 x4 : Value} {w : World} (h : Limbs N bm om x1 x2 x3 x4 w) : w.drew.cell? ⟨N, 0, none⟩ = some x1 ∧ w.drew.cell? ⟨N, 1, none⟩ = some x2 ∧ w.drew.cell? ⟨N, 2, none⟩ = some x3 ∧ w.drew.cell? ⟨bm, om, none⟩ = some x4 := h
theorem keepS {N bm om g i : Nat} {x1 x2 x3 x4 v : Value} {w : World} (h : Limbs N bm om x1 x2 x3 x4 w) (h1 : g ≠ N) (h2 : g ≠ bm) : (w.setCell ⟨g, i, none⟩ v).cell? ⟨N, 0, none⟩ = some x1 ∧ (w.setCell ⟨g, i, none⟩ v).cell? ⟨N, 1, none⟩ = some x2 ∧ (w.setCell ⟨g, i, none⟩ v).cell? ⟨N, 2, none⟩ = some x3 ∧ (w.setCell ⟨g, i, none⟩ v).cell? ⟨bm, om, none⟩ = some x4 := by
  obtain ⟨a1, a2, a3, a4⟩ := h
  exact ⟨by rw [World.cell?_setCell_far _ _ _ _ h1]; exact a1, by rw [World.cell?_setCell_far _ _ _ _ h1]; exact a2, by rw [World.cell?_setCell_far _ _ _ _ h1]; exact a3, by rw [World.cell?_setCell_far _ _ _ _ h2]; exact a4⟩
theorem row_at {w : World} {N n g cp i : Nat} {xs : List Value} (h : w.ownsRow N 3 1 (.slice (some ⟨g, 0, none⟩) n cp) n xs) (hi : i < n) : (∃ y, w.cell? ⟨g, i, none⟩ = some y) ∧ w.frozen? ⟨g, i, none⟩ = false := by
  obtain ⟨_, ⟨h, _⟩ | ⟨g', cp', cur, e, hg, hb, hn, hc, hz, ht⟩⟩ := h
  · cases h
  · cases e
    refine ⟨⟨cur[i]'(by omega), ?_⟩, by simp [World.frozen?, hb]⟩
    simp [World.cell?, hb]
theorem row_put {w : World} {N n g cp i : Nat} {x : Int} {xs : List Int} (h : w.ownsRow N 3 1 (.slice (some ⟨g, 0, none⟩) n cp) n (iv xs)) : (w.setCell ⟨g, i, none⟩ (.int .i64 x)).ownsRow N 3 1 (.slice (some ⟨g, 0, none⟩) n cp) n (iv (xs.set i x)) := by
  obtain ⟨hl, ⟨h, _⟩ | ⟨g', cp', cur, e, hg, hb, hn, hc, hz, ht⟩⟩ := h
  · cases h
  · cases e
    refine ⟨by simpa [iv] using hl, .inr ⟨g, cp, cur.setIfInBounds i (.int .i64 x), rfl, hg, ?_, hn, hc, by simpa using hz, ?_⟩⟩
    · simp [World.setCell, Array.getElem?_modify, hb]
    · rw [Array.toList_setIfInBounds, List.take_set, ht, iv, iv, List.map_set]
theorem argsL_succ {cs : List Cl} {k : Nat} {c : Cl} (h : cs[k]? = some c) : argsL (cs.take (k + 1)) = ((extL (argsL (cs.take k)) ((mx c.f c.t).toNat + 1)).set c.t.toNat (c.m.length : Nat)).set c.f.toNat (colN c : Nat) := by
  rw [List.take_add_one, h, argsL, Option.toList_some, List.foldl_append]; rfl
theorem any_succ {cs : List Cl} {k : Nat} {c : Cl} (h : cs[k]? = some c) (ha : (cs.take k).any bigC = false) (hc : ¬ bigC c = true) : (cs.take (k + 1)).any bigC = false := by
  rw [List.take_add_one, h, List.any_append, ha]; simpa using hc
set_option maxHeartbeats 4000000 in
set_option maxRecDepth 1000000 in
theorem few_walk (cs : List Cl) (ad : Option Addr) (b o cap : Nat) (w : World) (K : World → Prop)
    (ha : ∀ (k : Nat) (c : Cl), cs[k]? = some c → ad = some ⟨b, o, none⟩)
    (hmem : ∀ w2, K w2 → ∀ (k : Nat) (c : Cl), cs[k]? = some c → ∃ bm om capm pr capr, w2.cell? ⟨b, o + k * 3, none⟩ = some (.int .i64 c.f) ∧ w2.cell? ⟨b, o + k * 3 + 1, none⟩ = some (.int .i64 c.t) ∧ w2.cell? ⟨b, o + k * 3 + 2, none⟩ = some (.slice (some ⟨bm, om, none⟩) c.m.length capm) ∧ w2.cell? ⟨bm, om, none⟩ = some (.slice pr (colN c) capr))
    (h31 : Calls Tryd.prog 31 #[.slice ad cs.length cap] w fun e w2 => e = .returned (.int .i64 (checkR cs)) ∧ K w2) (hck : checkR cs = 0) (hln : cs.length ≤ 8) :
    Calls Tryd.prog 26 #[.slice ad cs.length cap] w fun e w' => ∃ w2, K w2 ∧ Below w2.heap.size w2 w' ∧ ((cs.any bigC = true ∧ e = .returned (.tuple #[.slice none 0 0, .bool false])) ∨ (cs.any bigC = false ∧ ∃ v, e = .returned (.tuple #[v, .bool true]) ∧ w'.ownsRow w2.heap.size 3 1 v (argsL cs).length (iv (argsL cs)))) := by
  have g1 : ((0 : Int) != 0) = false := rfl
  have g2 : decide ((cs.length : Int) > 8) = false := decide_eq_false (by omega)
  have g3 : (cs.length : Int) ≤ 8 := by omega
  go_enter Tryd.func26, Tryd.ntmps26
  go_wp2_with (go_at_call 31; refine h31.mono ?_; rintro e w2 ⟨rfl, hK⟩; rw [hck])
  clear h31
  replace hmem := hmem w2 hK
  have hB : Below w2.heap.size w2 w2 := Below.refl _ _
  go_loopw [4, 5] (fun v i wr => ∃ k : Nat, k ≤ cs.length ∧ i = .int .i64 k ∧ Below w2.heap.size w2 wr ∧ wr.ownsRow w2.heap.size 3 1 v (argsL (cs.take k)).length (iv (argsL (cs.take k))) ∧ (argsL (cs.take k)).length ≤ 4 ∧ (cs.take k).any bigC = false) (fun v i _ => cs.length - (match i with | .int _ z => z.toNat | _ => 0))
  case atStart =>
    exact ⟨0, by omega, rfl, hB, World.ownsRow_nil _ _ _ _, by simp [argsL], rfl⟩
  case round =>
    obtain ⟨k, hk, rfl, hBr, hI, hl4, hbig⟩ := hrel
    obtain ⟨W5, hW5⟩ : ∃ W5, W5 = wr := ⟨_, rfl⟩
    subst hW5
    have hsz := hBr.size
    by_cases hlt : k < cs.length
    · have hget : cs[k]? = some cs[k] := List.getElem?_eq_getElem hlt
      generalize cs[k] = c at hget
      obtain ⟨bm, om, capm, pr, capr, c1, c2, c3, c4⟩ := hmem k c hget
      obtain rfl := ha k c hget
      have hblk : ∀ {b' o' : Nat} {x : Value}, w2.cell? ⟨b', o', none⟩ = some x → W5.cell? ⟨b', o', none⟩ = some x := fun {b' o' x} h => by
        have hb : b' < w2.heap.size := World.block_lt_of_cell? _ _ h
        rw [← h]; exact World.cell?_of_block (w := w2) (a := ⟨b', o', none⟩) (hBr.block b' hb)
      have d1 := hblk c1
      have d2 := hblk c2
      have d3 := hblk c3
      have d4 := hblk c4
      have hk1 : (0 : Int) ≤ k := by omega
      have hk2 : (k : Int) < (cs.length : Int) := by omega
      have hfc : formB c = true := by
        obtain ⟨ar, hg⟩ := check_good hck
        exact (hg c (List.mem_of_getElem? hget)).form
      obtain ⟨f0, t0, m1, m16, n1, n16, _⟩ := formB_iff.1 hfc
      have e0 : (0 : Int) < (c.m.length : Int) := by omega
      have e00 : (0 : Nat) < c.m.length := by omega
      have hbm : bm < W5.heap.size := World.block_lt_of_cell? _ _ d4
      have d5 : (W5.alloc (Obj.cells #[.int .i64 c.f, .int .i64 c.t, .slice (some ⟨bm, om, none⟩) c.m.length capm] 33)).cell? ⟨bm, om, none⟩ = some (.slice pr (colN c) capr) := by
        rw [cell_alloc _ _ _ _ hbm]; exact d4
      by_cases hbc : bigC c = true
      · clear hmem ha
        by_cases e1 : c.f > 3
        · go_wp2
          exact bodyPost_ret (v := .tuple #[.slice none 0 0, .bool false]) (by simp [results, Tryd.results26, go_sem]) rfl ⟨w2, hK, by first | exact hBr.alloc hsz _ | exact (hBr.alloc hsz _).drew, by first | exact Or.inl ⟨List.any_eq_true.2 ⟨c, List.mem_of_getElem? hget, hbc⟩, rfl⟩ | exact Or.inl ⟨⟨c, List.mem_of_getElem? hget, hbc⟩, rfl⟩⟩
        by_cases e2 : c.t > 3
        · go_wp2
          exact bodyPost_ret (v := .tuple #[.slice none 0 0, .bool false]) (by simp [results, Tryd.results26, go_sem]) rfl ⟨w2, hK, by first | exact hBr.alloc hsz _ | exact (hBr.alloc hsz _).drew, by first | exact Or.inl ⟨List.any_eq_true.2 ⟨c, List.mem_of_getElem? hget, hbc⟩, rfl⟩ | exact Or.inl ⟨⟨c, List.mem_of_getElem? hget, hbc⟩, rfl⟩⟩
        by_cases e3 : (c.m.length : Int) > 3
        · go_wp2
          exact bodyPost_ret (v := .tuple #[.slice none 0 0, .bool false]) (by simp [results, Tryd.results26, go_sem]) rfl ⟨w2, hK, by first | exact hBr.alloc hsz _ | exact (hBr.alloc hsz _).drew, by first | exact Or.inl ⟨List.any_eq_true.2 ⟨c, List.mem_of_getElem? hget, hbc⟩, rfl⟩ | exact Or.inl ⟨⟨c, List.mem_of_getElem? hget, hbc⟩, rfl⟩⟩
        have e4 : (colN c : Int) > 3 := by
          unfold bigC at hbc
          simp only [Bool.or_eq_true, decide_eq_true_eq] at hbc
          omega
        go_wp2
        exact bodyPost_ret (v := .tuple #[.slice none 0 0, .bool false]) (by simp [results, Tryd.results26, go_sem]) rfl ⟨w2, hK, by first | exact hBr.alloc hsz _ | exact (hBr.alloc hsz _).drew, by first | exact Or.inl ⟨List.any_eq_true.2 ⟨c, List.mem_of_getElem? hget, hbc⟩, rfl⟩ | exact Or.inl ⟨⟨c, List.mem_of_getElem? hget, hbc⟩, rfl⟩⟩
      · have hbc' : c.f ≤ 3 ∧ c.t ≤ 3 ∧ c.m.length ≤ 3 ∧ colN c ≤ 3 := by
          unfold bigC at hbc
          simp only [Bool.or_eq_true, decide_eq_true_eq, not_or] at hbc
          omega
        have e1 : ¬ c.f > 3 := by omega
        have e2 : ¬ c.t > 3 := by omega
        have e3 : ¬ (c.m.length : Int) > 3 := by omega
        have e4 : ¬ (colN c : Int) > 3 := by omega
        go_wp2
        generalize hA : argsL (cs.take k) = A at *
        go_loopw [4] (fun v wq => ∃ j : Nat, wq.ownsRow w2.heap.size 3 1 v (A.length + j) (iv (A ++ List.replicate j 0)) ∧ (j = 0 ∨ ((A.length + j : Nat) : Int) ≤ mx c.f c.t + 1) ∧ Below w2.heap.size w2 wq ∧ W5.heap.size < wq.heap.size ∧ wq.heap[W5.heap.size]? = some (.cells #[.int .i64 c.f, .int .i64 c.t, .slice (some ⟨bm, om, none⟩) c.m.length capm] 33 (0, 0)) ∧ v.ownBlock ≠ some W5.heap.size) (fun v _ => 20 - (match v with | .slice _ n _ => n | _ => 0))
        case atStart =>
          refine ⟨0, ?_, .inl rfl, hBr.alloc hsz _, by simp, Array.getElem?_push_size, ?_⟩
          · simpa using hI.alloc _
          · intro e
            have := (hI.lt _ e).2
            omega
        case round =>
          obtain ⟨j, hJ, hj, hBq, hsq, hcq, hno⟩ := hrel
          obtain ⟨x, cap', hu⟩ : ∃ x cap', u4 = .slice x (A.length + j) cap' := by
            rcases hJ.2 with ⟨h, h'⟩ | ⟨g, cp, cur, h, _⟩
            · exact ⟨none, 0, by rw [h, h']⟩
            · exact ⟨_, _, h⟩
          subst hu
          have z1 : wr.cell? ⟨W5.heap.size, 0, none⟩ = some (.int .i64 c.f) := by simp [World.cell?, hcq]
          have z2 : wr.cell? ⟨W5.heap.size, 1, none⟩ = some (.int .i64 c.t) := by simp [World.cell?, hcq]
          obtain ⟨i0, hi, hz0, hz1, hz2⟩ := info_parts (P := Tryd.prog) (e := 3) (z := .int .i64 0) (size := 1) (bytes := 8) (by kernel_rfl)
          have hM : (c.f < c.t ∧ mx c.f c.t = c.t) ∨ (¬ c.f < c.t ∧ mx c.f c.t = c.f) := by
            unfold mx
            by_cases h : c.f < c.t
            · exact .inl ⟨h, if_pos h⟩
            · exact .inr ⟨h, if_neg h⟩
          have hM4 : mx c.f c.t ≤ 3 := by rcases hM with ⟨_, h⟩ | ⟨_, h⟩ <;> omega
          rcases hM with ⟨hft, hM⟩ | ⟨hft, hM⟩
          all_goals
            have hmt : c.t ≤ mx c.f c.t ∧ c.f ≤ mx c.f c.t := by rw [hM]; omega
            by_cases hle : ((A.length + j : Nat) : Int) ≤ mx c.f c.t
            · have hle' := hle
              rw [hM] at hle'
              go_wp2_with (at_builtin; go_loud (refine wpList_append_own_at _ rfl _ _ 52 rfl w2.heap.size 3 i0 (.int .i64 0) 1 8 Tryd.underlying52 hi hz0 hz1 hz2 rfl (by decide) _ _ _ rfl (hJ.alloc _) ⟨wr.heap.size, 0, none⟩ 1 1 [.int .i64 0] rfl rfl ?_ ?_ ?_ ?_ ?_ ?_))
              any_goals first
                | (intro j u hj; match j, hj with | 0, hj => simp at hj; subst hj; simp [Addr.add]; done)
                | (intro u hu; simp at hu; subst hu; rfl)
                | (unfold maxLen; omega)
                | omega
                | (simp; omega)
                | exact (rfl : (Value.int .i64 0).oneCell' = true)
              intro v4 w4 hI4 hgrow _ hob
              have e3 : iv (A ++ List.replicate j 0) ++ [Value.int .i64 0] = iv (A ++ List.replicate (j + 1) 0) := by
                rw [List.replicate_succ', ← List.append_assoc, iv, iv, List.map_append (l₂ := [0])]; rfl
              replace hI4 : w4.ownsRow w2.heap.size 3 1 v4 (A.length + j + 1) (iv (A ++ List.replicate (j + 1) 0)) := by
                rw [← e3]; simpa [iv, List.map_append] using hI4
              obtain ⟨x4, cap4, hx4⟩ : ∃ x4 cap4, v4 = .slice x4 (A.length + j + 1) cap4 := by
                rcases hI4.2 with ⟨_, h'⟩ | ⟨g, cp, cur, h, _⟩
                · omega
                · exact ⟨_, _, h⟩
              subst hx4
              have hB4 : Below w2.heap.size w2 w4 := (hBq.alloc (by omega) _).grown hgrow (by simp; omega) (fun k hk => (hJ.lt k hk).1)
              have hgs := hgrow.size
              have hcb : w4.heap[W5.heap.size]? = some (.cells #[.int .i64 c.f, .int .i64 c.t, .slice (some ⟨bm, om, none⟩) c.m.length capm] 33 (0, 0)) := by
                rw [hgrow.block _ (by simp; omega) (fun e => hno e.symm), Below.heap_alloc _ _ _ hsq]; exact hcq
              have hno4 : (Value.slice x4 (A.length + j + 1) cap4).ownBlock ≠ some W5.heap.size := fun e => by
                rcases hob with h | h
                · exact hno (h.symm.trans e)
                · rw [h] at e; simp at e; omega
              go_wp2
              go_roundw
              case rel => exact ⟨j + 1, hI4, .inr (by omega), hB4, by simp at hgs; omega, hcb, hno4⟩
              case measure => simp; omega
            · have hle' := hle
              rw [hM] at hle'
              go_wp2
              obtain ⟨g, cp, cur, hx, hg0, hgh, hnc, hcm, hcz, htk⟩ : ∃ g cp cur, Value.slice x (A.length + j) cap' = .slice (some ⟨g, 0, none⟩) (A.length + j) cp ∧ w2.heap.size ≤ g ∧ wr.heap[g]? = some (.cells cur 3 (0, 0)) ∧ A.length + j ≤ cp ∧ cp ≤ maxLen ∧ cur.size = cp * 1 ∧ cur.toList.take ((A.length + j) * 1) = iv (A ++ List.replicate j 0) := by
                rcases hJ.2 with ⟨_, h⟩ | h
                · exfalso; omega
                · exact h
              cases hx
              have hgn : g ≠ W5.heap.size := fun e => hno (by rw [e]; rfl)
              have z3 : wr.cell? ⟨W5.heap.size, 2, none⟩ = some (.slice (some ⟨bm, om, none⟩) c.m.length capm) := by simp [World.cell?, hcq]
              have z4 : wr.cell? ⟨bm, om, none⟩ = some (.slice pr (colN c) capr) := by
                rw [← c4]; exact World.cell?_of_block (w := w2) (a := ⟨bm, om, none⟩) (hBq.block bm (World.block_lt_of_cell? _ _ c4))
              have hfr : ∀ i : Nat, wr.frozen? ⟨g, i, none⟩ = false := fun i => by simp [World.frozen?, hgh]
              have hgb : g ≠ bm := by have hb : bm < w2.heap.size := World.block_lt_of_cell? _ _ c4; omega
              have hB1 : Below w2.heap.size w2 wr := hBq
              have hJ1 : wr.ownsRow w2.heap.size 3 1 (.slice (some ⟨g, 0, none⟩) (A.length + j) cap') (A.length + j) (iv (A ++ List.replicate j 0)) := hJ
              have hjn : A.length + j ≤ 4 := by omega
              have hje : extL A ((mx c.f c.t).toNat + 1) = A ++ List.replicate j 0 := by
                rw [extL]; congr 2; omega
              have hct1 : (0 : Int) ≤ c.t := t0
              have hct2 : c.t < ((A.length + j : Nat) : Int) := by omega
              have hcf1 : (0 : Int) ≤ c.f := f0
              have hcf2 : c.f < ((A.length + j : Nat) : Int) := by omega
              rw [← hje] at hJ1
              clear hmem ha hblk c1 c2 c3 c4 d1 d2 d3 d4 d5 hB hBr hJ hj hBq hfr htk hje
              generalize hn : A.length + j = n at *
              obtain ⟨⟨y1, hy1⟩, hf1⟩ := row_at hJ1 (i := c.t.toNat) (by omega)
              have hJ2 := row_put (i := c.t.toNat) (x := (c.m.length : Nat)) hJ1
              obtain ⟨⟨y2, hy2⟩, hf2⟩ := row_at hJ2 (i := c.f.toNat) (by omega)
              have hJ3 := row_put (i := c.f.toNat) (x := (colN c : Nat)) hJ2
              rw [← hA, ← argsL_succ hget] at hJ3
              go_region_held3 (fun w' => w'.cell? ⟨W5.heap.size, 0, none⟩ = some (.int .i64 c.f) ∧ w'.cell? ⟨W5.heap.size, 1, none⟩ = some (.int .i64 c.t) ∧ w'.cell? ⟨W5.heap.size, 2, none⟩ = some (.slice (some ⟨bm, om, none⟩) c.m.length capm) ∧ w'.cell? ⟨bm, om, none⟩ = some (.slice pr (colN c) capr)) (first | (with_reducible exact keepD ⟨z1, z2, z3, z4⟩) | (with_reducible exact keepD (keepS ⟨z1, z2, z3, z4⟩ hgn hgb)) | (with_reducible exact keepD (keepS (keepS ⟨z1, z2, z3, z4⟩ hgn hgb) hgn hgb))) (fail)
              any_goals
                go_wp2
                go_roundw
                case rel =>
                  have hl : (argsL (cs.take (k + 1))).length = n := by
                    have := hJ3.1
                    simpa [iv] using this
                  refine ⟨k + 1, by omega, rfl, ?_, by rw [hl]; exact hJ3, by omega, any_succ hget hbig hbc⟩
                  exact (((hB1.setCell hg0 _).setCell hg0 _).drew)
                case measure => simp; omega
    · obtain rfl : k = cs.length := by omega
      rw [List.take_length] at hI hl4 hbig
      go_wp2
      refine bodyPost_ret (v := .tuple #[_, .bool true]) (by simp [results, Tryd.results26, go_sem]) rfl ⟨w2, hK, hBr, .inr ⟨hbig, _, rfl, hI⟩⟩
set_option maxHeartbeats 4000000 in
set_option maxRecDepth 1000000 in
theorem few_no (n : Nat) (ad : Option Addr) (cap : Nat) (w : World) (K : World → Prop) (r : Int) (hn : n < 140737488355328)
    (h31 : Calls Tryd.prog 31 #[.slice ad n cap] w fun e w2 => e = .returned (.int .i64 r) ∧ K w2) (h : r ≠ 0 ∨ 8 < n) :
    Calls Tryd.prog 26 #[.slice ad n cap] w fun e w' => ∃ w2, K w2 ∧ Below w2.heap.size w2 w' ∧ e = .returned (.tuple #[.slice none 0 0, .bool false]) := by
  by_cases hr : r = 0
  · subst hr
    have g1 : ((0 : Int) != 0) = false := rfl
    have g2 : decide ((n : Int) > 8) = true := decide_eq_true (by omega)
    have g3 : (n : Int) > 8 := by omega
    clear h
    go_enter Tryd.func26, Tryd.ntmps26
    go_wp2_with (go_at_call 31; refine h31.mono ?_; rintro e w2 ⟨rfl, hK⟩)
    clear h31
    have hB : Below w2.heap.size w2 w2 := Below.refl _ _
    exact bodyPost_ret (v := .tuple #[.slice none 0 0, .bool false]) (by simp [results, Tryd.results26, go_sem]) rfl ⟨w2, hK, by first | exact hB | exact hB.drew, rfl⟩
  · have g1 : (r != 0) = true := by simpa using hr
    clear h
    go_enter Tryd.func26, Tryd.ntmps26
    go_wp2_with (go_at_call 31; refine h31.mono ?_; rintro e w2 ⟨rfl, hK⟩)
    clear h31
    have hB : Below w2.heap.size w2 w2 := Below.refl _ _
    exact bodyPost_ret (v := .tuple #[.slice none 0 0, .bool false]) (by simp [results, Tryd.results26, go_sem]) rfl ⟨w2, hK, by first | exact hB | exact hB.drew, rfl⟩
open Classical in
noncomputable def few26O : List AV → ASt → Option (AV × ASt)
  | [.sl al t], s => if h : (t.pure = true ∧ al.length ≤ 3518437208780) ∧ ∃ cs, LIs ClIs cs al then some (fewV (Classical.choose h.2), s) else none
  | _, _ => none
theorem few26O_eq {cs : List Cl} {al : List AV} {t : Tl} {s : ASt} (h : LIs ClIs cs al) (ht : t.pure = true) (hl : al.length ≤ 3518437208780) : few26O [.sl al t] s = some (fewV cs, s) := by
  have hc : (t.pure = true ∧ al.length ≤ 3518437208780) ∧ ∃ cs, LIs ClIs cs al := ⟨⟨ht, hl⟩, cs, h⟩
  simp only [few26O]
  rw [dif_pos hc, lis_uniq (Classical.choose_spec hc.2) h]
theorem flat_cl : ∀ {cs : List Cl} {al : List AV}, LIs ClIs cs al → ∀ (k : Nat) (c : Cl), cs[k]? = some c → ∃ rl t, (flat al)[k * 3]? = some (.int c.f) ∧ (flat al)[k * 3 + 1]? = some (.int c.t) ∧ (flat al)[k * 3 + 2]? = some (.sl rl t) ∧ LIs RowIs c.m rl
  | [], _, _, k, c, hk => by simp at hk
  | _ :: _, [], h, _, _, _ => by simp [LIs] at h
  | d :: cs, a :: al, h, k, c, hk => by
    simp only [LIs] at h
    obtain ⟨rl, t, rfl, h1, _⟩ := h.1.of
    rw [flat_cons]
    have e : (AV.agg [.int d.f, .int d.t, .sl rl t]).cells = [.int d.f, .int d.t, .sl rl t] := rfl
    rw [e]
    cases k with
    | zero =>
      simp only [List.getElem?_cons_zero, Option.some.injEq] at hk; subst hk
      exact ⟨rl, t, rfl, rfl, rfl, h1⟩
    | succ k =>
      obtain ⟨rl', t', k1, k2, k3, k4⟩ := flat_cl h.2 k c (by simpa using hk)
      have e3 : (k + 1) * 3 = k * 3 + 3 := by omega
      rw [e3]
      exact ⟨rl', t', k1, k2, k3, k4⟩
theorem flat_rows0 {m : List (List Int)} {rl : List AV} (h : LIs RowIs m rl) (hm : 0 < m.length) : ∃ t, (flat rl)[0]? = some (.sl (ints (m.headD [])) t) := by
  cases m with
  | nil => simp at hm
  | cons r m =>
    cases rl with
    | nil => simp [LIs] at h
    | cons a rl =>
      simp only [LIs] at h
      obtain ⟨t, rfl, _⟩ := h.1.of
      exact ⟨t, by rw [flat_cons]; rfl⟩
theorem mem_few {g : Gh} {s : ASt} {w : World} {cs : List Cl} {al : List AV} {b o : Nat} {vs : List Value} (h : LIs ClIs cs al) (hck : checkR cs = 0) (hL : RepL g s w (flat al) vs) (hS : ∀ k c, vs[k]? = some c → Sealed g s w b (o + k) c) (k : Nat) (c : Cl) (hk : cs[k]? = some c) :
    ∃ bm om capm pr capr, w.cell? ⟨b, o + k * 3, none⟩ = some (.int .i64 c.f) ∧ w.cell? ⟨b, o + k * 3 + 1, none⟩ = some (.int .i64 c.t) ∧ w.cell? ⟨b, o + k * 3 + 2, none⟩ = some (.slice (some ⟨bm, om, none⟩) c.m.length capm) ∧ w.cell? ⟨bm, om, none⟩ = some (.slice pr (colN c) capr) := by
  obtain ⟨rl, t, h1, h2, h3, h4⟩ := flat_cl h k c hk
  have hfc : formB c = true := by
    obtain ⟨ar, hg⟩ := check_good hck
    exact (hg c (List.mem_of_getElem? hk)).form
  obtain ⟨_, _, m1, _⟩ := formB_iff.1 hfc
  obtain ⟨u1, e1, r1⟩ := hL.get h1
  obtain ⟨u2, e2, r2⟩ := hL.get h2
  obtain ⟨u3, e3, r3⟩ := hL.get h3
  have c1 := (hS _ _ e1).1
  have c2 := (hS _ _ e2).1
  have c3 := (hS _ _ e3).1
  rw [r1.v_inv] at c1
  rw [r2.v_inv] at c2
  obtain ⟨x, capm, bm, om, ws, rfl, q1, q2, q3, _⟩ := r3.sl_inv
  obtain ⟨t0, h0⟩ := flat_rows0 h4 (by omega)
  have hne : rl ≠ [] := fun e => by subst e; have := h4.len; simp at this; omega
  obtain rfl := q3 hne
  obtain ⟨u0, e0, r0⟩ := q1.get h0
  have c0 := (q2 _ _ e0).1
  obtain ⟨pr, capr, _, _, _, rfl, _⟩ := r0.sl_inv
  rw [ints_len] at c0
  rw [h4.len] at c3
  exact ⟨bm, om, capm, pr, capr, c1, by rw [Nat.add_assoc]; exact c2, by rw [Nat.add_assoc]; exact c3, c0⟩
theorem few_ok : OraOK Tryd.prog 26 few26O := by
  intro args s v s' hv
  refine ⟨⟨_, _, Tryd.func26, rfl, by kernel_rfl⟩, fun g w vs hI hr => ?_⟩
  unfold few26O at hv
  split at hv
  · rename_i al t
    split at hv
    · rename_i hc
      have ht := hc.1.1
      have hl := hc.1.2
      have hcs := Classical.choose_spec hc.2
      generalize Classical.choose hc.2 = cs at hv hcs
      simp only [Option.some.injEq, Prod.mk.injEq] at hv
      obtain ⟨rfl, rfl⟩ := hv
      obtain ⟨u, us, rfl, hu, hnil⟩ := hr.cons_inv
      obtain rfl : us = [] := List.length_eq_zero_iff.1 hnil.1.symm
      obtain ⟨x, cap, b, o, ws, rfl, q1, q2, q3, q4, _⟩ := hu.sl_inv
      have hln := hcs.len
      have h31 : Calls Tryd.prog 31 #[.slice x cs.length cap] w fun e w2 => e = .returned (.int .i64 (checkR cs)) ∧ (Inv g s w2 ∧ Ext g s w g s w2) := by
        rw [← hln]
        refine (pure_calls (run_sound hm pfsOK) (rcheck_big hcs (by omega)) rfl (by simp [pvs_cons, pvs_nil, pv_sl, ht, clsPure hcs]) hI hr).mono fun e w2 ⟨v, u, hv, he, hI2, hE2, hR⟩ => ?_
        subst hv he
        exact ⟨by rw [hR.v_inv], hI2, hE2⟩
      have key : ∀ {e : Ending} {w' : World}, (∃ w2, (Inv g s w2 ∧ Ext g s w g s w2) ∧ Below w2.heap.size w2 w' ∧ ∃ u, e = .returned u ∧ (Inv g s w' → Rep g s w' (fewV cs) u)) → ∃ g', Inv g' s w' ∧ Ext g s w g' s w' ∧ OutRep g' s w' (.ret (fewV cs)) e := by
        rintro e w' ⟨w2, ⟨hI2, hE2⟩, hbl, u, rfl, hR⟩
        have hE : Ext g s w2 g s w' := Ext.same hbl.size hbl.block hbl.os hbl.tape ⟨hbl.output, fun d => d.elim⟩
        have hI' := hI2.keep hE fun b h => hbl.block b (hI2.has_lt h)
        exact ⟨g, hI', hE2.trans hE, hR hI'⟩
      have hno : ∀ w', Rep g s w' (.tup [.sl [] .nil, .bool false]) (.tuple #[.slice none 0 0, .bool false]) := fun w' =>
        .tup [_, _] rfl fun k a c h1 h2 => by
          match k, h1, h2 with
          | 0, h1, h2 => cases h1; cases h2; exact .sl (b := 0) (o := 0) [] rfl (fun k a c h => by simp [flat] at h) (fun k c h => by simp at h) (fun h => absurd rfl h) rfl (Nat.zero_le _) ⟨rfl, rfl, rfl⟩
          | 1, h1, h2 => cases h1; cases h2; exact .v rfl
          | k + 2, h1, h2 => simp at h1
      show Calls Tryd.prog 26 #[.slice x al.length cap] w _
      rw [hln]
      by_cases hsm : checkR cs = 0 ∧ cs.length ≤ 8
      · obtain ⟨hck, h8⟩ := hsm
        refine (few_walk cs x b o cap w _ (fun k c hk => q3 fun e => ?_) (fun w2 hK k c hk => mem_few hcs hck (q1.mono hK.2) (fun k c h => (q2 k c h).mono hK.2) k c hk) h31 hck h8).mono fun e w' ⟨w2, hK, hB, h⟩ => key ⟨w2, hK, hB, ?_⟩
        · subst e; have := (List.getElem?_eq_some_iff.1 hk).1; simp at hln; omega
        · rcases h with ⟨hb, rfl⟩ | ⟨hb, v, rfl, hrow⟩
          · refine ⟨_, rfl, fun _ => ?_⟩
            unfold fewV; rw [if_neg (by rw [hb]; simp)]
            exact hno w'
          · refine ⟨_, rfl, fun hI' => ?_⟩
            unfold fewV; rw [if_pos ⟨hck, h8, hb⟩]
            refine .tup [_, _] rfl fun k a c h1 h2 => ?_
            match k, h1, h2 with
            | 0, h1, h2 =>
              cases h1; cases h2
              obtain ⟨hl1, ⟨rfl, hz⟩ | ⟨D, cp, cur, rfl, hD, hDh, hn, hcm, hcz, htk⟩⟩ := hrow
              · have e0 : argsL cs = [] := List.length_eq_zero_iff.1 hz
                rw [e0]
                exact .sl (b := 0) (o := 0) [] rfl (fun k a c h => by simp [flat, ints] at h) (fun k c h => by simp at h) (fun h => absurd rfl h) rfl (Nat.zero_le _) (fun h => absurd rfl h)
              · have hnw : ∀ o, ¬ g.wr s D o := fun o hw => by
                  rcases hw with ⟨i, l, h1, _⟩ | ⟨id, q, h1, h2, _⟩ | h1
                  · have := (hK.1.lt i D h1).2; omega
                  · have := hK.1.has_lt (.inr ⟨id, q, h1, h2⟩); omega
                  · have := hK.1.fblt D o h1; omega
                refine .sl (b := D) (o := 0) (iv (argsL cs)) (by rw [flat_ints]; simp [ints, iv]) (fun k a c h1 h2 => ?_) (fun k c hk => ⟨?_, hnw _⟩) (fun _ => rfl) (by simp [ints]) hn (fun _ ad h => by cases h; exact hnw)
                · rw [flat_ints] at h1
                  simp only [ints, iv, List.getElem?_map, Option.map_eq_some_iff] at h1 h2
                  obtain ⟨n1, e1, rfl⟩ := h1
                  obtain ⟨n2, e2, rfl⟩ := h2
                  rw [e1] at e2; cases e2
                  exact .v rfl
                · rw [← htk, List.getElem?_take] at hk
                  split at hk
                  · simp only [World.cell?, hDh, Nat.zero_add]
                    simpa using hk
                  · simp at hk
            | 1, h1, h2 => cases h1; cases h2; exact .v rfl
            | k + 2, h1, h2 => simp at h1
      · refine (few_no cs.length x cap w _ (checkR cs) (by omega) h31 (by omega)).mono fun e w' ⟨w2, hK, hB, h⟩ => key ⟨w2, hK, hB, _, h, fun _ => ?_⟩
        unfold fewV; rw [if_neg fun h => hsm ⟨h.1, h.2.1⟩]
        exact hno w'
    · simp at hv
  · simp at hv
end Go.Proofs.Eng
