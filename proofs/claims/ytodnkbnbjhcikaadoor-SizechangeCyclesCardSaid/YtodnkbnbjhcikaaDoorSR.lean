/- The sort of the calls that are found. No conditions beyond those in the theorems. -/
import Derived.Test.YtodnkbnbjhcikaaDoorCX
import Derived.Lib.QuietBelow
import Derived.Shelf.SlSortCmp.NoneTotal
set_option linter.all false
set_option linter.deprecated false
set_option linter.unnecessarySimpa false
set_option linter.unusedVariables false
set_option linter.unusedSimpArgs false
set_option linter.defProp false
namespace Go.Proofs.Eng
open Go Go.Proofs Go.RowKit Go.Sort
set_option maxRecDepth 100000
abbrev GB (blk : Nat) : Gh := Gh.empty fun b _ => b = blk
theorem GB_wr {blk b o : Nat} : (GB blk).wr ⟨[], []⟩ b o ↔ b = blk := by simp [Gh.wr, Gh.empty]
theorem fast_al {g : Gh} {s : ASt} {l : List AV} {n cap : Nat} {a : Option Addr} {t : Tl} (hf : t.fast = true) (hn : l.length = n) (h : TlOK g s n (flat l).length a cap t) : AlOK g s (flat l).length a := by
  cases t with
  | al => exact h
  | cap c => exact h.2
  | nil =>
    intro h0
    obtain ⟨_, h1, _⟩ := h
    rw [List.length_eq_zero_iff.1 (hn.trans h1)] at h0
    exact absurd rfl h0
  | _ => cases hf
theorem fast_ok {g g' : Gh} {s s' : ASt} {n fl cap : Nat} {a : Option Addr} {t : Tl} (hf : t.fast = true) (h : TlOK g s n fl a cap t) (k : AlOK g' s' fl a) : TlOK g' s' n fl a cap t := by
  cases t with
  | al => exact k
  | cap c => exact ⟨h.1, k⟩
  | nil => exact h
  | _ => cases hf
def Same (blk : Nat) (w W : World) : Prop := ∀ b, b < w.heap.size → b ≠ blk → W.heap[b]? = w.heap[b]?
theorem sl_far {g G : Gh} {s S : ASt} {w W : World} {blk o0 : Nat} (hG : ∀ b o, b ≠ blk → ¬ g.wr s b o → ¬ G.wr S b o) (hb : g.wr s blk o0) (hs : Same blk w W) {l : List AV} {t : Tl} {u : Value} (hf : t.fast = true) (h : Rep g s w (.sl l t) u) (hel : ∀ a c, a ∈ flat l → Rep g s w a c → Rep G S W a c) : Rep G S W (.sl l t) u := by
  obtain ⟨x, cap, b, o, cs, rfl, h1, h2, h3, h4, h5⟩ := h.sl_inv
  have hal := fast_al hf rfl h5
  have hne : l ≠ [] → (flat l).length ≠ 0 → b ≠ blk := fun hl h0 e => by
    have := hal h0 _ (h3 hl) o0
    rw [← e] at hb
    exact this hb
  have hcs : ∀ k c, cs[k]? = some c → b ≠ blk := fun k c hk => by
    have hk' := (List.getElem?_eq_some_iff.1 hk).1
    have h0 : (flat l).length ≠ 0 := by rw [h1.1]; omega
    exact hne (fun e => h0 (by rw [e]; rfl)) h0
  refine .sl cs h1.1 (fun k a c ha hc => hel a c (List.mem_of_getElem? ha) (h1.2 k a c ha hc)) (fun k c hk => ⟨?_, hG _ _ (hcs k c hk) (h2 k c hk).2⟩) h3 rfl h4 (fast_ok hf h5 fun h0 ad had o' hw => ?_)
  · rw [← (h2 k c hk).1]
    exact World.cell?_of_block (w := w) (a := ⟨b, o + k, none⟩) (hs b (h2 k c hk).lt (hcs k c hk))
  · have hl : l ≠ [] := fun e => h0 (by rw [e]; rfl)
    rw [h3 hl] at had; cases had
    exact hG _ _ (hne hl h0) (hal h0 _ (h3 hl) o') hw
theorem row_far {g G : Gh} {s S : ASt} {w W : World} {blk o0 : Nat} (hG : ∀ b o, b ≠ blk → ¬ g.wr s b o → ¬ G.wr S b o) (hb : g.wr s blk o0) (hs : Same blk w W) {r : List Int} {a : AV} (hr : RowIs r a) {u : Value} (h : Rep g s w a u) : Rep G S W a u := by
  obtain ⟨t, rfl, hf, _⟩ := hr.of
  refine sl_far hG hb hs hf h fun a c ha hc => ?_
  rw [flat_ints] at ha
  obtain ⟨n, _, rfl⟩ := List.mem_map.1 ha
  rw [hc.v_inv]
  exact .v rfl
theorem LIs.memB {α : Type} {R : α → AV → Prop} : ∀ {l : List α} {al : List AV}, LIs R l al → ∀ a ∈ al, ∃ x, R x a
  | [], [], _, x, hx => by simp at hx
  | [], _ :: _, h, _, _ => by simp [LIs] at h
  | _ :: _, [], _, _, hx => by simp at hx
  | y :: l, a :: al, h, x, hx => by
    simp only [LIs] at h
    rcases List.mem_cons.1 hx with rfl | hx
    · exact ⟨y, h.1⟩
    · exact LIs.memB h.2 x hx
theorem flat_rows : ∀ {m : List (List Int)} {al : List AV}, LIs RowIs m al → flat al = al
  | [], [], _ => rfl
  | [], _ :: _, h => by simp [LIs] at h
  | _ :: _, [], h => by simp [LIs] at h
  | r :: m, a :: al, h => by
    simp only [LIs] at h
    obtain ⟨t, rfl, _⟩ := h.1.of
    rw [flat_cons, flat_rows h.2]; rfl
theorem cl_far {g G : Gh} {s S : ASt} {w W : World} {blk o0 : Nat} (hG : ∀ b o, b ≠ blk → ¬ g.wr s b o → ¬ G.wr S b o) (hb : g.wr s blk o0) (hs : Same blk w W) {c : Cl} {a : AV} (hc : ClIs c a) {vs : List Value} (h : RepL g s w a.cells vs) : RepL G S W a.cells vs := by
  obtain ⟨al, t, rfl, h1, h2, _⟩ := hc.of
  refine ⟨h.1, fun k a v ha hv => ?_⟩
  have hr := h.2 k a v ha hv
  match k, ha with
  | 0, ha => simp [AV.cells] at ha; subst ha; rw [hr.v_inv]; exact .v rfl
  | 1, ha => simp [AV.cells] at ha; subst ha; rw [hr.v_inv]; exact .v rfl
  | 2, ha =>
    simp [AV.cells] at ha; subst ha
    refine sl_far hG hb hs h2 hr fun a c hm hc => ?_
    rw [flat_rows h1] at hm
    obtain ⟨r, hra⟩ := LIs.memB h1 a hm
    exact row_far hG hb hs hra hc
  | k + 3, ha => simp [AV.cells] at ha
structure El (g : Gh) (s : ASt) (w : World) where
  c : Cl
  a : AV
  v : List Value
  sm : Sm c
  cl : ClIs c a
  rep : RepL g s w a.cells v
end Go.Proofs.Eng
namespace Go.Proofs.Eng
open Go Go.Proofs Go.RowKit Go.Sort
set_option maxRecDepth 100000
theorem sort_same {α : Type} [Inhabited α] (enc : α → List Value) (k : Nat) (w : World) (blk off m : Nat) (dk : Array α) (os : Array Obj) : Same blk w (sortWorldK enc k w blk off m dk os) ∧ w.heap.size ≤ (sortWorldK enc k w blk off m dk os).heap.size := by
  refine ⟨fun b hb hne => ?_, size_sortWorldK_c enc k w blk off m dk os⟩
  unfold sortWorldK
  rw [heap_grow_old _ _ (by rw [size_putRowK]; exact hb)]
  unfold putRowK putRow
  simp [mapBlock, Sort.ahead, Array.getElem?_modify, hne.symm]
theorem cmp_lays {g : Gh} {s : ASt} {w : World} (hI : Inv g s w) {blk o0 : Nat} (hb : g.wr s blk o0) (hkb : ¬ KB blk) (hblk : blk < w.heap.size) [Inhabited (El g s w)] (n : Nat) : CmpLays Tryd.prog 47 #[] (fun x : El g s w => x.v) 3 (fun x y => cmpS (entL x.c) (entL y.c)) blk 0 n w := by
  intro m os dk hdk x y
  obtain ⟨hs, hsz⟩ := sort_same (fun x : El g s w => x.v) 3 w blk 0 m dk os
  generalize sortWorldK (fun x : El g s w => x.v) 3 w blk 0 m dk os = W at hs hsz
  letI dT : DrK := ⟨True⟩
  have hKn : Kn W := fun b hkbb => by
    obtain ⟨a1, _, a3⟩ := hI.kn b hkbb
    have hne : b ≠ blk := fun e => hkb (e ▸ hkbb)
    exact ⟨Nat.lt_of_lt_of_le a1 hsz, by rw [hs b a1 hne]; exact a3⟩
  have hI0 : Inv (GB blk) ⟨[], []⟩ W := Inv.empty hKn fun b o h => by rw [h]; exact Nat.lt_of_lt_of_le hblk hsz
  have hG : ∀ b o, b ≠ blk → ¬ g.wr s b o → ¬ (GB blk).wr ⟨[], []⟩ b o := fun b o hne _ h => hne (GB_wr.1 h)
  have hx := cl_far hG hb hs x.cl x.rep
  have hy := cl_far hG hb hs y.cl y.rep
  obtain ⟨al, t, hxa, _⟩ := x.cl.of
  obtain ⟨bl, u, hya, _⟩ := y.cl.of
  have hax : Rep (GB blk) ⟨[], []⟩ W x.a (.agg x.v.toArray) := by rw [hxa] at hx ⊢; exact .agg _ hx.1 hx.2
  have hay : Rep (GB blk) ⟨[], []⟩ W y.a (.agg y.v.toArray) := by rw [hya] at hy ⊢; exact .agg _ hy.1 hy.2
  have hc := pure_calls (run_sound hm Z.pfsOK) (Z.cmp47_ret x.cl y.cl x.sm y.sm) rfl (by simp [pvs_cons, pvs_nil, x.cl.pure, y.cl.pure]) hI0 (RepL.cons hax (.one hay))
  refine hc.mono ?_
  rintro e w' ⟨v, u, rfl, rfl, _, hE, hR⟩
  refine ⟨by rw [hR.v_inv], ?_⟩
  have hbl : Below W.heap.size W w' := ⟨hE.os, hE.tape, hE.output.1, hE.size, fun k hk => (hE.obj k hk (by simp [Gh.has, Gh.empty])).1⟩
  have hd : W.drawn ≤ w'.drawn := hE.output.2 trivial
  obtain ⟨p, hp⟩ := Go.regrown_of_below hbl
  refine ⟨p.d - W.drawn, p.os, ?_⟩
  have hpd : w'.drawn = p.d := by rw [hp]; rfl
  rw [hp]
  congr 1
  show Go.redrawn W p.d = { W with drawn := W.drawn + (p.d - W.drawn) }
  unfold Go.redrawn
  congr 1
  omega
end Go.Proofs.Eng
namespace Go.Proofs.Eng
open Go Go.Proofs Go.RowKit Go.Sort
set_option maxRecDepth 100000
theorem swo_cmp {g : Gh} {s : ASt} {w : World} : SWO (ltOf fun x y : El g s w => cmpS (entL x.c) (entL y.c)) where
  irrefl x := by simp [ltOf, cmpS_self]
  trans x y z h k := by
    simp only [ltOf, decide_eq_true_eq] at h k ⊢
    exact cmpS_trans h k
  ntrans x y z h k := by
    simp only [ltOf, decide_eq_false_iff_not] at h k ⊢
    intro hxz
    have hn := cmpS_neg (l := entL y.c) (m := entL x.c)
    rcases cmpS_val (entL y.c) (entL x.c) with e | e | e
    · exact k (cmpS_trans (by omega) hxz)
    · rw [cmpS_eq e] at k; exact k hxz
    · omega
theorem els {g : Gh} {s : ASt} {w : World} : ∀ {q : List Cl} {qa : List AV} {cs : List Value}, LIs ClIs q qa → (∀ x ∈ q, Sm x) → RepL g s w (flat qa) cs → ∃ L : List (El g s w), L.map (·.c) = q ∧ (L.map (·.v)).flatten = cs ∧ (∀ x ∈ L, x.v.length = 3)
  | [], [], cs, _, _, hr => by
    obtain rfl : cs = [] := List.length_eq_zero_iff.1 hr.1.symm
    exact ⟨[], rfl, rfl, by simp⟩
  | [], _ :: _, _, h, _, _ => by simp [LIs] at h
  | _ :: _, [], _, h, _, _ => by simp [LIs] at h
  | c :: q, a :: qa, cs, h, hs, hr => by
    simp only [LIs] at h
    have h3 : a.cells.length = 3 := by obtain ⟨bl, u, rfl, _⟩ := h.1.of; rfl
    rw [flat_cons] at hr
    have r1 := hr.take 3
    have r2 := hr.drop 3
    rw [List.take_append_of_le_length (by omega), List.take_of_length_le (by omega)] at r1
    rw [List.drop_append_of_le_length (by omega), List.drop_of_length_le (by omega), List.nil_append] at r2
    obtain ⟨L, e1, e2, e3⟩ := els h.2 (fun x hx => hs x (by simp [hx])) r2
    have hl := r1.1
    rw [h3] at hl
    exact ⟨⟨c, a, _, hs c (by simp), h.1, r1⟩ :: L, by simp [e1], by simp [e2], fun x hx => by
      rcases List.mem_cons.1 hx with rfl | hx
      · exact hl.symm
      · exact e3 x hx⟩
theorem get_flat3 {α : Type} [Inhabited α] (f : α → List Value) : ∀ {L : List α}, (∀ x ∈ L, (f x).length = 3) → ∀ {t : Nat}, t < L.length * 3 → (L.map f).flatten[t]? = some ((f L.toArray[t / 3]!)[t % 3]!)
  | [], _, t, ht => by simp at ht
  | x :: L, h, t, ht => by
    have hx := h x (by simp)
    rw [List.map_cons, List.flatten_cons]
    rcases Nat.lt_or_ge t 3 with h3 | h3
    · rw [List.getElem?_append_left (by omega), Nat.div_eq_of_lt h3, Nat.mod_eq_of_lt h3]
      simp [List.getElem?_eq_getElem (show t < (f x).length by omega), show t < (f x).length by omega]
    · rw [List.getElem?_append_right (by omega), hx, get_flat3 f (fun y hy => h y (by simp [hy])) (by simp only [List.length_cons] at ht; omega)]
      have e1 : t / 3 = (t - 3) / 3 + 1 := by omega
      have e2 : t % 3 = (t - 3) % 3 := by omega
      rw [e1, e2]
      simp
end Go.Proofs.Eng
namespace Go.Proofs.Eng
open Go Go.Proofs Go.RowKit Go.Sort
set_option maxRecDepth 100000
theorem el_cells {g : Gh} {s : ASt} {w : World} (x : El g s w) : x.v.length = 3 ∧ ∀ v ∈ x.v, v.oneCell' = true := by
  have hr := x.rep
  obtain ⟨al, t, ha, _⟩ := x.cl.of
  rw [ha] at hr
  obtain ⟨v0, cs, e0, r0, hr⟩ := RepL.cons_inv hr
  obtain ⟨v1, cs, rfl, r1, hr⟩ := hr.cons_inv
  obtain ⟨v2, cs, rfl, r2, hr⟩ := hr.cons_inv
  obtain rfl : cs = [] := List.length_eq_zero_iff.1 hr.1.symm
  rw [e0]
  refine ⟨rfl, fun v hv => ?_⟩
  rcases List.mem_cons.1 hv with rfl | hv
  · rw [r0.v_inv]; rfl
  · rcases List.mem_cons.1 hv with rfl | hv
    · rw [r1.v_inv]; rfl
    · rcases List.mem_cons.1 hv with rfl | hv
      · obtain ⟨_, _, _, _, _, rfl, _⟩ := r2.sl_inv; rfl
      · cases hv
theorem sort_calls {g : Gh} {s : ASt} {w : World} (hI : Inv g s w) {q : List Cl} {qa : List AV} {t : Tl} {u : Value} (hL : LIs ClIs q qa) (hs : ∀ x ∈ q, Sm x) (hA : App s.T qa t) (hu : Rep g s w (.sl qa t) u) (hne : q ≠ []) (hq : q.length ≤ 100000) :
    ∃ (blk cap o0 : Nat) (hi : Inhabited (El g s w)), u = .slice (some ⟨blk, 0, none⟩) q.length cap ∧ q.length ≤ cap ∧ g.wr s blk o0 ∧ (∃ id o, g.ow id = some o ∧ o.b = blk) ∧ blk < w.heap.size ∧ Calls Tryd.prog 46 #[u, .func (.func 47) #[] #[]] w fun e w' => e = .returned (.tuple #[]) ∧
      ∃ (d' : Array (El g s w)) (n : Nat) (os : Array Obj), (d'.toList.map (·.c)).Perm q ∧ (∀ x ∈ d'.toList, x.v.length = 3) ∧ (∀ i j, i < j → j < d'.size → ¬ cmpS (entL d'[j]!.c) (entL d'[i]!.c) < 0) ∧ w' = sortWorldK (fun x : El g s w => x.v) 3 w blk 0 n d' os ∧ HoldsK (fun x : El g s w => x.v) 3 w' blk 0 d' := by
  have hqn := hL.len
  rcases hA with ⟨h0, _⟩ | ⟨hqa, id, ver, rfl, hT⟩
  · rw [h0] at hqn; exact absurd (List.length_eq_zero_iff.1 hqn.symm) hne
  obtain ⟨x, cap, b, o, cs, rfl, h1, h2, h3, h4, h5⟩ := hu.sl_inv
  obtain ⟨v, e1, e2, e3⟩ := h5
  rw [hT] at e1; cases e1
  obtain ⟨ow, f1, f2, f3, f4, f5⟩ := e3 rfl
  have hx := h3 hqa
  rw [f4] at hx
  simp only [Option.some.injEq, Addr.mk.injEq, and_true] at hx
  obtain ⟨rfl, rfl⟩ := hx
  subst f4
  obtain ⟨_, _, c0, el, hhp, _⟩ := hI.owlt id ow f1
  have hbs : ow.b < w.heap.size := (Array.getElem?_eq_some_iff.1 hhp).1
  obtain ⟨L, g1, g2, g3⟩ := els hL hs h1
  have hLn : L.length = q.length := by rw [← g1, List.length_map]
  have hLne : L ≠ [] := by intro e; rw [e] at hLn; exact hne (List.length_eq_zero_iff.1 hLn.symm)
  obtain ⟨x0, L', rfl⟩ := List.exists_cons_of_ne_nil hLne
  letI hi : Inhabited (El g s w) := ⟨x0⟩
  have hwr : g.wr s ow.b (ow.n * ow.es) := .inr (.inl ⟨id, ow, f1, rfl, Nat.le_refl _⟩)
  have hkb : ¬ KB ow.b := fun h => (hI.kn _ h).2.1 (.inr ⟨id, ow, f1, rfl⟩)
  have hH : HoldsK (fun x : El g s w => x.v) 3 w ow.b 0 (x0 :: L').toArray := by
    intro j hj
    rw [size_flatK] at hj
    refine ⟨?_, Lib.frozen_of_heap hhp _⟩
    rw [get_flatK _ _ _ _ hj]
    have h6 := get_flat3 (fun x : El g s w => x.v) g3 (t := j) (by simpa using hj)
    rw [g2] at h6
    exact (h2 j _ h6).1
  have hfit : Fits Tryd.prog 47 := ⟨_, _, Tryd.func47, rfl, by kernel_rfl⟩
  have hcmp := cmp_lays hI hwr hkb hbs (x0 :: L').toArray.size
  have hsort := AnyQ.slices_SortFunc Tryd.sortR 3 Tryd.isAgg33 Tryd.sizeOf33 (fun x : El g s w => x.v) (fun x => (el_cells x).1) (fun x => (el_cells x).2) _ swo_cmp 47 #[] ow.b 0 cap (x0 :: L').toArray w (fun args w => hfit.callFunc args w) hcmp hH hbs (by simp at hLn ⊢; omega)
  refine ⟨ow.b, cap, _, hi, by rw [hqn], by rw [← hqn]; exact h4, hwr, ⟨id, ow, f1, rfl⟩, hbs, ?_⟩
  have hsz : (x0 :: L').toArray.size = qa.length := by rw [hqn, ← hLn]; simp
  rw [← hsz]
  refine hsort.mono ?_
  rintro e w' ⟨rfl, d', n, os, hp, hsd, rfl⟩
  refine ⟨rfl, d', n, os, ?_, fun x _ => (el_cells x).1, ?_, rfl, holdsK_sortWorldK_c _ 3 w ow.b 0 _ d' n os hH hbs hp.1⟩
  · obtain ⟨p1, _, p3⟩ := hp
    have e1 : d'.extract 0 (x0 :: L').toArray.size = d' := by rw [← p1]; simp
    have e2 : (x0 :: L').toArray.extract 0 (x0 :: L').toArray.size = (x0 :: L').toArray := by simp
    rw [e1, e2] at p3
    rw [← g1]
    simpa using p3.map (fun x : El g s w => x.c)
  · intro i j hij hj
    have := hsd i j (Nat.zero_le _) hij (by rw [← hp.1]; exact hj)
    simpa [ltOf] using this
end Go.Proofs.Eng
