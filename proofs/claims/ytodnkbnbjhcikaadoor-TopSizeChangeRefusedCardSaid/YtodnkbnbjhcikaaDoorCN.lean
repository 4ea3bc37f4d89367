/- The closure in the empty store. No conditions beyond those in the theorems. -/
import Derived.Test.YtodnkbnbjhcikaaDoorSR
set_option linter.all false
set_option linter.deprecated false
set_option linter.unnecessarySimpa false
set_option linter.unusedVariables false
set_option linter.unusedSimpArgs false
set_option linter.defProp false
namespace Go.Proofs.Eng
open Go Go.Proofs
theorem sorted_is {ar : Int → Nat} {q L : List Cl} (hg : ∀ x ∈ q, Good ar x) (hn : q.Nodup) (hp : L.Perm q) (hs : L.Pairwise fun x y => ¬ cmpS (entL y) (entL x) < 0) : L = srt q := by
  obtain ⟨h1, h2⟩ := srt_sorted hg
  refine sorted_uniq ?_ h1 fun x => by rw [h2, hp.mem_iff]
  have hnL : L.Nodup := hp.nodup_iff.2 hn
  have hgL : ∀ x ∈ L, Good ar x := fun x hx => hg x (hp.mem_iff.1 hx)
  have key : ∀ {L : List Cl}, L.Nodup → (∀ x ∈ L, Good ar x) → L.Pairwise (fun x y => ¬ cmpS (entL y) (entL x) < 0) → L.Pairwise ltC := by
    intro L
    induction L with
    | nil => intro _ _ _; exact .nil
    | cons x L ih =>
      intro h1 h2 h3
      rw [List.nodup_cons] at h1
      rw [List.pairwise_cons] at h3 ⊢
      refine ⟨fun y hy => ?_, ih h1.2 (fun z hz => h2 z (by simp [hz])) h3.2⟩
      have h4 := h3.1 y hy
      have hneg := cmpS_neg (l := entL x) (m := entL y)
      rcases cmpS_val (entL x) (entL y) with e | e | e
      · unfold ltC; omega
      · have := ent_inj (h2 x (by simp)) (h2 y (by simp [hy])) (cmpS_eq e)
        subst this
        exact absurd hy h1.1
      · omega
  exact key hnL hgL hs
theorem pair_idx {α β : Type} [Inhabited α] {d : Array α} {f : α → β} {R : β → β → Prop} (h : ∀ i j, i < j → j < d.size → R (f d[i]!) (f d[j]!)) : (d.toList.map f).Pairwise R := by
  rw [List.pairwise_iff_getElem]
  intro i j hi hj hij
  simp only [List.length_map, Array.length_toList] at hi hj
  have := h i j hij hj
  simpa [hi, hj] using this
def mkAV (c : Cl) : AV := .agg [.int c.f, .int c.t, .sl (c.m.map fun r => .sl (ints r) .al) .al]
set_option maxRecDepth 100000
theorem row_mk {G : Gh} {S : ASt} {W : World} {r : List Int} {a : AV} {u : Value} (hr : RowIs r a) (h : Rep G S W a u) : Rep G S W (.sl (ints r) .al) u := by
  obtain ⟨t, rfl, hf, _⟩ := hr.of
  obtain ⟨x, cap, b, o, cs, rfl, h1, h2, h3, h4, h5⟩ := h.sl_inv
  exact .sl cs h1.1 h1.2 h2 h3 rfl h4 (fast_al hf rfl h5)
theorem rows_mk {G : Gh} {S : ASt} {W : World} : ∀ {m : List (List Int)} {al : List AV} {cs : List Value}, LIs RowIs m al → RepL G S W al cs → RepL G S W (m.map fun r => .sl (ints r) .al) cs
  | [], [], cs, _, hr => hr
  | [], _ :: _, _, h, _ => by simp [LIs] at h
  | _ :: _, [], _, h, _ => by simp [LIs] at h
  | r :: m, a :: al, cs, h, hr => by
    simp only [LIs] at h
    obtain ⟨c, cs', rfl, hx, hr'⟩ := hr.cons_inv
    exact RepL.cons (row_mk h.1 hx) (rows_mk h.2 hr')
theorem flat_mk (m : List (List Int)) : flat (m.map fun r => AV.sl (ints r) .al) = m.map fun r => .sl (ints r) .al := by
  induction m with
  | nil => rfl
  | cons r m ih => rw [List.map_cons, flat_cons, ih]; rfl
theorem cl_mk {G : Gh} {S : ASt} {W : World} {c : Cl} {a : AV} {vs : List Value} (hc : ClIs c a) (h : RepL G S W a.cells vs) : RepL G S W (mkAV c).cells vs := by
  obtain ⟨al, t, rfl, h1, h2, _⟩ := hc.of
  obtain ⟨v0, cs, rfl, r0, h⟩ := RepL.cons_inv h
  obtain ⟨v1, cs, rfl, r1, h⟩ := h.cons_inv
  obtain ⟨v2, cs, rfl, r2, h⟩ := h.cons_inv
  obtain rfl : cs = [] := List.length_eq_zero_iff.1 h.1.symm
  refine RepL.cons r0 (RepL.cons r1 (.one ?_))
  obtain ⟨x, cap, b, o, cs, rfl, e1, e2, e3, e4, e5⟩ := r2.sl_inv
  have hal := fast_al h2 rfl e5
  rw [flat_rows h1] at e1 hal
  have hm := rows_mk h1 e1
  have hln := h1.len
  refine .sl cs (by rw [flat_mk]; exact hm.1) (by rw [flat_mk]; exact hm.2) e2 (fun hne => e3 (fun e => hne (by rw [e] at hln; rw [List.length_eq_zero_iff.1 hln.symm]; rfl))) (by rw [List.length_map, hln]) e4 ?_
  show AlOK _ _ _ _
  rw [flat_mk, List.length_map, ← hln]
  exact hal
open Go Go.Proofs Go.RowKit Go.Sort
theorem els_rep {g G : Gh} {s S : ASt} {w W : World} {blk o0 : Nat} (hG : ∀ b o, b ≠ blk → ¬ g.wr s b o → ¬ G.wr S b o) (hb : g.wr s blk o0) (hs : Same blk w W) : ∀ L : List (El g s w), RepL G S W (flat (L.map fun x => mkAV x.c)) (L.map (·.v)).flatten
  | [] => .nil _ _ _
  | x :: L => by
    rw [List.map_cons, flat_cons, List.map_cons, List.flatten_cons]
    exact (cl_mk x.cl (cl_far hG hb hs x.cl x.rep)).append (els_rep hG hb hs L)
theorem sorted_rep {g G : Gh} {s S : ASt} {w W : World} {blk o0 : Nat} (hG : ∀ b o, b ≠ blk → ¬ g.wr s b o → ¬ G.wr S b o) (hb : g.wr s blk o0) (hs : Same blk w W) (hbl : ∀ o, ¬ G.wr S blk o) [Inhabited (El g s w)] {d : Array (El g s w)} (hH : HoldsK (fun x : El g s w => x.v) 3 W blk 0 d) {cap : Nat} (hc : d.size ≤ cap) :
    Rep G S W (.sl (d.toList.map fun x => mkAV x.c) .none) (.slice (some ⟨blk, 0, none⟩) d.size cap) := by
  have hR := els_rep hG hb hs d.toList
  have h3 : ∀ x ∈ d.toList, x.v.length = 3 := fun x _ => (el_cells x).1
  refine .sl (b := blk) (o := 0) _ hR.1 hR.2 (fun k c hk => ⟨?_, hbl _⟩) (fun _ => rfl) (by simp) hc trivial
  have hlen : (d.toList.map (·.v)).flatten.length = d.size * 3 := by
    have : ∀ L : List (El g s w), (L.map (·.v)).flatten.length = L.length * 3 := by
      intro L
      induction L with
      | nil => rfl
      | cons x L ih => simp only [List.map_cons, List.flatten_cons, List.length_append, ih, (el_cells x).1, List.length_cons]; omega
    rw [this]; simp
  have hk' : k < d.size * 3 := by rw [← hlen]; exact (List.getElem?_eq_some_iff.1 hk).1
  have h5 := get_flat3 (fun x : El g s w => x.v) h3 (t := k) (by simpa using hk')
  rw [hk] at h5
  have h6 := (hH k (by rw [size_flatK]; exact hk')).1
  rw [get_flatK _ _ _ _ hk'] at h6
  rw [Option.some.injEq] at h5
  rw [h5]
  simpa using h6
def closureV (cs : List Cl) : AV :=
  match cloQ cs with
  | none => .tup [.sl [] .nil, .bool false]
  | some q => .tup [.sl ((srt q).map mkAV) .none, .bool true]
def closureO : List AV → ASt → Option (AV × ASt)
  | [.sl al t], s => match mapO clOf al with
    | some cs => if t.pure = true ∧ checkR cs = 0 ∧ cs.length ≤ 1000 then some (closureV cs, s) else none
    | none => none
  | _, _ => none
theorem clsOf_some : ∀ {l : List AV} {cs : List Cl}, mapO clOf l = some cs → LIs ClIs cs l
  | [], cs, h => by simp only [mapO, Option.some.injEq] at h; subst h; trivial
  | a :: l, cs, h => by
    simp only [mapO] at h
    split at h
    · rename_i c hc
      split at h
      · rename_i ms hms
        simp only [Option.some.injEq] at h; subst h
        exact ⟨(clOf_some hc).1, clsOf_some hms⟩
      · simp at h
    · simp at h
theorem clsOf_is : ∀ {l : List AV} {cs : List Cl}, LIs ClIs cs l → (∀ c ∈ cs, Sm c) → mapO clOf l = some cs
  | [], [], _, _ => rfl
  | [], _ :: _, h, _ => by simp [LIs] at h
  | _ :: _, [], h, _ => by simp [LIs] at h
  | a :: l, c :: cs, h, hs => by
    simp only [LIs] at h
    simp only [mapO, clOf_is h.1 (hs c (by simp)), clsOf_is h.2 fun x hx => hs x (by simp [hx])]
theorem mkAV_pure (c : Cl) : pureAV (mkAV c) = true := by
  have : ∀ m : List (List Int), pureAVs (m.map fun r => AV.sl (ints r) .al) = true := by
    intro m
    induction m with
    | nil => exact pvs_nil
    | cons r m ih => rw [List.map_cons, pvs_cons, ih, pv_sl, ints_pure]; rfl
  simp [mkAV, pv_agg, pvs_cons, pvs_nil, pv_v, pv_sl, this, Tl.pure]
theorem closureV_pure (cs : List Cl) : pureAV (closureV cs) = true := by
  have : ∀ m : List Cl, pureAVs (m.map mkAV) = true := by
    intro m
    induction m with
    | nil => exact pvs_nil
    | cons r m ih => rw [List.map_cons, pvs_cons, ih, mkAV_pure]; rfl
  unfold closureV
  split
  · simp [pv_tup, pvs_cons, pvs_nil, pv_v, pv_sl, Tl.pure]
  · simp [pv_tup, pvs_cons, pvs_nil, pv_v, pv_sl, this, Tl.pure]
noncomputable def c30 : Oracle := fun f args s => if f = 30 ∧ s.H.isEmpty = true ∧ s.T.isEmpty = true then (closureO args s).map fun r => (.ret r.1, r.2) else none
theorem c30_ora (h : Sound Tryd.prog c30) : OraOK Tryd.prog 30 closureO := by
  intro args s v s' hv
  have hv0 := hv
  unfold closureO at hv
  split at hv
  · rename_i _ al t
    split at hv
    · rename_i cs hcs
      split at hv
      · rename_i hc
        simp only [Option.some.injEq, Prod.mk.injEq] at hv
        obtain ⟨rfl, rfl⟩ := hv
        have hp : pureAVs [AV.sl al t] = true := by simp [pvs_cons, pvs_nil, pv_sl, hc.1, clsPure (clsOf_some hcs)]
        have hrun : c30 30 [.sl al t] ⟨[], []⟩ = some (.ret (closureV cs), ⟨[], []⟩) := by
          simp only [c30, closureO, hcs]
          rw [if_pos ⟨trivial, rfl, rfl⟩, if_pos hc]; rfl
        have hcall : callA c30 (fun _ => .pure) true s 30 [.sl al t] = some (.ret (closureV cs), s) := by
          have h2 : (Outc.ret (closureV cs)).purify 1020 ⟨[], []⟩ = some (.ret (closureV cs)) := by
            simp only [Outc.purify]; rw [purify_pure (closureV_pure cs)]; rfl
          simp [callA, hp, purify_all s hp, hrun, h2, frz_all s hp]
        refine ⟨(h _ _ _ _ _ hrun).1, fun g w vs hI hr => ?_⟩
        obtain ⟨_, hcalls⟩ := callA_sound h hcall hI hr
        exact hcalls.mono fun e w' ⟨g', h1, h2, h3, _⟩ => ⟨g', h1, h2, h3⟩
      · simp at hv
    · simp at hv
  · simp at hv
theorem empty_gh {g : Gh} {w : World} (hI : Inv g ⟨[], []⟩ w) : (∀ i, g.mu i = none) ∧ ∀ id, g.ow id = none := by
  refine ⟨fun i => ?_, fun id => ?_⟩
  · cases h : g.mu i with
    | none => rfl
    | some b => exact absurd (hI.lt i b h).1 (by simp)
  · cases h : g.ow id with
    | none => rfl
    | some o => exact absurd (hI.owlt id o h).1 (by simp)
theorem ext_back {g g' : Gh} {s' : ASt} {w w' w2 : World} (hI : Inv g ⟨[], []⟩ w) (hE : Ext g ⟨[], []⟩ w g' s' w') (h2 : ∀ b, b < w'.heap.size → ¬ g'.has b → w2.heap[b]? = w'.heap[b]?) (hs : w'.heap.size ≤ w2.heap.size) (hos : w2.os = w'.os) (htp : w2.tape = w'.tape) (hou : w2.output = w'.output) :
    Inv g ⟨[], []⟩ w2 ∧ Ext g ⟨[], []⟩ w g ⟨[], []⟩ w2 := by
  obtain ⟨e1, e2⟩ := empty_gh hI
  have hno : ∀ b, ¬ g.has b := by
    rintro b (⟨i, h⟩ | ⟨id, o, h, _⟩)
    · rw [e1] at h; cases h
    · rw [e2] at h; cases h
  have hh : ∀ b, b < w.heap.size → w2.heap[b]? = w.heap[b]? := fun b hb => by
    obtain ⟨k1, k2⟩ := hE.obj b hb (hno b)
    exact (h2 b (Nat.lt_of_lt_of_le hb hE.size) k2).trans k1
  have hsz : w.heap.size ≤ w2.heap.size := Nat.le_trans hE.size hs
  refine ⟨?_, ?_⟩
  · exact {
      lt := fun i b h => by rw [e1] at h; cases h
      inj := fun i j b h => by rw [e1] at h; cases h
      obj := fun i b o h => by rw [e1] at h; cases h
      owlt := fun id o h => by rw [e2] at h; cases h
      owinj := fun id id' o o' h => by rw [e2] at h; cases h
      owmu := fun id o i h => by rw [e2] at h; cases h
      fblt := fun b o h => Nat.lt_of_lt_of_le (hI.fblt b o h) hsz
      fbmu := fun i b o h => by rw [e1] at h; cases h
      fbow := fun id q o h => by rw [e2] at h; cases h
      kn := fun b hb => by
        obtain ⟨k1, _, k3⟩ := hI.kn b hb
        exact ⟨Nat.lt_of_lt_of_le k1 hsz, hno b, by rw [hh b k1]; exact k3⟩ }
  · exact {
      mu := fun _ _ h => h
      T := fun id v h => ⟨v, h, Nat.le_refl _, fun _ => rfl⟩
      size := hsz
      cell := fun b o hb _ => World.cell?_of_block (w := w) (a := ⟨b, o, none⟩) (hh b hb)
      wr := fun _ _ _ h => h
      obj := fun b hb h => ⟨hh b hb, h⟩
      fb := rfl
      os := hos.trans hE.os
      tape := htp.trans hE.tape
      output := ⟨hou.trans hE.output.1, fun h => h.elim⟩ }
theorem sort_rest {α : Type} [Inhabited α] (enc : α → List Value) (k : Nat) (w : World) (blk off m : Nat) (dk : Array α) (os : Array Obj) : (sortWorldK enc k w blk off m dk os).os = w.os ∧ (sortWorldK enc k w blk off m dk os).tape = w.tape ∧ (sortWorldK enc k w blk off m dk os).output = w.output := by
  unfold sortWorldK
  refine ⟨?_, ?_, ?_⟩ <;> rfl
theorem sort_any {G g : Gh} {H : List AObj} {T : List Nat} {w : World} (hI : Inv g ⟨H, T⟩ w) {ar : Int → Nat} {q : List Cl} {qa : List AV} {t : Tl} {u : Value} (hL : LIs ClIs q qa) (hg : ∀ x ∈ q, Good ar x) (hA : App T qa t) (hu : Rep g ⟨H, T⟩ w (.sl qa t) u) (hn : q.Nodup) (hq : q.length ≤ 2000) (hG : ∀ b o, G.wr ⟨[], []⟩ b o → g.fb b o) :
    Calls Tryd.prog 46 #[u, .func (.func 47) #[] #[]] w fun e w2 => e = .returned (.tuple #[]) ∧ w.heap.size ≤ w2.heap.size ∧ (∀ b, b < w.heap.size → (∀ id o, g.ow id = some o → o.b ≠ b) → w2.heap[b]? = w.heap[b]?) ∧ w2.os = w.os ∧ w2.tape = w.tape ∧ w2.output = w.output ∧ Rep G ⟨[], []⟩ w2 (.sl ((srt q).map mkAV) .none) u := by
  have hqn := hL.len
  by_cases hne : q = []
  · subst hne
    obtain rfl : qa = [] := List.length_eq_zero_iff.1 hqn
    obtain ⟨x, cap, b, o, cs, rfl, h1, h2, h3, h4, h5⟩ := hu.sl_inv
    have hc := AnyF.slices_SortFunc_none (P := Tryd.prog) Tryd.sortR x cap (.func (.func 47) #[] #[]) w
    refine Calls.mono hc ?_
    rintro e w' ⟨rfl, rfl⟩
    refine ⟨rfl, Nat.le_refl _, fun _ _ _ => rfl, rfl, rfl, rfl, ?_⟩
    show Rep G ⟨[], []⟩ w' (.sl [] .none) _
    exact .sl (b := 0) (o := 0) [] rfl (fun k a c h => by simp [flat] at h) (fun k c h => by simp at h) (fun h => absurd rfl h) rfl (Nat.zero_le _) trivial
  · have hs : ∀ x ∈ q, Sm x := fun x hx => form_sm (hg x hx).form
    obtain ⟨blk, cap, o0, hi, rfl, hcap, hwr, ⟨id, o, ho1, ho2⟩, hbs, hcalls⟩ := sort_calls hI hL hs hA hu hne (by omega)
    refine hcalls.mono ?_
    rintro e w' ⟨rfl, d', n, os, hp, h3, hsd, hw', hH⟩
    obtain ⟨hsame, hsz⟩ := sort_same (fun x : El g ⟨H, T⟩ w => x.v) 3 w blk 0 n d' os
    obtain ⟨r1, r2, r3⟩ := sort_rest (fun x : El g ⟨H, T⟩ w => x.v) 3 w blk 0 n d' os
    rw [← hw'] at hsame hsz r1 r2 r3
    refine ⟨rfl, hsz, fun b hb hno => hsame b hb fun e => hno id o ho1 (by rw [ho2, e]), r1, r2, r3, ?_⟩
    have hd : d'.size = q.length := by have := hp.length_eq; simpa using this
    have hrep := sorted_rep (G := G) (S := ⟨[], []⟩) (fun b o hb hn h => hn (.inr (.inr (hG b o h)))) hwr hsame (fun o' h => hI.fbow id o o' ho1 (by rw [ho2]; exact hG _ _ h)) hH (cap := cap) (by rw [hd]; exact hcap)
    have hsrt := sorted_is hg hn hp (pair_idx (f := fun x : El g ⟨H, T⟩ w => x.c) (R := fun x y => ¬ cmpS (entL y) (entL x) < 0) hsd)
    rw [← hsrt, List.map_map, ← hd]
    exact hrep
theorem prep_seq {P : Program} {bsf : Bf} {c : Code} {p q : PC} (h : prepC P bsf c = some (.seq p q)) : ∃ x y, c = .seq x y ∧ prepC P bsf x = some p ∧ prepC P bsf y = some q := by
  cases c with
  | seq x y =>
    simp only [prepC] at h
    split at h
    · rename_i px py hx hy
      cases h
      exact ⟨x, y, rfl, hx, hy⟩
    · cases h
  | region id ops d =>
    cases d with
    | false => simp only [prepC] at h; obtain ⟨_, _, h⟩ := optMap h; cases h
    | true =>
      simp only [prepC, prepReg] at h
      repeat' split at h
      all_goals first
        | (obtain ⟨_, _, h⟩ := optMap h; cases h; done)
        | (cases h; done)
  | _ =>
    unfold prepC at h
    repeat' split at h
    all_goals first
      | (cases h; done)
      | (obtain ⟨_, _, h⟩ := optMap h; cases h; done)
theorem prep_reg {P : Program} {bsf : Bf} {c : Code} {l : List PI} (h : prepC P bsf c = some (.reg l)) : ∃ id ops, c = .region id ops false ∧ IsPrep P bsf ops 0 l ∧ l.length = ops.size := by
  cases c with
  | region id ops d =>
    cases d with
    | false =>
      simp only [prepC] at h
      obtain ⟨l', hl, h⟩ := optMap h
      cases h
      obtain ⟨h1, h2⟩ := isPrep_of hl
      exact ⟨id, ops, rfl, h1, h2⟩
    | true =>
      simp only [prepC, prepReg] at h
      repeat' split at h
      all_goals first
        | (obtain ⟨_, _, h⟩ := optMap h; cases h; done)
        | (cases h; done)
  | _ =>
    unfold prepC at h
    repeat' split at h
    all_goals first
      | (cases h; done)
      | (obtain ⟨_, _, h⟩ := optMap h; cases h; done)
def l19 : List PI := [{ dst := some 61, g := none, op := PO.load false 1 (X.t 4), ix := 0, pre := [] }, { dst := some 62, g := none, op := PO.nilck (X.t 61), ix := 0, pre := [] }, { dst := some 63, g := none, op := PO.faddr 1 (X.t 62), ix := 0, pre := [] }, { dst := some 64, g := none, op := PO.load false 1 (X.t 63), ix := 0, pre := [] }]
def p19 : PI := { dst := some 65, g := none, op := PO.call (X.c (AV.fn 46 [])) [X.t 64, X.c (AV.fn 47 [])], ix := 0, pre := [] }
def l20 : List PI := [{ dst := some 66, g := none, op := PO.load false 1 (X.t 4), ix := 0, pre := [] }, { dst := some 67, g := none, op := PO.nilck (X.t 66), ix := 0, pre := [] }, { dst := some 68, g := none, op := PO.faddr 1 (X.t 67), ix := 0, pre := [] }, { dst := some 69, g := none, op := PO.load false 1 (X.t 68), ix := 0, pre := [] }, { dst := some 2, g := none, op := PO.mov (X.t 69), ix := 0, pre := [] }, { dst := some 3, g := none, op := PO.mov (X.c (AV.v (Go.Value.bool true))), ix := 0, pre := [] }]
theorem f30_rest : ((Tryd.f30.body.bind (splitN 6)).bind fun x => (prepC Tryd.prog F.bf x.2).map fun p => (p, noDef x.2)) = some (.seq (.reg (l19 ++ [p19])) (.seq (.reg l20) .ret), true) := by kernel_rfl
theorem l19_run {c : Oracle} {md : FuncId → Md} {E : Env} {H : List AObj} {T : List Nat} {qa : List AV} {tq : Tl} (e4 : E 4 = .ptr 2 0) (h2 : H[2]? = some (.cells false [.ptr 1 0])) (h1 : H[1]? = some (.cells false [.mp 0, .sl qa tq])) : ∃ E', stepsA c md l19 ⟨tmE 70 E, [], ⟨H, T⟩⟩ = some (.normal, ⟨tmE 70 E', [], ⟨H, T⟩⟩) ∧ E' 64 = .sl qa tq ∧ E' 4 = .ptr 2 0 := by
  have : W c md (.reg l19) ⟨tmE 70 E, [], ⟨H, T⟩⟩ (fun ex st => ex = .normal ∧ ∃ E', st = ⟨tmE 70 E', [], ⟨H, T⟩⟩ ∧ E' 64 = .sl qa tq ∧ E' 4 = .ptr 2 0) () := by
    simp only [l19, ↓wpre, wset, wcore, wext, ne_eq, if_true, if_false, exists_eq_left', true_implies, false_implies, exists_const, exists_eq_right, binA, intA, loadA, storeA, pickC, setAt, mapO, argsE, X.isC, resA, oneA, unA, boundA, eqiA, eqsA, fillA, fillE, ASt.fz, strA, simprocAttr, e4, h2, h1]
    exact ⟨_, rfl, rfl, e4⟩
  unfold W EW at this
  cases hx : execL c md (loopI c md) (.reg l19) ⟨tmE 70 E, [], ⟨H, T⟩⟩ with
  | none => rw [hx] at this; exact this.elim
  | some r =>
    obtain ⟨ex, st⟩ := r
    rw [hx] at this
    obtain ⟨rfl, E', rfl, h⟩ := this
    exact ⟨E', hx, h⟩
def tm20 (l : List AV) : List AV := (List.replicate 70 AV.unk).set 4 (.ip [.ip [.unk, .sl l .none] 0] 0)
theorem l20_run {c : Oracle} {md : FuncId → Md} {N : Nat} {l : List AV} : ∃ tm, exec c md N (.seq (.reg l20) .ret) ⟨tm20 l, [], ⟨[], []⟩⟩ = some (.ret, ⟨tm, [], ⟨[], []⟩⟩) ∧ tm[2]? = some (.sl l .none) ∧ tm[3]? = some (.bool true) := ⟨_, rfl, rfl, rfl⟩
theorem app_uniq {g : Gh} {H : List AObj} {T : List Nat} {w : World} {l : List AV} {t : Tl} (hA : App T l t) {u v : Value} (hu : Rep g ⟨H, T⟩ w (.sl l t) u) (hv : Rep g ⟨H, T⟩ w (.sl l t) v) : u = v := by
  obtain ⟨x, cap, b, o, cs, rfl, h1, h2, h3, h4, h5⟩ := hu.sl_inv
  obtain ⟨x', cap', b', o', cs', rfl, h1', h2', h3', h4', h5'⟩ := hv.sl_inv
  rcases hA with ⟨_, rfl⟩ | ⟨_, id, ver, rfl, hT⟩
  · obtain ⟨rfl, _, rfl⟩ := h5
    obtain ⟨rfl, _, rfl⟩ := h5'
    rfl
  · obtain ⟨v, e1, e2, e3⟩ := h5
    obtain ⟨v', e1', e2', e3'⟩ := h5'
    have e : T[id]? = some v := e1
    have e' : T[id]? = some v' := e1'
    rw [hT] at e e'; cases e; cases e'
    obtain ⟨ow, f1, f2, f3, f4, f5⟩ := e3 rfl
    obtain ⟨ow', f1', f2', f3', f4', f5'⟩ := e3' rfl
    rw [f1] at f1'; cases f1'
    rw [f4, f4', f5, f5']
theorem rest_wp {cs : List Cl} {ar : Int → Nat} (hg : ∀ c ∈ cs, Good ar c) {q : List Cl} (hq : cloQ cs = some q) {N : Nat} {yc : Code} (hy : prepC Tryd.prog F.bf yc = some (.seq (.reg (l19 ++ [p19])) (.seq (.reg l20) .ret))) (hnd : noDef yc = true) {g g' : Gh} {w w' : World} {E : Env} {H : List AObj} {T : List Nat} (hI : Inv g ⟨[], []⟩ w) (hE : Ext g ⟨[], []⟩ w g' ⟨H, T⟩ w') {a : Act} (hR : StRep g' w' ⟨tmE 70 E, [], ⟨H, T⟩⟩ a) {X : List Deferred} (hX : MarksOK w g' w' X) (e4 : E 4 = .ptr 2 0) (h2 : H[2]? = some (.cells false [.ptr 1 0])) (hF : FoundS q H T) (hS : Sound Tryd.prog (callN F.md F.pfs N)) (hD : RegSound Tryd.prog F.bf (callN F.md F.pfs N) F.md)
    {Q : Exit → Act → World → Prop} (hLO : ∀ a w, ¬ Q .outgrown a w)
    (hQ : ∀ (tm : List AV) (a2 : Act) (w2 : World) (G : Gh), tm[2]? = some (.sl ((srt q).map mkAV) .none) → tm[3]? = some (.bool true) → Ext g ⟨[], []⟩ w G ⟨[], []⟩ w2 → StRep G w2 ⟨tm, [], ⟨[], []⟩⟩ a2 → MarksOK w G w2 X → Q .ret (wd X a2) w2) : yc.wpIn Fence.wide 0 Tryd.prog Q (wd X a) w' := by
  obtain ⟨x1, y1, rfl, hx1, hy1⟩ := prep_seq hy
  obtain ⟨id, ops, rfl, hops, hlen⟩ := prep_reg hx1
  simp only [noDef, Bool.and_eq_true] at hnd
  obtain ⟨hnd1, hnd2⟩ := hnd
  obtain ⟨qa, tq, es, g0, g1, gL, gA, gM⟩ := hF
  obtain ⟨E', hrun, e64, e4'⟩ := l19_run (c := callN F.md F.pfs N) (md := F.md) e4 h2 g1
  have hclo := clo_of hg hq
  refine wpIn_seq (wpIn_region ?_)
  refine ops_in wide_wide (noDef_ops (id := id) (d := false) hnd1) ?hlo _ _ _ ?_
  case hlo => exact fun a w h => hLO a w h
  have hsz : List.range ops.size = List.range' 0 l19.length ++ [4] := by rw [← hlen]; rfl
  rw [hsz]
  have hpre : IsPrep Tryd.prog F.bf ops 0 l19 := fun j i hj => hops j i (by rw [List.getElem?_append_left (List.getElem?_eq_some_iff.1 hj).1]; exact hj)
  refine steps_pre hS [4] l19 0 _ a g' w' _ hpre hrun hR fun g3 a3 w3 hE3 hR3 => ?_
  obtain ⟨o, ho, o1, o2, o3⟩ := hops 4 p19 rfl
  rw [Nat.zero_add] at ho
  obtain ⟨fo, args0, ts, hoo, hf, hxs⟩ := call_inv (bsf := F.bf) (X0 := Go.Proofs.Eng.X.c (AV.fn 46 [])) (Xs := [Go.Proofs.Eng.X.t 64, Go.Proofs.Eng.X.c (AV.fn 47 [])]) o3
  have hE03 := hE.trans hE3
  obtain ⟨vs, cap, hres, hrl⟩ := resolve_run (P := Tryd.prog) (ts := ts) (ty := o.type) (s := ⟨H, T⟩) (tm := tmE 70 E') (gf := 46) (caps := []) (l := [.sl qa tq, .fn 47 []]) hf hxs rfl (by simp [mapO, evX, tmE_get, e64]) hR3.tm
  obtain ⟨u, cs1, e1, hu, hrl1⟩ := hrl.cons_inv
  obtain ⟨fv, cs2, e2, hfv, hrl2⟩ := hrl1.cons_inv
  obtain rfl : cs2 = [] := List.length_eq_zero_iff.1 hrl2.1.symm
  obtain ⟨fc, rfl, hfc⟩ := hfv.fn_inv
  obtain rfl : fc = [] := List.length_eq_zero_iff.1 hfc.1.symm
  subst e2
  have hGw : ∀ b o, g.wr ⟨[], []⟩ b o → g3.fb b o := by
    obtain ⟨k1, k2⟩ := empty_gh hI
    rintro b o (⟨i, l, h, _⟩ | ⟨i, l, h, _⟩ | h)
    · rw [k1] at h; cases h
    · rw [k2] at h; cases h
    · rw [hE03.fb]; exact h
  have hsort := sort_any hR3.inv gL hclo.good gA hu hclo.nd hclo.len hGw
  have hfit : Fits Tryd.prog 46 := ⟨_, _, Tryd.func46, rfl, by kernel_rfl⟩
  have hrunc : (execOp a3.eval o).run Tryd.prog w3 = .ok (.enter 46 #[u, .func (.func 47) #[] #[]]) w3 := by
    simp only [execOp, hoo, Sem.run_bind, hres, Result.andThen_ok, invoke]
    have := hfit.callFunc (vs ++ cap).toArray w3
    rw [e1] at this
    simpa [e1] using this
  have hwt : Region.wanted o (yielded ops a3.tmps) = true := by
    have h := o2
    rw [show p19.g = none from rfl] at h
    exact wanted_sound h rfl hR3.tm
  simp only [wpOps, ho]
  rw [if_pos hwt]
  left
  unfold Oper.wp
  rw [hrunc]
  refine hsort.mono ?_
  rintro e w2 ⟨rfl, s1, s2, s3, s4, s5, s6⟩
  show Code.wpIn Fence.wide 0 Tryd.prog y1 Q (wd X (a3.put o.dst (.tuple #[]))) w2
  have hnh : ∀ b, ¬ g3.has b → ∀ id o, g3.ow id = some o → o.b ≠ b := fun b hb id o ho e => hb (.inr ⟨id, o, ho, e⟩)
  obtain ⟨hI2, hE2⟩ := ext_back hI hE03 (fun b hb hn => s2 b hb (hnh b hn)) s1 s3 s4 s5
  have hI3 : Inv g3 ⟨H, T⟩ w3 := hR3.inv
  obtain ⟨c4, hc4, hr4⟩ := hR3.tm.get (k := 4) (a := .ptr 2 0) (by show (tmE 70 E')[4]? = _; rw [tmE_get (by decide), e4'])
  obtain ⟨b2, hb2, rfl⟩ := hr4.ptr_inv
  obtain ⟨cs2, el2, ⟨rest2, hh2⟩, hrl2⟩ := hI3.obj 2 b2 _ hb2 h2
  obtain ⟨c, cs2', rfl, hc, hrl2'⟩ := hrl2.cons_inv
  obtain rfl : cs2' = [] := List.length_eq_zero_iff.1 hrl2'.1.symm
  obtain ⟨b1, hb1, rfl⟩ := hc.ptr_inv
  obtain ⟨cs1, el1, ⟨rest1, hh1⟩, hrl1⟩ := hI3.obj 1 b1 _ hb1 g1
  obtain ⟨m0, cs1', rfl, _, hrl1'⟩ := hrl1.cons_inv
  obtain ⟨u', cs1'', rfl, hu', hrl1''⟩ := hrl1'.cons_inv
  obtain rfl : cs1'' = [] := List.length_eq_zero_iff.1 hrl1''.1.symm
  obtain rfl : u' = u := app_uniq gA hu' hu
  have hlt : ∀ i b, g3.mu i = some b → b < w3.heap.size := fun i b h => (hI3.lt i b h).2
  have hk : ∀ i b, g3.mu i = some b → w2.heap[b]? = w3.heap[b]? := fun i b h => s2 b (hlt i b h) fun id o ho e => hI3.owmu id o i ho (by rw [e]; exact h)
  have hnw : ∀ i b o, g3.mu i = some b → ¬ g.wr ⟨[], []⟩ b o := fun i b o h hw => hI3.fbmu i b o h (hGw b o hw)
  have hin : Rep g ⟨[], []⟩ w2 (.ip [.unk, .sl ((srt q).map mkAV) .none] 0) (.pointer (some ⟨b1, 0, none⟩)) := by
    refine .ip (o := 0) [m0, u'] rfl (fun k a c h1 h2 => ?_) (fun k c h1 => ⟨?_, hnw 1 b1 _ hb1⟩)
    · match k, h1, h2 with
      | 0, h1, h2 => simp at h1 h2; subst h1; exact .unk _
      | 1, h1, h2 => simp at h1 h2; subst h1 h2; exact s6
      | k + 2, h1, _ => simp at h1
    · have hh := (hk 1 b1 hb1).trans hh1
      match k, h1 with
      | 0, h1 => simp at h1; subst h1; simp [World.cell?, hh]
      | 1, h1 => simp at h1; subst h1; simp [World.cell?, hh]
      | k + 2, h1 => simp at h1
  have hip : Rep g ⟨[], []⟩ w2 (.ip [.ip [.unk, .sl ((srt q).map mkAV) .none] 0] 0) (.pointer (some ⟨b2, 0, none⟩)) := by
    refine .ip (o := 0) [.pointer (some ⟨b1, 0, none⟩)] rfl (fun k a c h1 h2 => ?_) (fun k c h1 => ⟨?_, hnw 2 b2 _ hb2⟩)
    · match k, h1, h2 with
      | 0, h1, h2 => simp at h1 h2; subst h1 h2; exact hin
      | k + 1, h1, _ => simp at h1
    · have hh := (hk 2 b2 hb2).trans hh2
      match k, h1 with
      | 0, h1 => simp at h1; subst h1; simp [World.cell?, hh]
      | k + 1, h1 => simp at h1
  have htm : RepL g ⟨[], []⟩ w2 (tm20 ((srt q).map mkAV)) a3.tmps.toList := by
    have hl := hR3.tm.1
    rw [tmE_length] at hl
    refine ⟨by rw [← hl]; simp [tm20], fun k a c h1 h2 => ?_⟩
    by_cases h4 : k = 4
    · subst h4
      rw [hc4] at h2; cases h2
      simp [tm20] at h1; subst h1
      exact hip
    · rw [tm20, List.getElem?_set_ne (fun e => h4 e.symm), List.getElem?_replicate] at h1
      split at h1
      · cases h1; exact .unk _
      · cases h1
  have htm2 := put_rep htm (.unk (.tuple #[])) o.dst
  rw [← o1, show put (tm20 ((srt q).map mkAV)) p19.dst .unk = tm20 ((srt q).map mkAV) from rfl, o1] at htm2
  have hdf : a3.defers = [] := hR3.df
  obtain ⟨tm, r1, r2, r3⟩ := l20_run (c := callN F.md F.pfs N) (md := F.md) (N := N) (l := (srt q).map mkAV)
  refine code_in hS hD wide_wide N hnd2 hy1 X _ _ _ (a3.put o.dst (.tuple #[])) g w2 Q hLO r1 ⟨hI2, htm2, by rw [put_defers]; exact hdf⟩ ?_
  intro g4 a4 w4 e hE4 hR4 hx
  cases e <;> first | exact hx.elim | skip
  have hX2 : MarksOK w g w2 X := ⟨hX.ne, fun d hd => by
    obtain ⟨D, m1, m2, m3, m4, m5⟩ := (hX.mono hE3).at_ d hd
    refine ⟨D, m1, m2, (s2 D (Array.getElem?_eq_some_iff.1 m3).1 (hnh D m4)).trans m3, ?_, m5⟩
    obtain ⟨e1, e2⟩ := empty_gh hI
    rintro (⟨i, h⟩ | ⟨id, o, h, _⟩)
    · rw [e1] at h; cases h
    · rw [e2] at h; cases h⟩
  exact hQ tm a4 w4 g4 r2 r3 (hE2.trans hE4) hR4 (hX2.mono hE4)
theorem f30_split : (Tryd.f30.body.bind (splitN 6)).isSome = true := by kernel_rfl
theorem f30_res : mapO (prepR Tryd.prog) Tryd.f30.results.toList = some [.t 2, .t 3] := by kernel_rfl
theorem leave_res {g G : Gh} {w w2 : World} {tm : List AV} {x y : AV} {a : Act} {X : List Deferred} (h2 : tm[2]? = some x) (h3 : tm[3]? = some y) (hE : Ext g ⟨[], []⟩ w G ⟨[], []⟩ w2) (hR : StRep G w2 ⟨tm, [], ⟨[], []⟩⟩ a) (hX : MarksOK w G w2 X) :
    LeavesInM Fence.wide 0 Tryd.prog Tryd.f30 (wd X a).tmps (fun e w' => ∃ g', Inv g' ⟨[], []⟩ w' ∧ Ext g ⟨[], []⟩ w g' ⟨[], []⟩ w' ∧ OutRep g' ⟨[], []⟩ w' (.ret (.tup [x, y])) e) (wd X a).defers .returning w2 := by
  have had : a.defers = [] := hR.df
  have : (wd X a).defers = X := by simp [wd, had]
  rw [this]
  refine marks_leave (tm := tm) (by simp) (l := []) (us := []) X w2 hX hR.inv hR.tm (.nil _ _ _) hE fun w3 hI3 ht3 _ hE3 => ?_
  obtain ⟨v, hv, hvr⟩ := results_run (a := a) (l := [x, y]) f30_res (by simp [resA, evX, h2, h3]) hI3 ht3
  exact ⟨v, hv, G, hI3, hE3, hvr⟩
theorem c30_sound : Sound Tryd.prog c30 := by
  intro f args s out s' h
  unfold c30 at h
  split at h
  · rename_i hc
    obtain ⟨rfl, h1, h2⟩ := hc
    obtain ⟨H, T⟩ := s
    simp only [List.isEmpty_iff] at h1 h2
    subst h1 h2
    obtain ⟨⟨v, s2⟩, hv, e⟩ := Option.map_eq_some_iff.1 h
    simp only [Prod.mk.injEq] at e
    obtain ⟨rfl, rfl⟩ := e
    unfold closureO at hv
    split at hv
    · rename_i _ al t
      split at hv
      · rename_i cs hcs
        split at hv
        · rename_i hc
          simp only [Option.some.injEq, Prod.mk.injEq] at hv
          obtain ⟨rfl, rfl⟩ := hv
          obtain ⟨ar, hg⟩ := check_good hc.2.1
          obtain ⟨N, ex, st', hex, hQ⟩ := exec_of_W (F.front_w (t := t) (clsOf_some hcs) hg hc.2.2)
          refine ⟨⟨_, _, Tryd.func30, rfl, by kernel_rfl⟩, fun g w vs hI hr => ?_⟩
          refine (callsIn_wide (n := 0)).1 (callsIn_of_wp_marks Tryd.func30 rfl trivial ?_ rfl)
          obtain ⟨⟨xc, yc⟩, hsp⟩ := Option.isSome_iff_exists.1 f30_split
          have hpr := F.pf930_is
          rw [hsp] at hpr
          simp only [Option.bind_some] at hpr
          have hRst : StRep g w ⟨tmE 70 (argsE [.sl al t]), [], ⟨[], []⟩⟩ { tmps := vs.toArray ++ Array.replicate (Tryd.f30.ntmps - vs.toArray.size) undef, defers := [] } := by
            have ha := args_tm [AV.sl al t] 70 (by simp)
            exact ⟨hI, by show RepL g ⟨[], []⟩ w (tmE 70 (argsE [.sl al t])) _; rw [← ha]; exact enter_rep hr, rfl⟩
          have hD : RegSound Tryd.prog F.bf (callN F.md F.pfs N) F.md := reg_sound hm (engine_sound hm F.pfsOK N)
          refine exec_h (X := []) (we := w) (engine_sound hm F.pfsOK N) hD it_all N ?_ 6 _ xc yc _ hsp hpr _ st' ex _ g w hex hRst ⟨.nil, fun d hd => by simp at hd⟩ (Nat.le_refl _) ?_ ?_
          · rintro a w' ⟨g', _, _, h3⟩
            exact h3
          · -- the sort, and the rest
            intro g' a' w' X' hE hR hX hn
            subst hn
            rw [F.QF_n] at hQ
            obtain ⟨E, H, T, rfl, q, hq, hql, e4, h2, hF⟩ := hQ
            have hy := f30_rest
            rw [hsp] at hy
            simp only [Option.bind_some] at hy
            obtain ⟨p, hp, hpe⟩ := Option.map_eq_some_iff.1 hy
            simp only [Prod.mk.injEq] at hpe
            obtain ⟨rfl, hnd⟩ := hpe
            refine rest_wp hg hq hp hnd hI hE hR hX e4 h2 hF (engine_sound hm F.pfsOK N) hD ?_ ?_
            · rintro a w' ⟨g', _, _, h3⟩
              exact h3
            · intro tm a2 w2 G r2 r3 hE2 hR2 hX2
              have hv : closureV cs = .tup [.sl ((srt q).map mkAV) .none, .bool true] := by unfold closureV; rw [hq]
              rw [hv]
              exact leave_res r2 r3 hE2 hR2 hX2
          · -- it is too large
            intro g' a' w' e X' hE hR hX hn hx
            cases ex with
            | normal => exact absurd rfl hn
            | exit i => exact hQ.elim
            | pan v => exact hQ.elim
            | ret =>
              cases e <;> first | exact hx.elim | skip
              rw [F.QF_r] at hQ
              obtain ⟨E, H, T, rfl, hq, e2, e3⟩ := hQ
              have hv : closureV cs = .tup [.sl [] .nil, .bool false] := by unfold closureV; rw [hq]
              rw [hv]
              obtain ⟨hI2, hE2⟩ := ext_back hI hE (fun _ _ _ => rfl) (Nat.le_refl _) rfl rfl rfl
              obtain ⟨c2, hc2, hr2⟩ := hR.tm.get (k := 2) (a := .sl [] .nil) (by show (tmE 70 E)[2]? = _; rw [tmE_get (by decide), e2])
              obtain ⟨c3, hc3, hr3⟩ := hR.tm.get (k := 3) (a := .bool false) (by show (tmE 70 E)[3]? = _; rw [tmE_get (by decide), e3])
              have hno : ∀ b, ¬ g.has b := by
                obtain ⟨k1, k2⟩ := empty_gh hI
                rintro b (⟨i, h⟩ | ⟨id, o, h, _⟩)
                · rw [k1] at h; cases h
                · rw [k2] at h; cases h
              have hX2 : MarksOK w g w' X' := ⟨hX.ne, fun d hd => by
                obtain ⟨D, m1, m2, m3, m4, m5⟩ := hX.at_ d hd
                exact ⟨D, m1, m2, m3, hno D, m5⟩⟩
              refine leave_res (tm := ((List.replicate 70 AV.unk).set 2 (.sl [] .nil)).set 3 (.bool false)) rfl rfl hE2 ⟨hI2, ⟨?_, fun k a c h1 h2 => ?_⟩, hR.df⟩ hX2
              · have hl := hR.tm.1
                rw [tmE_length] at hl
                rw [← hl]; simp
              · by_cases k3 : k = 3
                · subst k3
                  rw [hc3] at h2; cases h2
                  simp at h1; subst h1
                  rw [hr3.v_inv]; exact .v rfl
                · dsimp only at h1
                  rw [List.getElem?_set_ne (fun e => k3 e.symm)] at h1
                  by_cases k2 : k = 2
                  · subst k2
                    rw [hc2] at h2; cases h2
                    simp at h1; subst h1
                    obtain ⟨x, cap, b, o, cs', rfl, q1, q2, q3, q4, q5⟩ := hr2.sl_inv
                    exact .sl (b := 0) (o := 0) [] rfl (fun k a c h => by simp [flat] at h) (fun k c h => by simp at h) (fun h => absurd rfl h) rfl (Nat.zero_le _) q5
                  · rw [List.getElem?_set_ne (fun e => k2 e.symm), List.getElem?_replicate] at h1
                    split at h1
                    · cases h1; exact .unk _
                    · cases h1
        · simp at hv
      · simp at hv
    · simp at hv
  · cases h
theorem closure_ok : OraOK Tryd.prog 30 closureO := c30_ora c30_sound
end Go.Proofs.Eng
