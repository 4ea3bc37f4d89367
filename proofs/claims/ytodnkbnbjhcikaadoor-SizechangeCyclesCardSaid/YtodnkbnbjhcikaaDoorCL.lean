/- The closure, as a told result. UNDER WAY (holes). No conditions beyond those in the theorems. -/
import Derived.Test.YtodnkbnbjhcikaaDoorSR
set_option linter.all false
set_option linter.deprecated false
set_option linter.unnecessarySimpa false
set_option linter.unusedVariables false
set_option linter.unusedSimpArgs false
set_option linter.defProp false
namespace Go.Proofs.Eng
open Go Go.Proofs
theorem sorted_is {ar : Int → Nat} {q L : List Cl} (hg : ∀ x ∈ q, Good ar x) (hn : q.Nodup) (hp : L.Perm q) (hs : L.Pairwise fun x y => ¬ cmpS (entL y) (entL x) < 0) : L = srt q := by
  obtain ⟨h1, h2⟩ := srt_sorted hg
  refine sorted_uniq ?_ h1 fun x => by rw [h2, hp.mem_iff]
  have hnL : L.Nodup := hp.nodup_iff.2 hn
  have hgL : ∀ x ∈ L, Good ar x := fun x hx => hg x (hp.mem_iff.1 hx)
  have key : ∀ {L : List Cl}, L.Nodup → (∀ x ∈ L, Good ar x) → L.Pairwise (fun x y => ¬ cmpS (entL y) (entL x) < 0) → L.Pairwise ltC := by
    intro L
    induction L with
    | nil => intro _ _ _; exact .nil
    | cons x L ih =>
      intro h1 h2 h3
      rw [List.nodup_cons] at h1
      rw [List.pairwise_cons] at h3 ⊢
      refine ⟨fun y hy => ?_, ih h1.2 (fun z hz => h2 z (by simp [hz])) h3.2⟩
      have h4 := h3.1 y hy
      have hneg := cmpS_neg (l := entL x) (m := entL y)
      rcases cmpS_val (entL x) (entL y) with e | e | e
      · unfold ltC; omega
      · have := ent_inj (h2 x (by simp)) (h2 y (by simp [hy])) (cmpS_eq e)
        subst this
        exact absurd hy h1.1
      · omega
  exact key hnL hgL hs
theorem pair_idx {α β : Type} [Inhabited α] {d : Array α} {f : α → β} {R : β → β → Prop} (h : ∀ i j, i < j → j < d.size → R (f d[i]!) (f d[j]!)) : (d.toList.map f).Pairwise R := by
  rw [List.pairwise_iff_getElem]
  intro i j hi hj hij
  simp only [List.length_map, Array.length_toList] at hi hj
  have := h i j hij hj
  simpa [hi, hj] using this
def mkAV (c : Cl) : AV := .agg [.int c.f, .int c.t, .sl (c.m.map fun r => .sl (ints r) .al) .al]
end Go.Proofs.Eng
namespace Go.Proofs.Eng
open Go Go.Proofs
set_option maxRecDepth 100000
theorem row_mk {G : Gh} {S : ASt} {W : World} {r : List Int} {a : AV} {u : Value} (hr : RowIs r a) (h : Rep G S W a u) : Rep G S W (.sl (ints r) .al) u := by
  obtain ⟨t, rfl, hf, _⟩ := hr.of
  obtain ⟨x, cap, b, o, cs, rfl, h1, h2, h3, h4, h5⟩ := h.sl_inv
  exact .sl cs h1.1 h1.2 h2 h3 rfl h4 (fast_al hf rfl h5)
theorem rows_mk {G : Gh} {S : ASt} {W : World} : ∀ {m : List (List Int)} {al : List AV} {cs : List Value}, LIs RowIs m al → RepL G S W al cs → RepL G S W (m.map fun r => .sl (ints r) .al) cs
  | [], [], cs, _, hr => hr
  | [], _ :: _, _, h, _ => by simp [LIs] at h
  | _ :: _, [], _, h, _ => by simp [LIs] at h
  | r :: m, a :: al, cs, h, hr => by
    simp only [LIs] at h
    obtain ⟨c, cs', rfl, hx, hr'⟩ := hr.cons_inv
    exact RepL.cons (row_mk h.1 hx) (rows_mk h.2 hr')
theorem flat_mk (m : List (List Int)) : flat (m.map fun r => AV.sl (ints r) .al) = m.map fun r => .sl (ints r) .al := by
  induction m with
  | nil => rfl
  | cons r m ih => rw [List.map_cons, flat_cons, ih]; rfl
theorem cl_mk {G : Gh} {S : ASt} {W : World} {c : Cl} {a : AV} {vs : List Value} (hc : ClIs c a) (h : RepL G S W a.cells vs) : RepL G S W (mkAV c).cells vs := by
  obtain ⟨al, t, rfl, h1, h2, _⟩ := hc.of
  obtain ⟨v0, cs, rfl, r0, h⟩ := RepL.cons_inv h
  obtain ⟨v1, cs, rfl, r1, h⟩ := h.cons_inv
  obtain ⟨v2, cs, rfl, r2, h⟩ := h.cons_inv
  obtain rfl : cs = [] := List.length_eq_zero_iff.1 h.1.symm
  refine RepL.cons r0 (RepL.cons r1 (.one ?_))
  obtain ⟨x, cap, b, o, cs, rfl, e1, e2, e3, e4, e5⟩ := r2.sl_inv
  have hal := fast_al h2 rfl e5
  rw [flat_rows h1] at e1 hal
  have hm := rows_mk h1 e1
  have hln := h1.len
  refine .sl cs (by rw [flat_mk]; exact hm.1) (by rw [flat_mk]; exact hm.2) e2 (fun hne => e3 (fun e => hne (by rw [e] at hln; rw [List.length_eq_zero_iff.1 hln.symm]; rfl))) (by rw [List.length_map, hln]) e4 ?_
  show AlOK _ _ _ _
  rw [flat_mk, List.length_map, ← hln]
  exact hal
end Go.Proofs.Eng
namespace Go.Proofs.Eng
open Go Go.Proofs Go.RowKit Go.Sort
set_option maxRecDepth 100000
theorem els_rep {g G : Gh} {s S : ASt} {w W : World} {blk o0 : Nat} (hG : ∀ b o, b ≠ blk → ¬ g.wr s b o → ¬ G.wr S b o) (hb : g.wr s blk o0) (hs : Same blk w W) : ∀ L : List (El g s w), RepL G S W (flat (L.map fun x => mkAV x.c)) (L.map (·.v)).flatten
  | [] => .nil _ _ _
  | x :: L => by
    rw [List.map_cons, flat_cons, List.map_cons, List.flatten_cons]
    exact (cl_mk x.cl (cl_far hG hb hs x.cl x.rep)).append (els_rep hG hb hs L)
theorem sorted_rep {g G : Gh} {s S : ASt} {w W : World} {blk o0 : Nat} (hG : ∀ b o, b ≠ blk → ¬ g.wr s b o → ¬ G.wr S b o) (hb : g.wr s blk o0) (hs : Same blk w W) (hbl : ∀ o, ¬ G.wr S blk o) [Inhabited (El g s w)] {d : Array (El g s w)} (hH : HoldsK (fun x : El g s w => x.v) 3 W blk 0 d) {cap : Nat} (hc : d.size ≤ cap) :
    Rep G S W (.sl (d.toList.map fun x => mkAV x.c) .none) (.slice (some ⟨blk, 0, none⟩) d.size cap) := by
  have hR := els_rep hG hb hs d.toList
  have h3 : ∀ x ∈ d.toList, x.v.length = 3 := fun x _ => (el_cells x).1
  refine .sl (b := blk) (o := 0) _ hR.1 hR.2 (fun k c hk => ⟨?_, hbl _⟩) (fun _ => rfl) (by simp) hc trivial
  have hlen : (d.toList.map (·.v)).flatten.length = d.size * 3 := by
    have : ∀ L : List (El g s w), (L.map (·.v)).flatten.length = L.length * 3 := by
      intro L
      induction L with
      | nil => rfl
      | cons x L ih => simp only [List.map_cons, List.flatten_cons, List.length_append, ih, (el_cells x).1, List.length_cons]; omega
    rw [this]; simp
  have hk' : k < d.size * 3 := by rw [← hlen]; exact (List.getElem?_eq_some_iff.1 hk).1
  have h5 := get_flat3 (fun x : El g s w => x.v) h3 (t := k) (by simpa using hk')
  rw [hk] at h5
  have h6 := (hH k (by rw [size_flatK]; exact hk')).1
  rw [get_flatK _ _ _ _ hk'] at h6
  rw [Option.some.injEq] at h5
  rw [h5]
  simpa using h6
end Go.Proofs.Eng
namespace Go.Proofs.Eng
open Go Go.Proofs Go.RowKit Go.Sort
set_option maxRecDepth 100000
def closureV (cs : List Cl) : AV :=
  match cloQ cs with
  | none => .tup [.sl [] .nil, .bool false]
  | some q => .tup [.sl ((srt q).map mkAV) .none, .bool true]
def closureO : List AV → ASt → Option (AV × ASt)
  | [.sl al t], s => match mapO clOf al with
    | some cs => if t.pure = true ∧ checkR cs = 0 ∧ cs.length ≤ 1000 then some (closureV cs, s) else none
    | none => none
  | _, _ => none
theorem clsOf_some : ∀ {l : List AV} {cs : List Cl}, mapO clOf l = some cs → LIs ClIs cs l
  | [], cs, h => by simp only [mapO, Option.some.injEq] at h; subst h; trivial
  | a :: l, cs, h => by
    simp only [mapO] at h
    split at h
    · rename_i c hc
      split at h
      · rename_i ms hms
        simp only [Option.some.injEq] at h; subst h
        exact ⟨(clOf_some hc).1, clsOf_some hms⟩
      · simp at h
    · simp at h
theorem clsOf_is : ∀ {l : List AV} {cs : List Cl}, LIs ClIs cs l → (∀ c ∈ cs, Sm c) → mapO clOf l = some cs
  | [], [], _, _ => rfl
  | [], _ :: _, h, _ => by simp [LIs] at h
  | _ :: _, [], h, _ => by simp [LIs] at h
  | a :: l, c :: cs, h, hs => by
    simp only [LIs] at h
    simp only [mapO, clOf_is h.1 (hs c (by simp)), clsOf_is h.2 fun x hx => hs x (by simp [hx])]
theorem mkAV_pure (c : Cl) : pureAV (mkAV c) = true := by
  have : ∀ m : List (List Int), pureAVs (m.map fun r => AV.sl (ints r) .al) = true := by
    intro m
    induction m with
    | nil => exact pvs_nil
    | cons r m ih => rw [List.map_cons, pvs_cons, ih, pv_sl, ints_pure]; rfl
  simp [mkAV, pv_agg, pvs_cons, pvs_nil, pv_v, pv_sl, this, Tl.pure]
theorem closureV_pure (cs : List Cl) : pureAV (closureV cs) = true := by
  have : ∀ m : List Cl, pureAVs (m.map mkAV) = true := by
    intro m
    induction m with
    | nil => exact pvs_nil
    | cons r m ih => rw [List.map_cons, pvs_cons, ih, mkAV_pure]; rfl
  unfold closureV
  split
  · simp [pv_tup, pvs_cons, pvs_nil, pv_v, pv_sl, Tl.pure]
  · simp [pv_tup, pvs_cons, pvs_nil, pv_v, pv_sl, this, Tl.pure]
noncomputable def c30 : Oracle := fun f args s => if f = 30 ∧ s.H.isEmpty = true ∧ s.T.isEmpty = true then (closureO args s).map fun r => (.ret r.1, r.2) else none
theorem c30_ora (h : Sound Tryd.prog c30) : OraOK Tryd.prog 30 closureO := by
  intro args s v s' hv
  have hv0 := hv
  unfold closureO at hv
  split at hv
  · rename_i _ al t
    split at hv
    · rename_i cs hcs
      split at hv
      · rename_i hc
        simp only [Option.some.injEq, Prod.mk.injEq] at hv
        obtain ⟨rfl, rfl⟩ := hv
        have hp : pureAVs [AV.sl al t] = true := by simp [pvs_cons, pvs_nil, pv_sl, hc.1, clsPure (clsOf_some hcs)]
        have hrun : c30 30 [.sl al t] ⟨[], []⟩ = some (.ret (closureV cs), ⟨[], []⟩) := by
          simp only [c30, closureO, hcs]
          rw [if_pos ⟨trivial, rfl, rfl⟩, if_pos hc]; rfl
        have hcall : callA c30 (fun _ => .pure) true s 30 [.sl al t] = some (.ret (closureV cs), s) := by
          have h2 : (Outc.ret (closureV cs)).purify 1020 ⟨[], []⟩ = some (.ret (closureV cs)) := by
            simp only [Outc.purify]; rw [purify_pure (closureV_pure cs)]; rfl
          simp [callA, hp, purify_all s hp, hrun, h2, frz_all s hp]
        refine ⟨(h _ _ _ _ _ hrun).1, fun g w vs hI hr => ?_⟩
        obtain ⟨_, hcalls⟩ := callA_sound h hcall hI hr
        exact hcalls.mono fun e w' ⟨g', h1, h2, h3, _⟩ => ⟨g', h1, h2, h3⟩
      · simp at hv
    · simp at hv
  · simp at hv
theorem empty_gh {g : Gh} {w : World} (hI : Inv g ⟨[], []⟩ w) : (∀ i, g.mu i = none) ∧ ∀ id, g.ow id = none := by
  refine ⟨fun i => ?_, fun id => ?_⟩
  · cases h : g.mu i with
    | none => rfl
    | some b => exact absurd (hI.lt i b h).1 (by simp)
  · cases h : g.ow id with
    | none => rfl
    | some o => exact absurd (hI.owlt id o h).1 (by simp)
end Go.Proofs.Eng
