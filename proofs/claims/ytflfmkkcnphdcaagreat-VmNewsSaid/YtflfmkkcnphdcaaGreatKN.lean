/- Nothing is known of memory ahead. No conditions beyond those in the theorems. -/
import Derived.Test.YtflfmkkcnphdcaaGreatT6
import Derived.Laws.CopyOwn
import Derived.StillTailTactics
import Derived.Test.YtflfmkkcnphdcaaGreatV1
import Derived.Test.YtflfmkkcnphdcaaGreatPf57
import Derived.Test.YtflfmkkcnphdcaaGreatRows
set_option linter.all false
set_option linter.deprecated false
set_option linter.unnecessarySimpa false
set_option linter.unusedVariables false
set_option linter.unusedSimpArgs false
set_option linter.defProp false
namespace Go.Proofs.Eng
open Go Go.Proofs Go.Shelf Go.RowKit
set_option maxHeartbeats 1000000 in
set_option maxRecDepth 1000000 in
theorem ref_walk {c : Cd} {w : World} {v1 v2 v3 : Value} (hone : v1.oneCell' = true ∧ v2.oneCell' = true ∧ v3.oneCell' = true)
  (h20 : ∀ w1, Below w.heap.size w w1 → Calls Tryz.prog 73 #[.agg #[v1, v2, v3]] w1 fun e w2 => e = .returned (.int .i64 0) ∧ Below w1.heap.size w1 w2)
  (hs1 : ∃ a cap, v1 = .slice a c.bl.length cap ∧ c.bl.length ≤ cap) (hnb : 1 ≤ c.bl.length ∧ c.bl.length ≤ 1000000)
  (hs3 : ∃ a cap, v3 = .slice a c.st.length cap ∧ c.st.length ≤ cap ∧ ∀ n x, c.st[n]? = some x → ∃ b o, a = some ⟨b, o, none⟩ ∧ w.cell? ⟨b, o + n, none⟩ = some (.int .i64 x)) (hst : ∀ x ∈ c.st, 1 ≤ x ∧ x < c.bl.length) (hns : c.st.length ≤ 1000000) (X : World → Nat → List Int → World → Prop)
  (hX : ∀ w1 g cap wr, Below w.heap.size w w1 → w.heap.size + 1 ≤ w1.heap.size → w1.heap.size + 1 ≤ g → Below w1.heap.size w1 wr → wr.heap[w1.heap.size]? = some (.cells #[v1, v2, v3, .slice (some ⟨g, 0, none⟩) c.bl.length cap] 129 (0, 0)) → wr.ownsRow (w1.heap.size + 1) 3 1 (.slice (some ⟨g, 0, none⟩) c.bl.length cap) c.bl.length (c.S0.map fun z => .int .i64 z) → SB 0 c.S0 → X w1 0 c.S0 wr)
  (h21 : ∀ w1 n l S wr, X w1 n S wr → c.bl[n]? = some l → Calls Tryz.prog 74 #[.pointer (some ⟨w1.heap.size, 0, none⟩), .int .i64 n] wr fun e w2 => match blkE c.bl.length c.gl.length n l S with | .error z => e = .returned (.int .i64 z) ∧ Below w1.heap.size wr w2 | .ok S' => e = .returned (.int .i64 0) ∧ Below w1.heap.size wr w2 ∧ X w1 (n + 1) S' w2) (ho : c.outE = 0) :
  Calls Tryz.prog 29 #[.agg #[v1, v2, v3]] w fun e w' => e = .returned (.int .i64 c.check) ∧ Below w.heap.size w w' := by
 obtain ⟨q1, q2, q3⟩ := hone
 obtain ⟨a1, cap1, rfl, hcap1⟩ := hs1
 obtain ⟨a3, cap3, rfl, hcap3, hc3⟩ := hs3
 have hz : ((0 : Int) != 0) = false := rfl
 go_enter Tryz.func29, Tryz.ntmps29
 go_wp2_with (go_at_call 73; refine (h20 _ ((Below.refl _ w).alloc (Nat.le_refl _) _)).mono ?_)
 rintro e w1 ⟨rfl, hb1⟩
 have hsz0 : (w.alloc (.cells #[.slice a1 c.bl.length cap1, v2, .slice a3 c.st.length cap3] 26)).heap.size = w.heap.size + 1 := by rw [alloc_size]
 have hbk0 : w1.heap[w.heap.size]? = some (.cells #[.slice a1 c.bl.length cap1, v2, .slice a3 c.st.length cap3] 26) := (hb1.block _ (by rw [hsz0]; omega)).trans (alloc_new _ _)
 have hB1 : Below w.heap.size w w1 := ((Below.refl _ w).alloc (Nat.le_refl _) _).trans (hb1.mono (by rw [hsz0]; omega))
 have hsz1 := hb1.size
 rw [hsz0] at hsz1
 have k1 : w1.cell? ⟨w.heap.size, 0, none⟩ = some (.slice a1 c.bl.length cap1) := by simp [World.cell?, hbk0]
 have k2 : w1.cell? ⟨w.heap.size, 1, none⟩ = some v2 := by simp [World.cell?, hbk0]
 have k3 : w1.cell? ⟨w.heap.size, 2, none⟩ = some (.slice a3 c.st.length cap3) := by simp [World.cell?, hbk0]
 clear hb1 hsz0 hbk0
 go_wp2
 have hi0 : (Tryz.prog.info? 3).isSome = true := by kernel_rfl
 obtain ⟨i0, hi⟩ := Option.isSome_iff_exists.1 hi0
 have z1 : (Tryz.prog.info? 3).map (fun i => (i.size, i.bytes)) = some (1, 8) := by kernel_rfl
 have z2 : (Tryz.prog.info? 3).bind (fun i => i.zero) = some (.int .i64 0) := by kernel_rfl
 rw [hi] at z1 z2
 simp only [Option.map_some, Option.some.injEq, Prod.mk.injEq] at z1
 simp only [Option.bind_some] at z2
 have hu3 : Tryz.prog.underlying 24 = some (.slice 3) := by kernel_rfl
 have hKn : (w1.alloc (.cells #[.slice a1 c.bl.length cap1, v2, .slice a3 c.st.length cap3, .slice none 0 0] 129)).heap[w1.heap.size]? = some (.cells #[.slice a1 c.bl.length cap1, v2, .slice a3 c.st.length cap3, .slice none 0 0] 129 (0, 0)) := alloc_new _ _
 have hBA : Below w1.heap.size w1 (w1.alloc (.cells #[.slice a1 c.bl.length cap1, v2, .slice a3 c.st.length cap3, .slice none 0 0] 129)) := (Below.refl _ w1).alloc (Nat.le_refl _) _
 have hszA : (w1.alloc (.cells #[.slice a1 c.bl.length cap1, v2, .slice a3 c.st.length cap3, .slice none 0 0] 129)).heap.size = w1.heap.size + 1 := by rw [alloc_size]
 go_loopw [5] (fun i wr => ∃ (n : Nat) (sv : Value), n ≤ c.bl.length ∧ i = .int .i64 (n : Nat) ∧ Below w1.heap.size w1 wr ∧ wr.heap[w1.heap.size]? = some (.cells #[.slice a1 c.bl.length cap1, v2, .slice a3 c.st.length cap3, sv] 129 (0, 0)) ∧ wr.ownsRow (w1.heap.size + 1) 3 1 sv n (List.replicate n (Value.int .i64 (-1)))) (fun i _ => c.bl.length - (match i with | .int _ z => z.toNat | _ => 0))
 case atStart => exact ⟨0, _, Nat.zero_le _, rfl, hBA, hKn, World.ownsRow_nil _ _ _ _⟩
 case round =>
  obtain ⟨n, sv, hn, rfl, hB, hK, hI⟩ := hrel
  have hsz := hB.size
  have hKl := bl_lt hK
  have kc : wr.cell? ⟨w1.heap.size, 3, none⟩ = some sv := by simp [World.cell?, hK]
  have kb := cell_keep hB k1 (by omega)
  have hfz : wr.frozen? ⟨w1.heap.size, 3, none⟩ = false := by simp [World.frozen?, hK]
  by_cases hlt : n < c.bl.length
  ·have hzl : (n : Int) < (c.bl.length : Int) := by omega
   go_wp2_with (at_builtin; refine wpList_append_own _ rfl _ _ 24 rfl (w1.heap.size + 1) 3 i0 (.int .i64 0) 1 8 hu3 hi z2 z1.1 z1.2 rfl (by decide) _ _ _ rfl (hI.alloc _) ⟨wr.heap.size, 0, none⟩ 1 1 [.int .i64 (-1)] rfl rfl ?c1 ?c2 ?c3 ?c4 ?c5 ?_)
   case c1 =>
    intro j u hj
    match j, hj with
    | 0, hj => simp at hj; subst hj; simp [Addr.add]
   case c2 => intro u hu; simp at hu; subst hu; rfl
   case c3 => unfold maxLen; omega
   case c4 => omega
   case c5 => simp; omega
   intro v4 w4 hI4 hgrow _
   have hno : sv.ownBlock ≠ some w1.heap.size := by
    rcases hI.2 with ⟨rfl, _⟩ | ⟨g, cap, cur, rfl, hg, _⟩
    ·simp [Value.ownBlock]
    ·simp [Value.ownBlock]; omega
   have hgs := hgrow.size
   have hK4 : w4.heap[w1.heap.size]? = some (.cells #[.slice a1 c.bl.length cap1, v2, .slice a3 c.st.length cap3, sv] 129 (0, 0)) := by
    rw [hgrow.block _ (by simp; omega) (fun e => hno e.symm), Below.heap_alloc _ _ _ hKl]; exact hK
   have hB4 : Below w1.heap.size w1 w4 := (hB.alloc (by omega) _).grown hgrow (by simp; omega) (fun k hk => by have := (hI.lt k hk).1; omega)
   have hf4 : w4.frozen? ⟨w1.heap.size, 3, none⟩ = false := by simp [World.frozen?, hK4]
   have kc4 : w4.cell? ⟨w1.heap.size, 3, none⟩ = some sv := by simp [World.cell?, hK4]
   obtain ⟨g4, cap4, rfl, hg4⟩ : ∃ g cap, v4 = .slice (some ⟨g, 0, none⟩) (n + 1) cap ∧ w1.heap.size + 1 ≤ g := by
    rcases hI4.2 with ⟨_, h⟩ | ⟨g, cap, cur, rfl, hg, _⟩
    ·omega
    ·exact ⟨g, cap, rfl, hg⟩
   have hI5 := ownsRow_setCell_below hI4 (a := ⟨w1.heap.size, 3, none⟩) (by simp) (.slice (some ⟨g4, 0, none⟩) (n + 1) cap4)
   have hK5 : (w4.setCell ⟨w1.heap.size, 3, none⟩ (.slice (some ⟨g4, 0, none⟩) (n + 1) cap4)).heap[w1.heap.size]? = some (.cells #[.slice a1 c.bl.length cap1, v2, .slice a3 c.st.length cap3, .slice (some ⟨g4, 0, none⟩) (n + 1) cap4] 129 (0, 0)) := by
    simp [World.setCell, Array.getElem?_modify, hK4]
   have hB5 := hB4.setCell (p := ⟨w1.heap.size, 3, none⟩) (Nat.le_refl _) (.slice (some ⟨g4, 0, none⟩) (n + 1) cap4)
   go_wp2
   go_roundw
   case rel =>
    refine ⟨n + 1, _, by omega, (by first | rfl | simp), hB5, hK5, ?_⟩
    rw [List.replicate_succ']; exact hI5
   case measure => simp; omega
  ·obtain rfl : n = c.bl.length := by omega
   obtain ⟨g, cap, rfl, hg⟩ : ∃ g cap, sv = .slice (some ⟨g, 0, none⟩) c.bl.length cap ∧ w1.heap.size + 1 ≤ g := by
    rcases hI.2 with ⟨_, h⟩ | ⟨g, cap, cur, rfl, hg, _⟩
    ·omega
    ·exact ⟨g, cap, rfl, hg⟩
   have hz0 : (0 : Int) < (c.bl.length : Int) := by omega
   have cg := hI.cellAt 0 (by omega)
   rw [List.getElem?_replicate, if_pos (by omega)] at cg
   have fg := hI.frozenAt 0
   obtain ⟨hI6, sI⟩ := hI.stored 0 (.int .i64 0)
   go_wp2
   have hrow : (List.replicate c.bl.length (Value.int IntKind.i64 (-1))).set 0 (Value.int IntKind.i64 0) = ((List.replicate c.bl.length (-1 : Int)).set 0 0).map (fun z => Value.int .i64 z) := by
    rw [List.map_set, List.map_replicate]
   rw [hrow] at hI6
   have hgr := sI.size
   have hB6 : Below w1.heap.size w1 (wr.setCell ⟨g, 0, none⟩ (.int .i64 0)) := hB.grown sI (by omega) (fun k hk => by cases hk; omega)
   have hK6 : (wr.setCell ⟨g, 0, none⟩ (.int .i64 0)).heap[w1.heap.size]? = some (.cells #[.slice a1 c.bl.length cap1, v2, .slice a3 c.st.length cap3, .slice (some ⟨g, 0, none⟩) c.bl.length cap] 129 (0, 0)) := by
    rw [Below.heap_setCell _ _ _ _ (by simp; omega)]; exact hK
   clear hI hrow cg fg sI hgr hK kc hB hfz kb hsz hKl
   generalize wr.setCell ⟨g, 0, none⟩ (.int .i64 0) = wq at *
   go_loopw [6] (fun i wr => ∃ (n : Nat) (S : List Int), n ≤ c.st.length ∧ i = .int .i64 (n : Nat) ∧ Below w1.heap.size w1 wr ∧ wr.heap[w1.heap.size]? = some (.cells #[.slice a1 c.bl.length cap1, v2, .slice a3 c.st.length cap3, .slice (some ⟨g, 0, none⟩) c.bl.length cap] 129 (0, 0)) ∧ wr.ownsRow (w1.heap.size + 1) 3 1 (.slice (some ⟨g, 0, none⟩) c.bl.length cap) c.bl.length (S.map fun z => .int .i64 z) ∧ SB 0 S ∧ (c.st.drop n).foldl (fun S s => S.set s.toNat 0) S = c.S0) (fun i _ => c.st.length - (match i with | .int _ z => z.toNat | _ => 0))
   case atStart => 
    exact ⟨0, _, Nat.zero_le _, rfl, hB6, hK6, hI6, SB.set (fun s hs => by rw [(List.mem_replicate.1 hs).2]; decide) (Int.le_refl _), rfl⟩
   case round =>
    obtain ⟨n, S, hn, rfl, hB, hK, hI, hSB, hf⟩ := hrel
    have hsz := hB.size
    have hKl := bl_lt hK
    have hSl : S.length = c.bl.length := by have := hI.1; simpa using this
    have kc : wr.cell? ⟨w1.heap.size, 3, none⟩ = some (.slice (some ⟨g, 0, none⟩) c.bl.length cap) := by simp [World.cell?, hK]
    have kb1 := cell_keep hB k1 (by omega)
    have kb3 := cell_keep hB k3 (by omega)
    by_cases hlt : n < c.st.length
    ·have hzl : (n : Int) < (c.st.length : Int) := by omega
     obtain ⟨x, hx⟩ : ∃ x, c.st[n]? = some x := ⟨_, List.getElem?_eq_getElem hlt⟩
     obtain ⟨b3, o3, rfl, kx⟩ := hc3 n x hx
     have kx1 := cell_keep hB (cell_keep hB1 kx (World.block_lt_of_cell? _ _ kx)) (by have := World.block_lt_of_cell? _ _ kx; simp at this; omega)
     obtain ⟨hx1, hx2⟩ := hst x (List.mem_of_getElem? hx)
     obtain ⟨m, rfl⟩ : ∃ m : Nat, x = m := ⟨x.toNat, by omega⟩
     have hm : m < c.bl.length := by omega
     have cg := hI.cellAt m (by omega)
     rw [List.getElem?_map, List.getElem?_eq_getElem (by omega), Option.map_some] at cg
     have fg := hI.frozenAt m
     obtain ⟨hI7, sI⟩ := hI.stored m (.int .i64 0)
     have hdr : c.st.drop n = (m : Int) :: c.st.drop (n + 1) := by
      obtain ⟨h, e⟩ := List.getElem?_eq_some_iff.1 hx
      rw [← e]; exact List.drop_eq_getElem_cons h
     go_wp2
     go_still_tail 10, (by kernel_rfl)
     go_wp2
     go_roundw
     case rel =>
      refine ⟨n + 1, S.set m 0, by omega, (by first | rfl | simp), (hB.grown sI (by omega) (fun k hk => by cases hk; omega)).drew, ?_, by rw [List.map_set]; exact hI7, hSB.set (Int.le_refl _), ?_⟩
      ·show (wr.setCell ⟨g, m, none⟩ (.int .i64 0)).heap[w1.heap.size]? = _
       rw [Below.heap_setCell _ _ _ _ (by simp; omega)]; exact hK
      ·rw [hdr, List.foldl_cons, Int.toNat_natCast] at hf; exact hf
     case measure => simp; omega
    ·obtain rfl : n = c.st.length := by omega
     rw [List.drop_eq_nil_of_le (Nat.le_refl _), List.foldl_nil] at hf
     subst hf
     have hX0 := hX w1 g cap wr hB1 hsz1 hg hB hK hI hSB
     clear hI hK kc
     go_wp2
     go_loopw [7] (fun i wr => ∃ (n : Nat) (S : List Int), n ≤ c.bl.length ∧ i = .int .i64 (n : Nat) ∧ Below w1.heap.size w1 wr ∧ X w1 n S wr ∧ goB c.bl.length c.gl.length n (c.bl.drop n) S = c.check) (fun i _ => c.bl.length - (match i with | .int _ z => z.toNat | _ => 0))
     case atStart => exact ⟨0, _, Nat.zero_le _, rfl, hB, hX0, by rw [Cd.check, if_neg (by rw [ho]; simp)]; rfl⟩
     case round =>
      obtain ⟨n, S, hn, rfl, hB, hX1, hf⟩ := hrel
      have kb1 := cell_keep hB k1 (by omega)
      by_cases hlt : n < c.bl.length
      ·have hzl : (n : Int) < (c.bl.length : Int) := by omega
       obtain ⟨l, hl⟩ : ∃ l, c.bl[n]? = some l := ⟨_, List.getElem?_eq_getElem hlt⟩
       have hc := h21 w1 n l S _ hX1 hl
       have hdr : c.bl.drop n = l :: c.bl.drop (n + 1) := by
        obtain ⟨h, e⟩ := List.getElem?_eq_some_iff.1 hl
        rw [← e]; exact List.drop_eq_getElem_cons h
       rw [hdr, goB_blk] at hf
       cases hbk : blkE c.bl.length c.gl.length n l S with
       | error z =>
        rw [hbk] at hc hf
        have hz1 : (z != 0) = true := by simpa [bne] using blkE_ne hbk
        simp only at hf hc
        go_wp2_with (go_at_call 74; refine hc.mono ?_)
        rintro e w2 ⟨rfl, hb2⟩
        go_wp2
        go_ret
        exact ⟨rfl, hB1.trans ((hB.trans hb2).mono (by omega))⟩
       | ok S' =>
        rw [hbk] at hc hf
        simp only at hf hc
        go_wp2_with (go_at_call 74; refine hc.mono ?_)
        rintro e w2 ⟨rfl, hb2, hX2⟩
        go_wp2
        go_roundw
        case rel =>
         exact ⟨n + 1, S', by omega, (by first | rfl | simp), hB.trans hb2, hX2, hf⟩
        case measure => simp; omega
      ·obtain rfl : n = c.bl.length := by omega
       go_wp2
       rw [List.drop_eq_nil_of_le (Nat.le_refl _), goB] at hf
       go_ret
       exact ⟨by rw [← hf]; rfl, hB1.trans (hB.mono (by omega))⟩
set_option maxHeartbeats 1000000 in
set_option maxRecDepth 1000000 in
theorem ref_no {c : Cd} {w : World} {v1 v2 v3 : Value} (hone : v1.oneCell' = true ∧ v2.oneCell' = true ∧ v3.oneCell' = true) (ho : (c.outE != 0) = true)
  (h20 : ∀ w1, Below w.heap.size w w1 → Calls Tryz.prog 73 #[.agg #[v1, v2, v3]] w1 fun e w2 => e = .returned (.int .i64 c.outE) ∧ Below w1.heap.size w1 w2) :
  Calls Tryz.prog 29 #[.agg #[v1, v2, v3]] w fun e w' => e = .returned (.int .i64 c.check) ∧ Below w.heap.size w w' := by
 obtain ⟨q1, q2, q3⟩ := hone
 have hck : c.check = c.outE := by rw [Cd.check, if_pos (by simpa [bne] using ho)]
 rw [hck]
 go_enter Tryz.func29, Tryz.ntmps29
 go_wp2_with (go_at_call 73; refine (h20 _ ((Below.refl _ w).alloc (Nat.le_refl _) _)).mono ?_)
 rintro e w1 ⟨rfl, hb1⟩
 have hsz0 : (w.alloc (.cells #[v1, v2, v3] 26)).heap.size = w.heap.size + 1 := by rw [alloc_size]
 have hB1 : Below w.heap.size w w1 := ((Below.refl _ w).alloc (Nat.le_refl _) _).trans (hb1.mono (by rw [hsz0]; omega))
 clear hb1 hsz0
 go_wp2
 go_ret
 exact ⟨rfl, hB1⟩
end Go.Proofs.Eng
namespace Go.Proofs.Eng
open Go Go.Proofs Go.RowKit
set_option maxRecDepth 100000
theorem pur_v {n : Nat} {s : ASt} {v : AV} {x : Value} (h : purify n s v = some (.v x)) : v = .v x := by
 cases n with
 | zero => simp [purify] at h
 | succ n =>
  by_cases hp : pureAV v = true
  ·have : purify (n + 1) s v = some v := by cases v <;> simp only [purify, hp, if_true]
   rw [this] at h; simpa using h
  ·cases v <;> simp only [purify, hp, if_false, Option.map_eq_some_iff, reduceCtorEq, and_false, exists_false, Bool.false_eq_true] at h
   ·split at h
    ·split at h
     ·simp at h
     ·cases h
    ·cases h
theorem sh_calls {P : Program} {md : FuncId → Md} {pfs : FuncId → Option PF} (hS : Sound P (run md pfs)) {f : FuncId} {args : List AV} {s : ASt} {PR : AV → ASt → Prop} (h : Sh md pfs f args s PR fun _ _ => False) (hz : ∀ v s', PR v s' → ∃ z : Int, v = .int z) {g : Gh} {w : World} {vs : List Value} (hI : Inv g s w) (hr : RepL g s w args vs) :
  Calls P f vs.toArray w fun e w' => ∃ (z : Int) (g' : Gh) (s' : ASt), PR (.int z) s' ∧ e = .returned (.int .i64 z) ∧ Inv g' s' w' ∧ Ext g s w g' s' w' := by
 obtain ⟨out, s1, out', h1, h2, h3⟩ := h
 obtain ⟨_, hcalls⟩ := hS f args _ out s1 h1
 refine (hcalls _ w vs hI hr).mono ?_
 rintro e w' ⟨g1, hI1, hE1, hO1⟩
 cases out with
 | ret v =>
  obtain ⟨v', hv', rfl⟩ := optMap h2
  obtain ⟨z, rfl⟩ := hz _ _ h3
  obtain rfl := pur_v hv'
  have hf : (Outc.ret (AV.v (.int .i64 z))).frz 20 s1 = s1 := frz_pure (n := 20) (x := .v (.int .i64 z)) rfl
  simp only [hf] at h3
  cases e with
  | returned u =>
   have hu : u = .int .i64 z := Rep.v_inv hO1
   exact ⟨z, g1, s1, h3, by rw [hu], hI1, hE1⟩
  | panicked _ => exact hO1.elim
  | outgrown => exact hO1.elim
 | pan v =>
  obtain ⟨v', hv', rfl⟩ := optMap h2
  exact h3.elim
theorem below_of {g g' : Gh} {s s' : ASt} {w w' : World} (h : Ext g s w g' s' w') {B : Nat} (hB : B ≤ w.heap.size) (hn : ∀ b, b < B → ¬ g.has b) : Below B w w' :=
 ⟨h.os, h.tape, h.output.1, h.size, fun k hk => (h.obj k (by omega) (hn k hk)).1⟩
def GhK (K gb : Nat) (fb : Nat → Nat → Prop) : Gh := ⟨fun i => if i = 0 then some K else if i = 1 then some gb else none, fun _ => none, fb⟩
theorem ghk_mu {K gb : Nat} {fb : Nat → Nat → Prop} {i b : Nat} (h : (GhK K gb fb).mu i = some b) : (i = 0 ∧ b = K) ∨ (i = 1 ∧ b = gb) := by
 simp only [GhK] at h
 split at h
 ·simp only [Option.some.injEq] at h; exact .inl ⟨by assumption, h.symm⟩
 ·split at h
  ·simp only [Option.some.injEq] at h; exact .inr ⟨by assumption, h.symm⟩
  ·cases h
theorem ghk_has {K gb : Nat} {fb : Nat → Nat → Prop} {b : Nat} (h : (GhK K gb fb).has b) : b = K ∨ b = gb := by
 rcases h with ⟨i, h⟩ | ⟨id, q, h, _⟩
 ·rcases ghk_mu h with ⟨_, h⟩ | ⟨_, h⟩
  ·exact .inl h
  ·exact .inr h
 ·cases h
theorem rep_ints {g : Gh} {s : ASt} {w : World} : ∀ l : List Int, RepL g s w (ints l) (l.map fun z => .int .i64 z)
 | [] => .nil g s w
 | x :: l => .cons (.v rfl) (rep_ints l)
theorem begin_inv {g : Gh} {s : ASt} {w wr : World} {a1 a2 a3 : AV} {v1 v2 v3 : Value} {K gb nb cap : Nat} {S : List Int} (hI : Inv g s w) (hr : RepL g s w [.agg [a1, a2, a3]] [.agg #[v1, v2, v3]]) (hp : pureAVs [.agg [a1, a2, a3]] = true)
  (hb : Below w.heap.size w wr) (hK : w.heap.size ≤ K) (hg : K + 1 ≤ gb) (hKc : wr.heap[K]? = some (.cells #[v1, v2, v3, .slice (some ⟨gb, 0, none⟩) nb cap] 129 (0, 0)))
  (hrow : wr.ownsRow (K + 1) 3 1 (.slice (some ⟨gb, 0, none⟩) nb cap) nb (S.map fun z => .int .i64 z)) :
  ∃ fb, Inv (GhK K gb fb) ⟨[.cells false [a1, a2, a3, .bs 1 0 nb 1 false], .cells false (ints S)], []⟩ wr := by
 have hInv0 : Inv (Gh.empty fun b o => g.wr s b o) ⟨[], []⟩ w := Inv.empty hI.known fun b o h => hI.wr_lt h
 have hok : ∀ b o, ¬ g.wr s b o → ¬ (Gh.empty fun b o => g.wr s b o).wr ⟨[], []⟩ b o := by
  rintro b o hn (⟨i, l, h1, _⟩ | ⟨id, q, h1, _⟩ | h1)
  ·simp [Gh.empty] at h1
  ·simp [Gh.empty] at h1
  ·exact hn h1
 have hfz : ∀ i b o, g.mu i = some b → Frozen s i → ¬ (Gh.empty fun b o => g.wr s b o).wr ⟨[], []⟩ b o := by
  rintro i b o hb hf (⟨i, l, h1, _⟩ | ⟨id, q, h1, _⟩ | h1)
  ·simp [Gh.empty] at h1
  ·simp [Gh.empty] at h1
  ·exact frozen_ok (FzLe.refl s) hI i b o hb hf h1
 have hfold : [AV.agg [a1, a2, a3]].foldl (frz 20) s = s := frz_all s hp
 have hr0 := list_rep (ok := Frozen s) (frz_le 20) (purify_rep hI hok (Frozen s) hfz 20 fun h => absurd h (by decide)) (purify_all s hp) hr (FzLe.refl s) (fun i hi => by rw [hfold] at hi; exact hi)
 refine ⟨fun b o => g.wr s b o, ?_⟩
 rcases hrow.2 with ⟨h, _⟩ | ⟨g1, cap1, cur, h, hg1, hgc, hnc, hcm, hcs, htk⟩
 ·cases h
 simp only [Value.slice.injEq, Option.some.injEq, Addr.mk.injEq, and_true, true_and] at h
 obtain ⟨rfl, rfl⟩ := h
 have hKl := bl_lt hKc
 have hgl := bl_lt hgc
 have hsz := hb.size
 have hE : Ext (Gh.empty fun b o => g.wr s b o) ⟨[], []⟩ w (GhK K gb fun b o => g.wr s b o) ⟨[.cells false [a1, a2, a3, .bs 1 0 nb 1 false], .cells false (ints S)], []⟩ wr := by
  refine ⟨fun i b h => by simp [Gh.empty] at h, fun id v h => by simp at h, hsz, SzLe.same hb.block, fun b o hlt _ => hb.cell (p := ⟨b, o, none⟩) hlt, ?_, ?_, rfl, hb.os, hb.tape, hb.output, fun d => d.elim⟩
  ·rintro b o hlt hn (⟨i, l, h, _⟩ | ⟨id, q, h, _⟩ | h)
   ·rcases ghk_mu h with ⟨_, rfl⟩ | ⟨_, rfl⟩ <;> omega
   ·cases h
   ·exact hn (.inr (.inr h))
  ·intro b hlt _
   refine ⟨hb.block b hlt, fun h => ?_⟩
   rcases ghk_has h with rfl | rfl <;> omega
 obtain ⟨u, us, e, hu, _⟩ := (hr0.mono hE).cons_inv
 simp only [List.cons.injEq] at e
 obtain ⟨rfl, rfl⟩ := e
 obtain ⟨cs, e, hcs⟩ := hu.agg_inv
 obtain rfl : cs = [v1, v2, v3] := by simpa using (congrArg Array.toList (Value.agg.inj e)).symm
 refine ⟨?_, ?_, ?_, ?_, ?_, ?_, ?_, ?_, ?_, ?_⟩
 ·intro i b h
  rcases ghk_mu h with ⟨rfl, rfl⟩ | ⟨rfl, rfl⟩ <;> exact ⟨by simp, by assumption⟩
 ·intro i j b h1 h2
  rcases ghk_mu h1 with ⟨rfl, rfl⟩ | ⟨rfl, rfl⟩ <;> rcases ghk_mu h2 with ⟨rfl, h⟩ | ⟨rfl, h⟩ <;> first | rfl | omega
 ·intro i b o h ho
  rcases ghk_mu h with ⟨rfl, rfl⟩ | ⟨rfl, rfl⟩
  ·simp only [List.getElem?_cons_zero, Option.some.injEq] at ho
   subst ho
   exact ⟨[v1, v2, v3, .slice (some ⟨gb, 0, none⟩) nb cap], 129, ⟨[], by simpa using hKc⟩, hcs.append (l := [a1, a2, a3]) (.one (.bs (by simp [GhK]) hnc ⟨_, _, _, hgc, by have := hcs; omega⟩))⟩
  ·simp only [List.getElem?_cons_succ, List.getElem?_cons_zero, Option.some.injEq] at ho
   subst ho
   refine ⟨S.map fun z => .int .i64 z, 3, ⟨cur.toList.drop nb, ?_⟩, rep_ints S⟩
   rw [hgc, ← htk, Nat.mul_one, List.take_append_drop]
 ·intro id o h; cases h
 ·intro id id' o o' h; cases h
 ·intro id o i h; cases h
 ·intro b o h; exact Nat.lt_of_lt_of_le (hI.wr_lt h) hsz
 ·intro i b o h h2
  have := hI.wr_lt h2
  rcases ghk_mu h with ⟨_, rfl⟩ | ⟨_, rfl⟩ <;> omega
 ·intro id q o h; cases h
 ·intro b hk
  obtain ⟨h1, h2⟩ := hI.known b hk
  refine ⟨by omega, fun h => ?_, by rw [hb.block b h1]; exact h2⟩
  rcases ghk_has h with rfl | rfl <;> omega
end Go.Proofs.Eng
namespace Go.Proofs.Eng
open Go Go.Proofs Go.RowKit
set_option maxRecDepth 100000
def okR (c : Cd) : Bool := decide (c.bl.length ≤ 900000) && decide ((c.bl.map List.length).sum ≤ 1000000000) && (c.bl.all fun l => decide (l.length ≤ 1000000) && l.all fun x => decide (x.n.size ≤ 9223372036854775807)) && (c.gl.all fun g => decide (g.size ≤ 9223372036854775807)) && decide (c.gl.length ≤ 1000000) && decide (c.st.length ≤ 1000000)
def refO : List AV → ASt → Option (AV × ASt)
 | [a], s => match cdOf a with
  | some c => if okR c = true then some (.int c.check, s) else none
  | none => none
 | _, _ => none
theorem ref_ok : OraOK Tryz.prog 29 refO := by
 intro args s v s' hv
 refine ⟨⟨_, _, Tryz.func29, rfl, by kernel_rfl⟩, fun g w vs hI hr => ?_⟩
 unfold refO at hv
 split at hv
 ·rename_i a s0
  split at hv
  ·rename_i c hc
   split at hv
   ·rename_i hok
    simp only [Option.some.injEq, Prod.mk.injEq] at hv
    obtain ⟨rfl, rfl⟩ := hv
    obtain ⟨Bs, t1, t2, t3, rfl, hBs, p1, p2, p3⟩ := cdOf_some hc
    simp only [okR, Bool.and_eq_true, decide_eq_true_eq, List.all_eq_true] at hok
    obtain ⟨⟨⟨⟨⟨k1, k2⟩, k3⟩, k4⟩, k5⟩, k6⟩ := hok
    have hlen := hBs.len
    have hlb : lenB = 9223372036854775807 := rfl
    have hBl : LIs blIs c.bl Bs := lis_le hBs fun b hb => by have := (k3 b hb).1; omega
    have hIs : c.Is (.agg [.sl Bs t1, .sl (nmA c.gl) t2, .sl (ints c.st) t3]) := ⟨Bs, t1, t2, t3, rfl, hBl, p1, p2, p3, by omega, by omega, by omega⟩
    have hS := run_sound (md := md) hm pfsOK
    have hpa : pureAVs [.agg [.sl Bs t1, .sl (nmA c.gl) t2, .sl (ints c.st) t3]] = true := by simp [pvs_cons, pvs_nil, cdPure hIs]
    obtain ⟨u, us, rfl, hu, hnil⟩ := hr.cons_inv
    obtain rfl : us = [] := List.length_eq_zero_iff.1 hnil.1.symm
    obtain ⟨cs, rfl, hcs⟩ := hu.agg_inv
    obtain ⟨v1, cs, rfl, hv1, hcs⟩ := hcs.cons_inv
    obtain ⟨v2, cs, rfl, hv2, hcs⟩ := hcs.cons_inv
    obtain ⟨v3, cs, rfl, hv3, hcs⟩ := hcs.cons_inv
    obtain rfl : cs = [] := List.length_eq_zero_iff.1 hcs.1.symm
    have hone : v1.oneCell' = true ∧ v2.oneCell' = true ∧ v3.oneCell' = true := by
     obtain ⟨_, _, _, _, _, rfl, _⟩ := hv1.sl_inv
     obtain ⟨_, _, _, _, _, rfl, _⟩ := hv2.sl_inv
     obtain ⟨_, _, _, _, _, rfl, _⟩ := hv3.sl_inv
     exact ⟨rfl, rfl, rfl⟩
    have h20 : ∀ w1, Below w.heap.size w w1 → Calls Tryz.prog 73 #[.agg #[v1, v2, v3]] w1 fun e w2 => e = .returned (.int .i64 c.outE) ∧ Below w1.heap.size w1 w2 := fun w1 hb => by
     obtain ⟨hI1, hr1⟩ := below_rep hI hr hb
     refine (pure_callsB hS (starts_ret hIs (fun g hg => by have := k4 g hg; omega)) hpa hI1 hr1).mono ?_
     rintro e w2 ⟨_, u, rfl, rfl, hbl, hR⟩
     rw [hR.v_inv]
     exact ⟨rfl, hbl⟩
    have fin : Calls Tryz.prog 29 #[.agg #[v1, v2, v3]] w (fun e w' => e = .returned (.int .i64 c.check) ∧ Below w.heap.size w w') → Calls Tryz.prog 29 #[.agg #[v1, v2, v3]] w fun e w' => ∃ g', Inv g' s w' ∧ Ext g s w g' s w' ∧ OutRep g' s w' (.ret (.int c.check)) e := fun h => h.mono fun e w' ⟨he, hbl⟩ => by
     subst he
     have hE : Ext g s w g s w' := Ext.same hbl.size hbl.block hbl.os hbl.tape ⟨hbl.output, fun d => d.elim⟩
     exact ⟨g, hI.keep hE fun b h => hbl.block b (hI.has_lt h), hE, .v rfl⟩
    cases ho : (c.outE != 0)
    case true => exact fin (ref_no hone ho h20)
    have ho' : c.outE = 0 := by simpa [bne] using ho
    rw [ho'] at h20
    have hoo : c.bl ≠ [] ∧ (c.st.any fun s => decide (s < 1) || decide ((c.bl.length : Int) ≤ s)) = false := by
     unfold Cd.outE at ho'
     split at ho'
     ·omega
     rename_i hh
     exact ⟨fun e => hh (.inl e), by
      cases hx : (c.st.any fun s => decide (s < 1) || decide ((c.bl.length : Int) ≤ s)) with
      | false => rfl
      | true => exact absurd (.inr (.inr (.inl hx))) hh⟩
    obtain ⟨hne, hst⟩ := hoo
    have hb1 : 1 ≤ c.bl.length := by
     rcases Nat.eq_zero_or_pos c.bl.length with h | h
     ·exact absurd (List.length_eq_zero_iff.1 h) hne
     ·exact h
    refine fin (ref_walk hone h20 ?_ ⟨hb1, by omega⟩ ?_ ?_ (by omega) (fun w1 n S wr => ∃ g' s', Inv g' s' wr ∧ g'.mu 0 = some w1.heap.size ∧ KS 0 1 Bs t1 t2 t3 c S s'.H ∧ SB ((64 * n + ((c.bl.map List.length).take n).sum : Nat) : Int) S ∧ w1.heap.size ≤ wr.heap.size ∧ ∀ b, b < w1.heap.size → ¬ g'.has b) ?_ ?_ ho')
    ·obtain ⟨x, cap, b, o, cs, rfl, r1, r2, r3, r4, _⟩ := hv1.sl_inv
     exact ⟨x, cap, by rw [hlen], by omega⟩
    ·obtain ⟨x, cap, b, o, cs, rfl, r1, r2, r3, r4, _⟩ := hv3.sl_inv
     have hfl : flat (ints c.st) = ints c.st := flat_one fun y hy => by
      obtain ⟨q, _, rfl⟩ := List.mem_map.1 hy; rfl
     rw [hfl] at r1
     refine ⟨x, cap, by rw [ints_len], by rw [← ints_len]; exact r4, fun n l hl => ?_⟩
     have hnl : n < c.st.length := (List.getElem?_eq_some_iff.1 hl).1
     have hx := r3 (by intro e; have := congrArg List.length e; rw [ints_len] at this; simp at this; rw [this] at hnl; simp at hnl)
     have hnc : n < cs.length := by rw [← r1.1, ints_len]; exact hnl
     have hav : (ints c.st)[n]? = some (.int l) := by rw [ints, List.getElem?_map, hl]; rfl
     have hR := r1.2 n _ _ hav (List.getElem?_eq_getElem hnc)
     have hcell := (r2 n _ (List.getElem?_eq_getElem hnc)).1
     rw [hR.v_inv] at hcell
     exact ⟨b, o, hx, hcell⟩
    ·intro x hx
     have h := List.any_eq_false.1 hst x hx
     simp only [Bool.or_eq_true, decide_eq_true_eq, not_or] at h
     omega
    ·intro w1 gb cap wr hB1 hsz1 hg hB hK hrow hSB
     obtain ⟨fb, hI2⟩ := begin_inv (K := w1.heap.size) hI hr hpa (hB1.trans (hB.mono (by omega))) (by omega) hg hK hrow
     have hSl : c.S0.length = c.bl.length := by have := hrow.1; simpa using this
     refine ⟨_, _, hI2, by simp [GhK], ⟨rfl, rfl, hSl, by decide, hBl, p1, by omega⟩, hSB.mono (by simp), hB.size, fun b hlt hb => ?_⟩
     rcases ghk_has hb with rfl | rfl <;> omega
    ·rintro w1 n l S wr ⟨g', s', hI2, hmu, kS, hS2, hsz, hnh⟩ hl
     have hle := sum_take (c.bl.map List.length) (n + 1)
     have htk : ((c.bl.map List.length).take (n + 1)).sum = ((c.bl.map List.length).take n).sum + l.length := by
      rw [List.take_add_one, List.getElem?_map, hl]; simp
     have hnl := (List.getElem?_eq_some_iff.1 hl).1
     refine (sh_calls hS (rblock_chk (V := s'.T) kS hl (fun x hx => by have := (k3 l (List.mem_of_getElem? hl)).2 x hx; omega) hS2 (by omega) (by omega)) ?_ hI2 (vs := [.pointer (some ⟨w1.heap.size, 0, none⟩), .int .i64 n]) (.cons (.ptr hmu) (.one (.v rfl)))).mono ?_
     ·intro v s1 h
      revert h
      cases blkE c.bl.length c.gl.length n l S with
      | error e => rintro ⟨rfl, _⟩; exact ⟨_, rfl⟩
      | ok S' => rintro ⟨rfl, _⟩; exact ⟨_, rfl⟩
     ·rintro e w2 ⟨z, g2, s2, hz, rfl, hI3, hE⟩
      have hbl := below_of hE hsz hnh
      cases hbk : blkE c.bl.length c.gl.length n l S with
      | error e =>
       rw [hbk] at hz
       obtain ⟨h, _⟩ := hz
       obtain rfl : z = e := by simpa [AV.int] using h
       exact ⟨rfl, hbl⟩
      | ok S' =>
       have hS' := blkE_bd hS2 (by omega) hbk
       rw [hbk] at hz
       obtain ⟨h, H', rfl, kS', hl'⟩ := hz
       obtain rfl : z = 0 := by simpa [AV.int] using h
       refine ⟨rfl, hbl, g2, _, hI3, hE.mu _ _ hmu, kS', hS'.mono (by rw [htk]; omega), by have := hbl.size; omega, fun b hb => (hE.obj b (by omega) (hnh b hb)).2⟩
   ·cases hv
  ·cases hv
 ·cases hv
end Go.Proofs.Eng
namespace Go.Proofs.Eng
open Go Go.Proofs Go.RowKit
set_option maxRecDepth 100000
theorem unwindA_ext {call : Oracle} {md : FuncId → Md} {p1 p2 : FuncId → Option PF} (hp : ∀ f pf, p1 f = some pf → p2 f = some pf) : ∀ (ds : List (FuncId × List AV)) (p : Option AV) (s : ASt) r, unwindA call md p1 ds p s = some r → unwindA call md p2 ds p s = some r
 | [], p, s, r, h => h
 | (f, args) :: ds, p, s, r, h => by
  simp only [unwindA] at h ⊢
  cases hf : p1 f with
  | none => rw [hf] at h; cases h
  | some pf =>
   rw [hf] at h
   rw [hp f pf hf]
   simp only at h ⊢
   split at h
   ·cases h
   ·rename_i hq
    rw [if_neg hq]
    split at h
    ·rename_i rc st hx
     split at h
     ·rename_i hc
      rw [if_pos hc]; exact unwindA_ext hp ds _ _ r h
     ·cases h
    ·rename_i rc st hx
     split at h
     ·rename_i hc
      rw [if_pos hc]; exact unwindA_ext hp ds _ _ r h
     ·cases h
    ·cases h
theorem leaveA_ext {call : Oracle} {md : FuncId → Md} {p1 p2 : FuncId → Option PF} (hp : ∀ f pf, p1 f = some pf → p2 f = some pf) {res : List PR} {st : St} {p : Option AV} {r : Outc × ASt} (h : leaveA call md p1 res st p = some r) : leaveA call md p2 res st p = some r := by
 have go : ∀ df, (match unwindA call md p1 df p st.s with
  | some (none, s) => (resA st.tm s res).map fun l => (Outc.ret (oneA l), s)
  | some (some v, s) => some (Outc.pan v, s)
  | none => none) = some r → (match unwindA call md p2 df p st.s with
  | some (none, s) => (resA st.tm s res).map fun l => (Outc.ret (oneA l), s)
  | some (some v, s) => some (Outc.pan v, s)
  | none => none) = some r := fun df h => by
  cases hu : unwindA call md p1 df p st.s with
  | none => rw [hu] at h; cases h
  | some x => rw [hu] at h; rw [unwindA_ext hp _ _ _ _ hu]; exact h
 unfold leaveA at h ⊢
 cases hd : st.df with
 | nil =>
  rw [hd] at h
  cases p <;> exact h
 | cons d ds =>
  rw [hd] at h
  exact go _ h
theorem bodyA_ext {call : Oracle} {md : FuncId → Md} {p1 p2 : FuncId → Option PF} (hp : ∀ f pf, p1 f = some pf → p2 f = some pf) {F : Nat} {pf : PF} {args : List AV} {s : ASt} {r : Outc × ASt} (h : bodyA call md p1 F pf args s = some r) : bodyA call md p2 F pf args s = some r := by
 unfold bodyA at h ⊢
 split at h
 ·split at h
  ·cases h
  ·rename_i hq; rw [if_neg hq]; exact leaveA_ext hp h
 ·split at h
  ·cases h
  ·rename_i hq; rw [if_neg hq]; exact leaveA_ext hp h
 ·split at h
  ·cases h
  ·rename_i hq; rw [if_neg hq]; exact leaveA_ext hp h
 ·cases h
theorem callN_ext {md : FuncId → Md} {p1 p2 : FuncId → Option PF} (hp : ∀ f pf, p1 f = some pf → p2 f = some pf) : ∀ (F : Nat) f args s r, callN md p1 F f args s = some r → callN md p2 F f args s = some r
 | 0, f, args, s, r, e => by simp [callN] at e
 | F + 1, f, args, s, r, e => by
  simp only [callN] at e ⊢
  cases hf : p1 f with
  | none => rw [hf] at e; simp at e
  | some pf =>
   rw [hf] at e
   rw [hp f pf hf]
   simp only at e ⊢
   cases ho : pf.body.ora? with
   | some o => rw [ho] at e; exact e
   | none =>
    rw [ho] at e
    exact bodyA_ext hp (bodyA_mono (fun f args s r e => callN_ext hp F f args s r e) (Nat.le_refl _) e)
theorem run_ext {md : FuncId → Md} {p1 p2 : FuncId → Option PF} (hp : ∀ f pf, p1 f = some pf → p2 f = some pf) {f : FuncId} {args : List AV} {s : ASt} {r : Outc × ASt} (h : run md p1 f args s = some r) : run md p2 f args s = some r := by
 obtain ⟨F, hF⟩ := (run_cont p1 f args s).fin _ h
 exact run_of (callN_ext hp F f args s r hF)
theorem Out.ext {md : FuncId → Md} {p1 p2 : FuncId → Option PF} (hp : ∀ f pf, p1 f = some pf → p2 f = some pf) {f : FuncId} {args : List AV} {PR PP : AV → Prop} (h : Out md p1 f args PR PP) : Out md p2 f args PR PP := by
 obtain ⟨out, s, out', h1, h2, h3⟩ := h
 exact ⟨out, s, out', run_ext hp h1, h2, h3⟩
end Go.Proofs.Eng
namespace Go.Proofs.Eng
open Go Go.Proofs
set_option maxRecDepth 100000
set_option maxHeartbeats 16000000
structure Ap (H : List AObj) (V : List Nat) (H' : List AObj) (V' : List Nat) : Prop where
 h : ∀ (k : Nat) (o : AObj), H[k]? = some o → H'[k]? = some o
 v : ∀ (i v : Nat), V[i]? = some v → V'[i]? = some v
theorem Ap.refl (H : List AObj) (V : List Nat) : Ap H V H V := ⟨fun _ _ h => h, fun _ _ h => h⟩
theorem Ap.trans {A B C : List AObj} {V V' V'' : List Nat} (h : Ap A V B V') (k : Ap B V' C V'') : Ap A V C V'' := ⟨fun i o e => k.h i o (h.h i o e), fun i v e => k.v i v (h.v i v e)⟩
theorem Ap.app (H : List AObj) (V : List Nat) (G : List AObj) : Ap H V (H ++ G) V := ⟨fun _ _ h => app_get_of h G, fun _ _ h => h⟩
theorem clone_ret {es : Nat} {f : FuncId} (hf : pfs f = some ⟨0, [], .ora (clnO es)⟩) {l : List AV} (t : Tl) (hl : l.length ≤ 1073741824) (hp : pureAVs l = true) (hc : (l.all fun x => x.cells.length == es && x.cells.all oneCell) = true) :
  Out md pfs f [.sl l t] (fun v => ∃ t', v = .sl l t' ∧ t'.pure = true) fun _ => False := by
 cases l with
 | nil =>
  have hn : (nilTl (.sl [] t)).pure = true := by unfold nilTl; split <;> rfl
  have := run_ora (md := md) (pfs := pfs) hf rfl (args := [.sl [] t]) (v := .sl [] (nilTl (.sl [] t))) (s := ⟨[], []⟩) (s' := ⟨[], []⟩) rfl
  exact ⟨_, _, .ret (.sl [] (nilTl (.sl [] t))), this, by rw [Outc.purify, purify_pure (by rw [pv_sl, hn]; rfl)]; rfl, _, rfl, hn⟩
 | cons x l =>
  have := run_ora (md := md) (pfs := pfs) hf rfl (args := [.sl (x :: l) t]) (v := .sl (x :: l) (.tl 0 0)) (s := ⟨[], []⟩) (s' := ⟨[], [0]⟩) (by rw [clnO, if_pos ⟨hl, hc⟩]; rfl)
  exact ⟨_, _, .ret (.sl (x :: l) ((Tl.tl 0 0).stripR 1019 ⟨[], [0]⟩)), this, by rw [Outc.purify, pz_sl, mapO_at hp]; rfl, _, rfl, stripR_pure _ _ _⟩
theorem insA_one (l : List Ins) : ((insA l).all fun x => x.cells.length == 4 && x.cells.all oneCell) = true := by
 rw [List.all_eq_true]; intro x hx
 obtain ⟨b, _, rfl⟩ := List.mem_map.1 hx; rfl
theorem nmA_one (l : List ByteArray) : ((nmA l).all fun x => x.cells.length == 1 && x.cells.all oneCell) = true := by
 rw [List.all_eq_true]; intro x hx
 obtain ⟨b, _, rfl⟩ := List.mem_map.1 hx; rfl
theorem ints_one (l : List Int) : ((ints l).all fun x => x.cells.length == 1 && x.cells.all oneCell) = true := by
 rw [List.all_eq_true]; intro x hx
 obtain ⟨b, _, rfl⟩ := List.mem_map.1 hx; rfl
def mcs (Bl : List AV) (tb t2 t3 : Tl) (c : Cd) (bk at' : Int) (ea sa fa : AV) (steps : Int) (hlt : Bool) (err : Int) (m : Nat) : List AV := [.sl Bl tb, .sl (nmA c.gl) t2, .sl (ints c.st) t3, .int bk, .int at', ea, sa, fa, .int steps, .bool hlt, .int err,
 .bm 42 [.ptr m 0], .bm 43 [.ptr m 0], .bm 44 [.ptr m 0], .bm 45 [.ptr m 0], .bm 46 [.ptr m 0], .bm 47 [.ptr m 0], .bm 48 [.ptr m 0], .bm 49 [.ptr m 0], .bm 50 [.ptr m 0], .bm 51 [.ptr m 0], .bm 52 [.ptr m 0], .bm 53 [.ptr m 0], .bm 54 [.ptr m 0], .bm 55 [.ptr m 0], .bm 56 [.ptr m 0]]
def mcs0 (Bl : List AV) (tb t2 t3 : Tl) (c : Cd) : List AV := [.sl Bl tb, .sl (nmA c.gl) t2, .sl (ints c.st) t3, .int 0, .int 0, .v (.pointer none), .sl [] .nil, .sl [] .nil, .int 0, .bool false, .int 0,
 .v .nilFunc, .v .nilFunc, .v .nilFunc, .v .nilFunc, .v .nilFunc, .v .nilFunc, .v .nilFunc, .v .nilFunc, .v .nilFunc, .v .nilFunc, .v .nilFunc, .v .nilFunc, .v .nilFunc, .v .nilFunc, .v .nilFunc]
theorem New_raw {c : Cd} {a : AV} (h : c.Is a) (hn : ∀ g ∈ c.gl, g.size ≤ lenB) (hnm : ∀ b ∈ c.bl, ∀ x ∈ b, x.n.size ≤ lenB) (hb : c.bl.length ≤ 1000000) (hsum : (c.bl.map List.length).sum ≤ 1000000000) (hg : c.gl.length ≤ 1000000) (hs : c.st.length ≤ 1000000) (H : List AObj) (V : List Nat) :
  Rw 12 [a] ⟨H, V⟩ fun v s1 => ∃ H1 V1, s1 = ⟨H1, V1⟩ ∧ Ap H V H1 V1 ∧ ((c.check ≠ 0 ∧ v = .tup [.v (.pointer none), .int c.check]) ∨ (c.check = 0 ∧ ∃ m Bl tb t2 t3, H.length ≤ m ∧ v = .tup [.ptr m 0, .int 0] ∧ H1[m]? = some (.cells false (mcs Bl tb t2 t3 c 0 0 (.v (.pointer none)) (.sl [] .nil) (.sl [] .nil) 0 false 0 m)) ∧ LIs blX c.bl Bl)) := by
 obtain ⟨Bs, t1, t2, t3, rfl, g1, g2, g3, g4, g5, g6, g7⟩ := id h
 have hBl := g1.len
 have hcap : capB = 1073741824 := rfl
 have hlb : lenB = 9223372036854775807 := rfl
 have hpA := cdPure h
 have hBa : (Bs.all fun x => x.cells.length == 1) = true := List.all_eq_true.2 fun y hy => by
  obtain ⟨q, hq⟩ := List.mem_iff_getElem?.1 hy
  obtain ⟨b, a, _, _, _, e4, ⟨t, rfl, _⟩⟩ := g1.at (i := q) (List.getElem?_eq_some_iff.1 hq).1
  rw [hq] at e4; cases e4; rfl
 refine rw_of pf12_is (Nat.le_of_ble_eq_true rfl) ?_
 obtain ⟨_, rfl, cck⟩ := (code_ret h hn hnm hb (by omega)).call rfl (by simp [pvs_cons, pvs_nil, hpA])
 cases hz : (c.check == 0)
 ·have hz' : c.check ≠ 0 := by simpa using hz
  have hne : (c.check != 0) = true := by simp [bne, hz]
  simp only [pf12, ↓wpre, wall, simprocAttr, List.length_append, List.append_assoc, app_get_len, app_get_add, app_set_len, app_set_add, AQ_ret, AQ_normal, cck, hz, hne]
  exact ⟨_, _, rfl, .app _ _ _, .inl hz'⟩
 have hz' : c.check = 0 := by simpa using hz
 rw [hz'] at cck
 obtain ⟨_, ⟨u2, rfl, w2⟩, cg⟩ := (clone_ret (f := 39) (es := 1) (by simp [pfs]) (l := nmA c.gl) t2 (by rw [nmA_len]; omega) (nmPure _) (nmA_one _)).call rfl (by simp [pvs_cons, pvs_nil, pv_sl, g3, nmPure])
 obtain ⟨_, ⟨u3, rfl, w3⟩, cs⟩ := (clone_ret (f := 40) (es := 1) (by simp [pfs]) (l := ints c.st) t3 (by rw [ints_len]; omega) (ints_pure _) (ints_one _)).call rfl (by simp [pvs_cons, pvs_nil, pv_sl, g4, ints_pure])
 simp only [pf12, ↓wpre, wall, simprocAttr, List.length_append, List.append_assoc, app_get_len, app_get_add, app_set_len, app_set_add, AQ_ret, AQ_normal, cck, cg, cs]
 obtain ⟨A, hA⟩ : ∃ A, A = H ++ [AObj.cells false [.sl Bs t1, .sl (nmA c.gl) t2, .sl (ints c.st) t3]] := ⟨_, rfl⟩
 have hAl : A.length = H.length + 1 := by rw [hA]; simp
 obtain ⟨m, hm⟩ : ∃ m, m = H.length + 1 := ⟨_, rfl⟩
 refine W_loopE (fun j => Bs.length - j) (fun j E H' V' => ∃ Bl tb, j ≤ Bs.length ∧ E 5 = .ptr m 0 ∧ E 23 = .sl Bs t1 ∧ E 24 = .int Bs.length ∧ E 25 = .int (j : Nat) ∧ H'[m]? = some (.cells false (mcs0 Bl tb u2 u3 c)) ∧ Ap H V H' V' ∧ LIs blX (c.bl.take j) Bl ∧ App V' Bl tb ∧ V.length ≤ V'.length ∧ ∀ i v, tb = .tl i v → V.length ≤ i) ?_ 0 ?_
 ·rintro j E H1 V1 ⟨Bl, tb, hj, e5, e23, e24, e25, b1, hAp, hBlx, hApp, hV, hown⟩
  rcases Nat.lt_or_ge j Bs.length with hlt | hge
  ·have hdec : decide ((j : Int) < Bs.length) = true := by simpa using hlt
   obtain ⟨b, _, d0, _, dm, d4, ⟨t, rfl, ht, hbl⟩⟩ := g1.at hlt
   have hbs : b.length ≤ 1000000000 := by
    have := sum_mem (List.mem_map_of_mem (f := List.length) dm); omega
   obtain ⟨_, ⟨t', rfl, _⟩, cb⟩ := (clone_ret (f := 41) (es := 4) (by simp [pfs]) (l := insA b) t (by rw [insA_len]; omega) (insPure _) (insA_one _)).call rfl (by simp [pvs_cons, pvs_nil, pv_sl, ht, insPure])
   have hBx := hBlx.len
   rw [List.length_take] at hBx
   obtain ⟨tb', V2, q1, q2, q3⟩ := app_many (es := 1) (xs := [.sl (insA b) t']) hApp (by simp only [List.length_cons, List.length_nil]; omega) (List.all_eq_true.2 fun y hy => by
    obtain ⟨q, hq⟩ := List.mem_iff_getElem?.1 hy
    obtain ⟨b, a, _, _, _, e4, e5⟩ := hBlx.at (i := q) (List.getElem?_eq_some_iff.1 hq).1
    rw [hq] at e4; cases e4
    exact blAgg e5) rfl
   have hml := lt_of_get b1
   simp only [mcs0] at b1
   simp only [↓wpre, wall, simprocAttr, List.length_append, List.append_assoc, app_get_len, app_get_add, app_set_len, app_set_add, e5, e23, e24, e25, hdec, d4, hBa, b1, cb, q1]
   refine EQ_in ⟨j + 1, by omega, _, _, by omega, e5, e23, e24, next_ixv (by omega), ?_, ⟨fun k o hk => ?_, fun i v hv => ?_⟩, ?_, q2, Nat.le_trans hV q3.1, fun i v e => ?_⟩
   ·rw [List.getElem?_set, if_pos rfl, if_pos hml]; rfl
   ·have hk' := hAp.h k o hk
    have := lt_of_get hk
    rw [List.getElem?_set, if_neg (by omega)]; exact hk'
   ·have := (List.getElem?_eq_some_iff.1 hv).1
    exact q3.2.1 i v (hAp.v i v hv) fun ver e => by have := hown i ver e; omega
   ·rw [List.take_add_one, d0]
    exact hBlx.append (.one ⟨t', rfl⟩)
   ·rcases q3.2.2 i v e with ⟨v0, h⟩ | h
    ·exact hown i v0 h
    ·omega
  ·have hdec : decide ((j : Int) < Bs.length) = false := by simpa using hge
   rw [List.take_of_length_le (by omega)] at hBlx
   have hml := lt_of_get b1
   simp only [mcs0] at b1
   simp only [↓wpre, wall, simprocAttr, List.length_append, List.append_assoc, app_get_len, app_get_add, app_set_len, app_set_add, e5, e23, e24, e25, hdec, b1, AQ_ret, AQ_normal]
   refine ⟨_, _, rfl, ⟨fun k o hk => ?_, hAp.v⟩, .inr ⟨hz', m, Bl, tb, u2, u3, by omega, rfl, ?_, hBlx⟩⟩
   ·have hk' := hAp.h k o hk
    have := lt_of_get hk
    rw [List.getElem?_set, if_neg (by omega)]; exact hk'
   ·rw [List.getElem?_set, if_pos rfl, if_pos hml]; rfl
 ·subst hm
  exact ⟨[], .nil, Nat.zero_le _, rfl, rfl, rfl, rfl, by simp [mcs0], .app _ _ _, trivial, .inl ⟨rfl, rfl⟩, Nat.le_refl _, fun _ _ e => by cases e⟩
section
variable {c : Cd} {Bl : List AV} {tb t2 t3 : Tl} {bk at' : Int} {ea sa fa : AV} {steps : Int} {hlt : Bool} {err : Int} {m : Nat} {H : List AObj} {V : List Nat}
theorem Steps_raw (h : H[m]? = some (.cells false (mcs Bl tb t2 t3 c bk at' ea sa fa steps hlt err m))) : Rw 21 [.ptr m 0] ⟨H, V⟩ fun v s1 => s1 = ⟨H, V⟩ ∧ v = .int steps := by
 refine rw_of pf21_is (Nat.le_of_ble_eq_true rfl) ?_
 simp only [mcs] at h
 simp only [pf21, ↓wpre, wall, simprocAttr, List.length_append, List.append_assoc, app_get_len, app_get_add, app_set_len, app_set_add, AQ_ret, AQ_normal, h]
theorem Depth0_raw (h : H[m]? = some (.cells false (mcs Bl tb t2 t3 c bk at' ea sa (.sl [] .nil) steps hlt err m))) : Rw 22 [.ptr m 0] ⟨H, V⟩ fun v s1 => s1 = ⟨H, V⟩ ∧ v = .int 0 := by
 refine rw_of pf22_is (Nat.le_of_ble_eq_true rfl) ?_
 simp only [mcs] at h
 simp only [pf22, ↓wpre, wall, simprocAttr, List.length_append, List.append_assoc, app_get_len, app_get_add, app_set_len, app_set_add, AQ_ret, AQ_normal, h]
theorem Result0_raw (h : H[m]? = some (.cells false (mcs Bl tb t2 t3 c bk at' ea sa fa steps false err m))) : Rw 28 [.ptr m 0] ⟨H, V⟩ fun v s1 => (∃ G, s1 = ⟨H ++ G, V⟩) ∧ v = .tup [.agg [.str ⟨#[]⟩, .sl [] .nil], .int 27] := by
 have hl := lt_of_get h
 refine rw_of pf28_is (Nat.le_of_ble_eq_true rfl) ?_
 simp only [mcs] at h
 simp only [pf28, ↓wpre, wall, simprocAttr, List.length_append, List.append_assoc, app_get_len, app_get_add, app_set_len, app_set_add, AQ_ret, AQ_normal, h, app_get_of h]
 exact ⟨_, rfl⟩
theorem Run0_raw (h : H[m]? = some (.cells false (mcs Bl tb t2 t3 c bk at' ea sa fa steps false err m))) : Rw 15 [.ptr m 0, .int 0] ⟨H, V⟩ fun v s1 => s1 = ⟨H, V⟩ ∧ v = .tup [.bool false, .int err] := by
 refine rw_of pf15_is (Nat.le_of_ble_eq_true rfl) ?_
 simp only [mcs] at h
 simp only [pf15, ↓wpre, wall, simprocAttr, List.length_append, List.append_assoc, app_get_len, app_get_add, app_set_len, app_set_add, AQ_ret, AQ_normal, h]
 refine W_loopE (fun _ => 0) (fun (_ : Nat) E H' V' => E 0 = .ptr m 0 ∧ E 1 = .int 0 ∧ H' = H ∧ V' = V) ?_ 0 ⟨rfl, rfl, rfl, rfl⟩
 rintro j E _ _ ⟨e0, e1, rfl, rfl⟩
 have hd : decide ((0 : Int) > 0) = false := rfl
 simp only [↓wpre, wall, simprocAttr, List.length_append, List.append_assoc, app_get_len, app_get_add, app_set_len, app_set_add, e0, e1, hd, AQ_ret, AQ_normal, h]
end
end Go.Proofs.Eng
namespace Go.Proofs.Eng
open Go Go.Proofs
set_option maxRecDepth 100000
set_option maxHeartbeats 16000000
def few57 (c : Cd) : Bool := ((c.bl.take 80).all fun b => decide (b.length ≤ 120)) && (decide (c.bl.length ≤ 60) && decide (c.gl.length ≤ 20) && decide (c.st.length ≤ 20))
theorem few57_ret {c : Cd} {a : AV} (h : c.Is a) : Out md pfs 10 [a] (· = .bool (few57 c)) fun _ => False := by
 obtain ⟨Bs, t1, t2, t3, rfl, g1, g2, g3, g4, g5, g6, g7⟩ := id h
 have hBl := g1.len
 have hlb : lenB = 9223372036854775807 := rfl
 have hBa : (Bs.all fun x => x.cells.length == 1) = true := List.all_eq_true.2 fun y hy => by
  obtain ⟨q, hq⟩ := List.mem_iff_getElem?.1 hy
  obtain ⟨b, a, _, _, _, e4, ⟨t, rfl, _⟩⟩ := g1.at (i := q) (List.getElem?_eq_some_iff.1 hq).1
  rw [hq] at e4; cases e4; rfl
 refine out_of pf10_is (Nat.le_of_ble_eq_true rfl) ?_
 simp only [pf10, ↓wpre, wall, simprocAttr, List.length_append, List.append_assoc, app_get_len, app_get_add, app_set_len, app_set_add]
 refine W_loopE (fun i => Bs.length - i) (fun i E H T => H = [.cells false [.sl Bs t1, .sl (nmA c.gl) t2, .sl (ints c.st) t3]] ∧ E 1 = .ptr 0 0 ∧ E 3 = .int (i : Nat) ∧ i ≤ Bs.length ∧ i ≤ 80 ∧ ((c.bl.take i).all fun b => decide (b.length ≤ 120)) = true) ?_ 0 ⟨rfl, rfl, rfl, Nat.zero_le _, Nat.zero_le _, rfl⟩
 rintro i E _ T ⟨rfl, e1, e3, hi, h80, hb⟩
 have fin : c.bl.take i = c.bl.take 80 → few57 c = (decide (c.bl.length ≤ 60) && decide (c.gl.length ≤ 20) && decide (c.st.length ≤ 20)) := fun e => by
  rw [few57, ← e, hb, Bool.true_and]
 have ends : ∀ {d : Prop} [Decidable d] {n k : Nat}, (decide ((n : Int) ≤ (k : Nat)) = decide (n ≤ k)) := fun {_ _ n k} => by
  rw [decide_eq_decide]; omega
 rcases Nat.lt_or_ge i Bs.length with hlt | hge
 ·have hdec : decide ((i : Int) < Bs.length) = true := by simpa using hlt
  rcases Nat.lt_or_ge i 80 with h8 | h8
  ·have hd8 : decide ((i : Int) < 80) = true := by simp; omega
   obtain ⟨b, _, d0, _, _, d4, ⟨t, rfl, _, hbl⟩⟩ := g1.at hlt
   cases q : decide (((b.length : Nat) : Int) > 120)
   ·simp only [↓wpre, wall, simprocAttr, List.length_append, List.append_assoc, app_get_len, app_get_add, app_set_len, app_set_add, e1, e3, hdec, hd8, hBa, d4, insA_len, q]
    refine EQ_in ⟨i + 1, by omega, rfl, e1, next_ixv (by omega), by omega, by omega, ?_⟩
    rw [List.take_add_one, d0, List.all_append, hb]
    simp only [decide_eq_false_iff_not] at q
    simp; omega
   ·simp only [↓wpre, wall, simprocAttr, List.length_append, List.append_assoc, app_get_len, app_get_add, app_set_len, app_set_add, e1, e3, hdec, hd8, hBa, d4, insA_len, q]
    have : few57 c = false := by
     rw [few57, Bool.and_eq_false_iff]
     refine .inl ?_
     rw [List.all_eq_false]
     refine ⟨b, List.mem_of_getElem? (i := i) (by rw [List.getElem?_take_of_lt h8]; exact d0), ?_⟩
     simp only [decide_eq_true_eq] at q ⊢; omega
    rw [this]
  ·have hd8 : decide ((i : Int) < 80) = false := by simp; omega
   have hi8 : i = 80 := by omega
   rw [hi8] at hb
   rw [fin (by rw [hi8])]
   have q1 : decide ((Bs.length : Int) ≤ 60) = false := by simp; omega
   have q1' : decide (c.bl.length ≤ 60) = false := by simp; omega
   simp only [↓wpre, wall, simprocAttr, List.length_append, List.append_assoc, app_get_len, app_get_add, app_set_len, app_set_add, e1, e3, hdec, hd8, q1, q1', Bool.false_and]
 ·have hdec : decide ((i : Int) < Bs.length) = false := by simpa using hge
  rw [fin (by rw [List.take_of_length_le (by omega), List.take_of_length_le (by omega)])]
  have q1 : decide ((Bs.length : Int) ≤ 60) = decide (c.bl.length ≤ 60) := by rw [decide_eq_decide]; omega
  have q2 : decide ((c.gl.length : Int) ≤ 20) = decide (c.gl.length ≤ 20) := by rw [decide_eq_decide]; omega
  have q3 : decide ((c.st.length : Int) ≤ 20) = decide (c.st.length ≤ 20) := by rw [decide_eq_decide]; omega
  cases d1 : decide (c.bl.length ≤ 60)
  ·simp only [↓wpre, wall, simprocAttr, List.length_append, List.append_assoc, app_get_len, app_get_add, app_set_len, app_set_add, e1, e3, hdec, q1, d1, Bool.false_and]
  ·cases d2 : decide (c.gl.length ≤ 20)
   ·simp only [↓wpre, wall, simprocAttr, List.length_append, List.append_assoc, app_get_len, app_get_add, app_set_len, app_set_add, e1, e3, hdec, q1, d1, nmA_len, q2, d2, Bool.false_and, Bool.true_and]
   ·simp only [↓wpre, wall, simprocAttr, List.length_append, List.append_assoc, app_get_len, app_get_add, app_set_len, app_set_add, e1, e3, hdec, q1, d1, nmA_len, ints_len, q2, d2, q3, Bool.true_and]
noncomputable def pfs3 (f : Nat) : Option PF := if f = 29 then some ⟨0, [], .ora refO⟩ else pfs f
theorem pfs_le3 : ∀ f pf, pfs f = some pf → pfs3 f = some pf := fun f pf h => by
 unfold pfs3
 split
 ·rename_i hf; subst hf; simp [pfs] at h
 ·exact h
theorem pfsOK3 : PfsOK Tryz.prog pfs3 := fun f pf h => by
 unfold pfs3 at h
 split at h
 ·rename_i hf
  subst hf
  simp only [Option.some.injEq] at h; subst h
  exact .inr (.inl ⟨_, rfl, ref_ok⟩)
 ·exact pfsOK f pf h
theorem Ref_out {c : Cd} {a : AV} (h : cdOf a = some c) (hok : okR c = true) : Out md pfs3 29 [a] (· = .int c.check) fun _ => False := by
 have := run_ora (md := md) (pfs := pfs3) (f := 29) (pf := ⟨0, [], .ora refO⟩) (by simp [pfs3]) rfl (args := [a]) (v := .int c.check) (s := ⟨[], []⟩) (s' := ⟨[], []⟩) (by
  simp only [refO, h]
  rw [if_pos hok])
 exact ⟨_, _, .ret _, this, rfl, rfl⟩
theorem Rw.call3 {f : FuncId} {args : List AV} {s : ASt} {PR : AV → ASt → Prop} (h : Rw f args s PR) (hm : md f = .raw) : ∃ v s', PR v s' ∧ ∀ K KP, CW (run md pfs3) md false s f args K KP () = K v s' := by
 obtain ⟨v, s1, h1, h2⟩ := h
 have h1 := run_ext pfs_le3 h1
 exact ⟨v, s1, h2, fun K KP => by simp [CW, callA, hm, h1]⟩
theorem few57_ok {c : Cd} (h : few57 c = true) (hn : ∀ g ∈ c.gl, g.size ≤ lenB) (hnm : ∀ b ∈ c.bl, ∀ x ∈ b, x.n.size ≤ lenB) : okR c = true ∧ c.bl.length ≤ 60 ∧ (c.bl.map List.length).sum ≤ 7200 ∧ c.gl.length ≤ 20 ∧ c.st.length ≤ 20 := by
 simp only [few57, Bool.and_eq_true, decide_eq_true_eq, List.all_eq_true] at h
 obtain ⟨h0, ⟨h1, h2⟩, h3⟩ := h
 rw [List.take_of_length_le (by omega)] at h0
 have hlb : lenB = 9223372036854775807 := rfl
 have key : ∀ l : List (List Ins), (∀ b ∈ l, b.length ≤ 120) → (l.map List.length).sum ≤ 120 * l.length := by
  intro l
  induction l with
  | nil => simp
  | cons x l ih =>
   intro h
   have h1 := h x (by simp)
   have h2 := ih fun y hy => h y (by simp [hy])
   simp only [List.map_cons, List.sum_cons, List.length_cons]; omega
 have hs := key _ h0
 refine ⟨?_, h1, by omega, h2, h3⟩
 simp only [okR, Bool.and_eq_true, decide_eq_true_eq, List.all_eq_true]
 exact ⟨⟨⟨⟨⟨by omega, by omega⟩, fun b hb => ⟨by have := h0 b hb; omega, fun x hx => by have := hnm b hb x hx; omega⟩⟩, fun g hg => by have := hn g hg; omega⟩, by omega⟩, by omega⟩
end Go.Proofs.Eng
namespace Go.Proofs.Eng
open Go Go.Proofs Go.RowKit
set_option maxRecDepth 100000
def isTrueA : Option (Outc × ASt) → Bool
 | some (.ret (.v (.bool true)), _) => true
 | _ => false
theorem awake_try : isTrueA (callN md pfs 200 11 [] ⟨[], []⟩) = true := by kernel_rfl
theorem awake_ret : Out md pfs 11 [] (· = .bool true) fun _ => False := by
 have h := awake_try
 cases hc : callN md pfs 200 11 [] ⟨[], []⟩ with
 | none => rw [hc] at h; cases h
 | some r =>
  obtain ⟨o, s⟩ := r
  rw [hc] at h
  unfold isTrueA at h
  split at h
  ·rename_i s' e
   simp only [Option.some.injEq, Prod.mk.injEq] at e
   obtain ⟨rfl, rfl⟩ := e
   exact ⟨_, _, .ret (.bool true), run_of hc, rfl, rfl⟩
  ·cases h
end Go.Proofs.Eng
namespace Go.Proofs.Eng
open Go Go.Proofs
set_option maxRecDepth 100000
set_option maxHeartbeats 16000000
theorem pf3' {f : Nat} {pf : PF} (h : pfs f = some pf) : pfs3 f = some pf := pfs_le3 f pf h
theorem news_law {c : Cd} {a : AV} (h : c.Is a) (hn : ∀ g ∈ c.gl, g.size ≤ lenB) (hnm : ∀ b ∈ c.bl, ∀ x ∈ b, x.n.size ≤ lenB) : Out md pfs3 8 [a] (· = .bool true) fun _ => False := by
 obtain ⟨Bs, t1, t2, t3, rfl, g1, g2, g3, g4, g5, g6, g7⟩ := id h
 have hpu : pureAVs [.agg [.sl Bs t1, .sl (nmA c.gl) t2, .sl (ints c.st) t3]] = true := by simp [pvs_cons, pvs_nil, cdPure h]
 refine out_of (pf3' pf8_is) (Nat.le_of_ble_eq_true rfl) ?_
 obtain ⟨_, rfl, cf⟩ := ((few57_ret h).ext pfs_le3).call rfl hpu
 obtain ⟨_, rfl, ca⟩ := (awake_ret.ext pfs_le3).call rfl rfl
 cases hf : few57 c
 ·rw [hf] at cf
  simp only [pf8, ↓wpre, wall, simprocAttr, List.length_append, List.append_assoc, app_get_len, app_get_add, app_set_len, app_set_add, cf, ca]
 rw [hf] at cf
 obtain ⟨o1, o2, o3, o4, o5⟩ := few57_ok hf hn hnm
 obtain ⟨_, rfl, cr⟩ := (Ref_out (cdOf_of h) o1).call rfl hpu
 cases hz : (c.check == 0)
 ·have hne : (c.check != 0) = true := by simp [bne, hz]
  simp only [pf8, ↓wpre, wall, simprocAttr, List.length_append, List.append_assoc, app_get_len, app_get_add, app_set_len, app_set_add, cf, ca, cr, hne]
 have hz' : c.check = 0 := by simpa using hz
 rw [hz'] at cr
 obtain ⟨v, s1, ⟨H1, V1, rfl, hA, hv⟩, cN⟩ := (New_raw h hn hnm (by omega) (by omega) (by omega) (by omega) [.cells false [.sl Bs t1, .sl (nmA c.gl) t2, .sl (ints c.st) t3]] []).call3 rfl
 rcases hv with ⟨hc, _⟩ | ⟨_, m, Bl, tb, u2, u3, hm, rfl, hM, hB⟩
 ·exact absurd hz' hc
 obtain ⟨v, s2, ⟨⟨G, rfl⟩, rfl⟩, cR⟩ := (Result0_raw (V := V1) hM).call3 rfl
 have hM3 := app_get_of hM (G ++ [AObj.cells false [.str ⟨#[]⟩, .sl [] .nil]])
 obtain ⟨v, s3, ⟨rfl, rfl⟩, c0⟩ := (Run0_raw (V := V1) hM3).call3 rfl
 obtain ⟨v, s4, ⟨rfl, rfl⟩, cS⟩ := (Steps_raw (V := V1) hM3).call3 rfl
 obtain ⟨v, s5, ⟨rfl, rfl⟩, cD⟩ := (Depth0_raw (V := V1) hM3).call3 rfl
 simp only [pf8, ↓wpre, wall, simprocAttr, List.length_append, List.append_assoc, app_get_len, app_get_add, app_set_len, app_set_add, cf, ca, cr, cN, cR, c0, cS, cD]
end Go.Proofs.Eng
namespace Go.Proofs.Eng
open Go Go.Proofs
set_option maxRecDepth 100000
theorem cells9 : 0 < Tryz.prog.cellsOf 9 := by rw [show Tryz.prog.cellsOf 9 = 1 from by kernel_rfl]; decide
theorem cells46 : 0 < Tryz.prog.cellsOf 60 := by rw [show Tryz.prog.cellsOf 60 = 1 from by kernel_rfl]; decide
theorem cells48 : 0 < Tryz.prog.cellsOf 62 := by rw [show Tryz.prog.cellsOf 62 = 4 from by kernel_rfl]; decide
def insIs (x : Ins) (a : AV) : Prop := a = x.av ∧ x.n.size ≤ lenB
def blIsN (b : List Ins) (a : AV) : Prop := ∃ t, a = .sl (insA b) t ∧ t.pure = true ∧ b.length ≤ lenB ∧ ∀ x ∈ b, x.n.size ≤ lenB
theorem lis_map {α : Type} {R Q : α → AV → Prop} {P : α → Prop} (h : ∀ x a, R x a → Q x a ∧ P x) : ∀ {l : List α} {al : List AV}, LIs R l al → LIs Q l al ∧ ∀ x ∈ l, P x
 | [], [], _ => ⟨trivial, fun x hx => by cases hx⟩
 | [], _ :: _, h => h.elim
 | _ :: _, [], h => h.elim
 | x :: l, a :: al, ⟨h1, h2⟩ => by
  obtain ⟨k1, k2⟩ := lis_map h h2
  refine ⟨⟨(h x a h1).1, k1⟩, fun y hy => ?_⟩
  rcases List.mem_cons.1 hy with rfl | hy
  ·exact (h _ a h1).2
  ·exact k2 y hy
theorem four {α : Type} {l : List α} (h : l.length = 4) : ∃ a b c d, l = [a, b, c, d] := by
 match l, h with
 | [a, b, c, d], _ => exact ⟨a, b, c, d, rfl⟩
theorem three {α : Type} {l : List α} (h : l.length = 3) : ∃ a b c, l = [a, b, c] := by
 match l, h with
 | [a, b, c], _ => exact ⟨a, b, c, rfl⟩
theorem oft_ins {n : Nat} {l : List AV} (h : OfT Tryz.prog n 62 l) : ∃ x : Ins, insIs x (.agg l) := by
 cases n with
 | zero => exact h.elim
 | succ n =>
  simp only [OfT, Tryz.underlying62] at h
  rw [if_pos (by kernel_rfl)] at h
  obtain ⟨xs, rfl, hl, hx⟩ := h
  obtain ⟨a, b, c, d, rfl⟩ := four hl
  obtain ⟨i, rfl, _⟩ := oft_int (hx 0 _ a rfl rfl)
  obtain ⟨j, rfl, hj⟩ := oft_int (hx 1 _ b rfl rfl)
  obtain ⟨k, rfl, hk⟩ := oft_int (hx 2 _ c rfl rfl)
  obtain ⟨nm, rfl, hn⟩ := oft_str (hx 3 _ d rfl rfl)
  exact ⟨⟨i, j, k, nm⟩, rfl, hn⟩
theorem oft_bl {n : Nat} {l : List AV} (h : OfT Tryz.prog n 60 l) : ∃ b a, l = [a] ∧ blIsN b a := by
 obtain ⟨xs, al, tl, rfl, h1, h2, h3⟩ := oft_slice (R := insIs) Tryz.underlying60 cells48 (fun n l h => by
  obtain ⟨x, hx⟩ := oft_ins h
  exact ⟨x, by rw [show isAgg Tryz.prog 62 = true from by kernel_rfl]; exact hx⟩) h
 obtain ⟨k1, k2⟩ := lis_map (Q := fun x a => a = x.av) (P := fun x => x.n.size ≤ lenB) (fun x a (h : insIs x a) => ⟨h.1, h.2⟩) h1
 have e := lis_ins k1
 subst e
 exact ⟨xs, _, rfl, tl, rfl, h2, by rw [← insA_len]; exact h3, k2⟩
theorem oft_cd {n : Nat} {l : List AV} (h : OfT Tryz.prog n 26 l) : ∃ c : Cd, c.Is (.agg l) ∧ (∀ g ∈ c.gl, g.size ≤ lenB) ∧ ∀ b ∈ c.bl, ∀ x ∈ b, x.n.size ≤ lenB := by
 cases n with
 | zero => exact h.elim
 | succ n =>
  simp only [OfT, Tryz.underlying26] at h
  rw [if_pos (by kernel_rfl)] at h
  obtain ⟨xs, rfl, hl, hx⟩ := h
  obtain ⟨a, b, c, rfl⟩ := three hl
  obtain ⟨bl, Bs, t1, rfl, g1, g2, g3⟩ := oft_slice (R := blIsN) Tryz.underlying22 cells46 (fun n l h => by
   obtain ⟨b, a, rfl, hg⟩ := oft_bl h
   exact ⟨b, by rw [show isAgg Tryz.prog 60 = false from by kernel_rfl]; exact hg⟩) (hx 0 _ a rfl rfl)
  obtain ⟨gl, al, t2, rfl, k1, k2, k3⟩ := oft_slice (R := fun (s : ByteArray) a => a = .str s ∧ s.size ≤ lenB) Tryz.underlying23 cells9 (fun n l h => by
   obtain ⟨s, rfl, hs⟩ := oft_str h
   exact ⟨s, by rw [show isAgg Tryz.prog 9 = false from by kernel_rfl]; exact ⟨rfl, hs⟩⟩) (hx 1 _ b rfl rfl)
  obtain ⟨k1, k4⟩ := lis_map (Q := fun s a => a = .str s) (P := fun s => s.size ≤ lenB) (fun x a h => h) k1
  have e := lis_nm k1
  subst e
  obtain ⟨st, t3, rfl, m2, m3⟩ := oft_ints (hx 2 _ c rfl rfl)
  obtain ⟨b1, b2⟩ := lis_map (Q := blIs) (P := fun b => ∀ x ∈ b, x.n.size ≤ lenB) (fun x a (h : blIsN x a) => by
   obtain ⟨t, e, h1, h2, h3⟩ := h
   exact ⟨⟨t, e, h1, h2⟩, h3⟩) g1
  exact ⟨⟨bl, gl, st⟩, ⟨Bs, t1, t2, t3, rfl, b1, g2, k2, m2, g3, by rw [← nmA_len]; exact k3, m3⟩, k4, b2⟩
end Go.Proofs.Eng
namespace Go.Proofs.Eng
open Go Go.Proofs Go.Proofs.YtflfmkkcnphdcaaGreat
open Go.ChangeShapes Go.WideShapes Go.ChangeAt Go.RowKit
theorem kn57 (W : World) : Kn W := fun _ h => False.elim h
theorem try_own : ownKnob Tryz.prog.godebug = none := by kernel_rfl
theorem try_laid : laidOutB Tryz.prog = true := by kernel_rfl
end Go.Proofs.Eng
