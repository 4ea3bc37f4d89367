/- The queue's iterator: a walk. No conditions beyond those in the theorems. -/
import Derived.Test.YtodnkbnbjhcikaaDoorFC
import Derived.RangeFuncBox
import Derived.RangeFuncLeaves
import Derived.Shelf.Abstract
import Derived.WalkKit
import Derived.OwnWalkIn
import Derived.TacticsInMore
import Derived.LoopNIn
import Derived.LoopIn
set_option linter.all false
set_option linter.deprecated false
set_option linter.unnecessarySimpa false
set_option linter.unusedVariables false
set_option linter.unusedSimpArgs false
set_option linter.defProp false
namespace Go.Proofs.Eng
open Go Go.Proofs Go.RowKit Go.Shelf
attribute [local go_sem] Oper.semAt_some
theorem cell_of {g : Gh} {s : ASt} {w : World} (hI : Inv g s w) {i b : Nat} (hb : g.mu i = some b) {fz : Bool} {l : List AV} (hl : s.H[i]? = some (.cells fz l)) {k : Nat} {a : AV} (ha : l[k]? = some a) : ∃ c, w.cell? ⟨b, k, none⟩ = some c ∧ Rep g s w a c := by
  obtain ⟨cs, el, ⟨rest, hh⟩, hr⟩ := hI.obj i b _ hb hl
  have hk : k < cs.length := by rw [← hr.1]; exact (List.getElem?_eq_some_iff.1 ha).1
  refine ⟨cs[k], ?_, hr.2 k a _ ha (List.getElem?_eq_getElem hk)⟩
  simp only [World.cell?, hh]
  simp [List.getElem?_append_left hk, hk]
theorem len3 {c : List AV} (h : c.length = 3) : ∃ a0 a1 a2, c = [a0, a1, a2] := by
  match c, h with
  | [a, b, d], _ => exact ⟨a, b, d, rfl⟩
theorem it_phys {caps : List AV} {cs : List Value} {s : ASt} {k : Nat} {g : Gh} {w : World} {r : Option (List AV)} (h : itF 59 caps s k = some r) (hI : Inv g s w) (hr : RepL g s w caps cs) :
    ∃ pb pj x len cap, cs = [.pointer (some ⟨pb, 0, none⟩)] ∧ w.cell? ⟨pb, 0, none⟩ = some (.pointer (some ⟨pj, 0, none⟩)) ∧ w.cell? ⟨pj, 1, none⟩ = some (.slice x len cap) ∧ len ≤ 4000000000000000000 ∧
      ((r = none ∧ len = k) ∨ (∃ c v0 v1 v2 bb o, r = some [.agg c] ∧ k < len ∧ x = some ⟨bb, o, none⟩ ∧ w.cell? ⟨bb, o + k * 3, none⟩ = some v0 ∧ w.cell? ⟨bb, o + k * 3 + 1, none⟩ = some v1 ∧ w.cell? ⟨bb, o + k * 3 + 2, none⟩ = some v2 ∧ RepL g s w [.agg c] [.agg #[v0, v1, v2]])) := by
  simp only [itF, if_true] at h
  split at h
  · rename_i kk
    split at h
    · rename_i j hH
      split at h
      · rename_i m0 l tl hH2
        split at h
        · rename_i hc
          obtain ⟨hall, hlen⟩ := hc
          obtain ⟨u, us, rfl, hu, hnil⟩ := hr.cons_inv
          obtain rfl : us = [] := List.length_eq_zero_iff.1 hnil.1.symm
          obtain ⟨pb, hpb, rfl⟩ := hu.ptr_inv
          obtain ⟨c1, k1, r1⟩ := cell_of hI hpb hH (k := 0) rfl
          obtain ⟨pj, hpj, rfl⟩ := r1.ptr_inv
          obtain ⟨c2, k2, r2⟩ := cell_of hI hpj hH2 (k := 1) rfl
          obtain ⟨x, cap, bb, o, cs, rfl, h1, h2, h3, h4, _⟩ := r2.sl_inv
          refine ⟨pb, pj, x, l.length, cap, rfl, k1, k2, hlen, ?_⟩
          split at h
          · rename_i c hlk
            simp only [Option.some.injEq] at h; subst h
            have hkl := (List.getElem?_eq_some_iff.1 hlk).1
            have hne : l ≠ [] := by intro e; rw [e] at hkl; simp at hkl
            have hc3 : c.length = 3 := by
              have := List.all_eq_true.1 hall _ (List.mem_of_getElem? hlk)
              simpa [AV.cells] using this
            have hfd : flat (l.drop k) = (flat l).drop (k * 3) := flat_drop (fun x hx => by simpa using List.all_eq_true.1 hall x hx) k
            rw [drop_cons hlk, flat_cons] at hfd
            obtain ⟨a0, a1, a2, rfl⟩ := len3 hc3
            have hg : ∀ i a, ([a0, a1, a2] : List AV)[i]? = some a → (flat l)[k * 3 + i]? = some a := fun i a hi => by
              have : ((flat l).drop (k * 3))[i]? = some a := by
                rw [← hfd]; exact (List.getElem?_append_left (List.getElem?_eq_some_iff.1 hi).1).trans hi
              rwa [List.getElem?_drop] at this
            have hget : ∀ i a, ([a0, a1, a2] : List AV)[i]? = some a → ∃ v, w.cell? ⟨bb, o + k * 3 + i, none⟩ = some v ∧ Rep g s w a v := fun i a hi => by
              have hf := hg i a hi
              have hlt : k * 3 + i < cs.length := by rw [← h1.1]; exact (List.getElem?_eq_some_iff.1 hf).1
              refine ⟨cs[k * 3 + i], ?_, h1.2 _ a _ hf (List.getElem?_eq_getElem hlt)⟩
              rw [Nat.add_assoc]
              exact (h2 _ _ (List.getElem?_eq_getElem hlt)).1
            obtain ⟨v0, e0, f0⟩ := hget 0 a0 rfl
            obtain ⟨v1, e1, f1⟩ := hget 1 a1 rfl
            obtain ⟨v2, e2, f2⟩ := hget 2 a2 rfl
            exact .inr ⟨_, v0, v1, v2, bb, o, rfl, hkl, h3 hne, e0, e1, e2, .one (.agg [v0, v1, v2] rfl fun i a c ha hc => by
              match i, ha, hc with
              | 0, ha, hc => simp at ha hc; subst ha hc; exact f0
              | 1, ha, hc => simp at ha hc; subst ha hc; exact f1
              | 2, ha, hc => simp at ha hc; subst ha hc; exact f2
              | i + 3, ha, hc => simp at ha)⟩
          · cases h
          · split at h
            · rename_i hkl
              simp only [Option.some.injEq] at h; subst h
              exact .inl ⟨rfl, hkl.symm⟩
            · cases h
        · cases h
      · cases h
    · cases h
  · cases h
set_option maxRecDepth 100000 in
set_option maxHeartbeats 4000000 in
theorem it_ok : ItOK Tryd.prog 59 (itF 59) := by
  intro caps s0 r0 hr0
  refine ⟨⟨_, _, Tryd.func59, rfl, by kernel_rfl⟩, ?_⟩
  intro n l K cs S X J Jx hit hJ hend hY g W hJ0
  have hph : ∀ k g W, J k g W → ∃ pb pj x len cap, cs = [.pointer (some ⟨pb, 0, none⟩)] ∧ W.cell? ⟨pb, 0, none⟩ = some (.pointer (some ⟨pj, 0, none⟩)) ∧ W.cell? ⟨pj, 1, none⟩ = some (.slice x len cap) ∧ len ≤ 4000000000000000000 ∧
      ((k = K ∧ len = k) ∨ (k < K ∧ ∃ v0 v1 v2 bb o, k < len ∧ x = some ⟨bb, o, none⟩ ∧ W.cell? ⟨bb, o + k * 3, none⟩ = some v0 ∧ W.cell? ⟨bb, o + k * 3 + 1, none⟩ = some v1 ∧ W.cell? ⟨bb, o + k * 3 + 2, none⟩ = some v2 ∧ RepL g (S k) W (X k) [.agg #[v0, v1, v2]])) := by
    intro k g W hk
    obtain ⟨h1, h2, h3⟩ := hJ k g W hk
    rcases Nat.lt_or_ge k K with hlt | hge
    · obtain ⟨pb, pj, x, len, cap, a1, a2, a3, a4, ⟨a5, _⟩ | ⟨c, v0, v1, v2, bb, o, a5, a6, a7, a8, a9, a10, a11⟩⟩ := it_phys (hit k hlt) h2 h3
      · cases a5
      · simp only [Option.some.injEq] at a5
        exact ⟨pb, pj, x, len, cap, a1, a2, a3, a4, .inr ⟨hlt, v0, v1, v2, bb, o, a6, a7, a8, a9, a10, by rw [a5]; exact a11⟩⟩
    · obtain rfl : k = K := by omega
      obtain ⟨pb, pj, x, len, cap, a1, a2, a3, a4, ⟨_, a5⟩ | ⟨c, v0, v1, v2, bb, o, a5, _⟩⟩ := it_phys (hend g W hk) h2 h3
      · exact ⟨pb, pj, x, len, cap, a1, a2, a3, a4, .inl ⟨rfl, a5⟩⟩
      · cases a5
  obtain ⟨pb0, _, _, _, _, hcs, _⟩ := hph 0 g W hJ0
  subst hcs
  refine callsIn_of_wp Tryd.func59 rfl trivial ?_ rfl
  simp only [Tryd.ntmps59, List.size_toArray, List.length_cons, List.length_nil, Nat.reduceAdd, Nat.reduceSub, Array.replicate_succ, Array.replicate_zero, List.push_toArray, List.append_toArray, List.nil_append, List.cons_append]
  gi_wp2
  gi_loopw [3] (fun i wr => ∃ k g, k ≤ K ∧ i = .int .i64 (k : Nat) ∧ J k g wr) (fun i _ => K - (match i with | .int _ z => z.toNat | _ => 0))
  case atStart => exact ⟨0, g, Nat.zero_le _, rfl, hJ0⟩
  case round =>
    obtain ⟨k, g1, hk, rfl, hJk⟩ := hrel
    obtain ⟨pb, pj, x, len, cap, hpb, c1, c2, hlen, hcase⟩ := hph k g1 wr hJk
    simp only [List.cons.injEq, Value.pointer.injEq, Option.some.injEq, Addr.mk.injEq, and_true] at hpb
    subst hpb
    rcases hcase with ⟨rfl, hlk⟩ | ⟨hkK, v0, v1, v2, bb, o, hlt, rfl, d0, d1, d2, hR⟩
    · have hnl : ¬ ((k : Int) < (len : Int)) := by omega
      gi_wp2
      go_end0
      exact ⟨⟨_, rfl⟩, .inl ⟨_, hJk⟩⟩
    · obtain ⟨fn, tmps, assign, body, hy, hYR⟩ := hY k g1 wr _ hkK hJk hR
      have hlt' : (k : Int) < (len : Int) := by omega
      gi_wp2
      refine ⟨fun h => (by cases h), ?_⟩
      refine hYR.mono ?_
      rintro e W3 (⟨rfl, g3, hJ3⟩ | ⟨rfl, hJx3⟩)
      · gi_wp2
        go_roundw
        case rel => exact ⟨k + 1, g3, by omega, (by first | rfl | simp), hJ3⟩
        case measure => simp; omega
      · gi_wp2
        refine bodyPost_ret (results_none rfl _ _ _) rfl ?_
        exact ⟨⟨_, rfl⟩, .inr hJx3⟩
theorem it_all : ItAll Tryd.prog F.bf := by
  intro gf
  by_cases h : gf = 59
  · subst h; exact it_ok
  · intro caps s0 r0 h0
    simp [F.bf, itF, h] at h0
end Go.Proofs.Eng
