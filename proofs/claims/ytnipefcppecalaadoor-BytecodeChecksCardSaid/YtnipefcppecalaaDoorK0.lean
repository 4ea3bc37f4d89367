/- What the rows' list of laid variables gives. No conditions beyond those in the theorems. -/
import Derived.Test.YtnipefcppecalaaDoorV6
import Derived.Test.YtnipefcppecalaaDoorV2
import Derived.Test.YtnipefcppecalaaDoorRows
import Derived.Lib.LaidTab
import Derived.Lay
import Derived.MakeChecks
import Derived.ProofKit
set_option linter.all false
set_option linter.deprecated false
set_option linter.unnecessarySimpa false
set_option linter.unusedVariables false
set_option linter.unusedSimpArgs false
set_option linter.defProp false
namespace Go.Proofs.Eng
open Go Go.Proofs Go.RowKit
set_option maxRecDepth 100000
def okR (c : Cd) : Bool := decide (c.bl.length ≤ 900000) && decide ((c.bl.map List.length).sum ≤ 1000000000) && (c.bl.all fun l => decide (l.length ≤ 1000000) && l.all fun x => decide (x.n.size ≤ 1000000)) && (c.gl.all fun g => decide (g.size ≤ 1000000)) && decide (c.gl.length ≤ 1000000) && decide (c.st.length ≤ 1000000)
def refO : List AV → ASt → Option (AV × ASt)
 | [a], s => match cdOf a with
  | some c => if okR c = true then some (.int c.check, s) else none
  | none => none
 | _, _ => none
theorem ref_ok : OraOK Tryd.prog 11 refO := by
 intro args s v s' hv
 refine ⟨⟨_, _, Tryd.func11, rfl, by kernel_rfl⟩, fun g w vs hI hr => ?_⟩
 unfold refO at hv
 split at hv
 ·rename_i a s0
  split at hv
  ·rename_i c hc
   split at hv
   ·rename_i hok
    simp only [Option.some.injEq, Prod.mk.injEq] at hv
    obtain ⟨rfl, rfl⟩ := hv
    obtain ⟨Bs, t1, t2, t3, rfl, hBs, p1, p2, p3⟩ := cdOf_some hc
    simp only [okR, Bool.and_eq_true, decide_eq_true_eq, List.all_eq_true] at hok
    obtain ⟨⟨⟨⟨⟨k1, k2⟩, k3⟩, k4⟩, k5⟩, k6⟩ := hok
    have hlen := hBs.len
    have hlb : lenB = 9223372036854775807 := rfl
    have hBl : LIs blIs c.bl Bs := lis_le hBs fun b hb => by have := (k3 b hb).1; omega
    have hIs : c.Is (.agg [.sl Bs t1, .sl (nmA c.gl) t2, .sl (ints c.st) t3]) := ⟨Bs, t1, t2, t3, rfl, hBl, p1, p2, p3, by omega, by omega, by omega⟩
    have hS := run_sound (md := md) hm pfsOK
    have hpa : pureAVs [.agg [.sl Bs t1, .sl (nmA c.gl) t2, .sl (ints c.st) t3]] = true := by simp [pvs_cons, pvs_nil, cdPure hIs]
    obtain ⟨u, us, rfl, hu, hnil⟩ := hr.cons_inv
    obtain rfl : us = [] := List.length_eq_zero_iff.1 hnil.1.symm
    obtain ⟨cs, rfl, hcs⟩ := hu.agg_inv
    obtain ⟨v1, cs, rfl, hv1, hcs⟩ := hcs.cons_inv
    obtain ⟨v2, cs, rfl, hv2, hcs⟩ := hcs.cons_inv
    obtain ⟨v3, cs, rfl, hv3, hcs⟩ := hcs.cons_inv
    obtain rfl : cs = [] := List.length_eq_zero_iff.1 hcs.1.symm
    have hone : v1.oneCell' = true ∧ v2.oneCell' = true ∧ v3.oneCell' = true := by
     obtain ⟨_, _, _, _, _, rfl, _⟩ := hv1.sl_inv
     obtain ⟨_, _, _, _, _, rfl, _⟩ := hv2.sl_inv
     obtain ⟨_, _, _, _, _, rfl, _⟩ := hv3.sl_inv
     exact ⟨rfl, rfl, rfl⟩
    have h20 : ∀ w1, Below w.heap.size w w1 → Calls Tryd.prog 20 #[.agg #[v1, v2, v3]] w1 fun e w2 => e = .returned (.int .i64 c.outE) ∧ Below w1.heap.size w1 w2 := fun w1 hb => by
     obtain ⟨hI1, hr1⟩ := below_rep hI hr hb
     refine (pure_callsB hS (starts_ret hIs (fun g hg => by have := k4 g hg; omega)) hpa hI1 hr1).mono ?_
     rintro e w2 ⟨_, u, rfl, rfl, hbl, hR⟩
     rw [hR.v_inv]
     exact ⟨rfl, hbl⟩
    have fin : Calls Tryd.prog 11 #[.agg #[v1, v2, v3]] w (fun e w' => e = .returned (.int .i64 c.check) ∧ Below w.heap.size w w') → Calls Tryd.prog 11 #[.agg #[v1, v2, v3]] w fun e w' => ∃ g', Inv g' s w' ∧ Ext g s w g' s w' ∧ OutRep g' s w' (.ret (.int c.check)) e := fun h => h.mono fun e w' ⟨he, hbl⟩ => by
     subst he
     have hE : Ext g s w g s w' := Ext.same hbl.size hbl.block hbl.os hbl.tape ⟨hbl.output, fun d => d.elim⟩
     exact ⟨g, hI.keep hE fun b h => hbl.block b (hI.has_lt h), hE, .v rfl⟩
    cases ho : (c.outE != 0)
    case true => exact fin (ref_no hone ho h20)
    have ho' : c.outE = 0 := by simpa [bne] using ho
    rw [ho'] at h20
    have hoo : c.bl ≠ [] ∧ (c.st.any fun s => decide (s < 1) || decide ((c.bl.length : Int) ≤ s)) = false := by
     unfold Cd.outE at ho'
     split at ho'
     ·omega
     rename_i hh
     exact ⟨fun e => hh (.inl e), by
      cases hx : (c.st.any fun s => decide (s < 1) || decide ((c.bl.length : Int) ≤ s)) with
      | false => rfl
      | true => exact absurd (.inr (.inr (.inl hx))) hh⟩
    obtain ⟨hne, hst⟩ := hoo
    have hb1 : 1 ≤ c.bl.length := by
     rcases Nat.eq_zero_or_pos c.bl.length with h | h
     ·exact absurd (List.length_eq_zero_iff.1 h) hne
     ·exact h
    refine fin (ref_walk hone h20 ?_ ⟨hb1, by omega⟩ ?_ ?_ (by omega) (fun w1 n S wr => ∃ g' s', Inv g' s' wr ∧ g'.mu 0 = some w1.heap.size ∧ KS 0 1 Bs t1 t2 t3 c S s'.H ∧ SB ((64 * n + ((c.bl.map List.length).take n).sum : Nat) : Int) S ∧ w1.heap.size ≤ wr.heap.size ∧ ∀ b, b < w1.heap.size → ¬ g'.has b) ?_ ?_ ho')
    ·obtain ⟨x, cap, b, o, cs, rfl, r1, r2, r3, r4, _⟩ := hv1.sl_inv
     exact ⟨x, cap, by rw [hlen], by omega⟩
    ·obtain ⟨x, cap, b, o, cs, rfl, r1, r2, r3, r4, _⟩ := hv3.sl_inv
     have hfl : flat (ints c.st) = ints c.st := flat_one fun y hy => by
      obtain ⟨q, _, rfl⟩ := List.mem_map.1 hy; rfl
     rw [hfl] at r1
     refine ⟨x, cap, by rw [ints_len], by rw [← ints_len]; exact r4, fun n l hl => ?_⟩
     have hnl : n < c.st.length := (List.getElem?_eq_some_iff.1 hl).1
     have hx := r3 (by intro e; have := congrArg List.length e; rw [ints_len] at this; simp at this; rw [this] at hnl; simp at hnl)
     have hnc : n < cs.length := by rw [← r1.1, ints_len]; exact hnl
     have hav : (ints c.st)[n]? = some (.int l) := by rw [ints, List.getElem?_map, hl]; rfl
     have hR := r1.2 n _ _ hav (List.getElem?_eq_getElem hnc)
     have hcell := (r2 n _ (List.getElem?_eq_getElem hnc)).1
     rw [hR.v_inv] at hcell
     exact ⟨b, o, hx, hcell⟩
    ·intro x hx
     have h := List.any_eq_false.1 hst x hx
     simp only [Bool.or_eq_true, decide_eq_true_eq, not_or] at h
     omega
    ·intro w1 gb cap wr hB1 hsz1 hg hB hK hrow hSB
     obtain ⟨fb, hI2⟩ := begin_inv (K := w1.heap.size) hI hr hpa (hB1.trans (hB.mono (by omega))) (by omega) hg hK hrow
     have hSl : c.S0.length = c.bl.length := by have := hrow.1; simpa using this
     refine ⟨_, _, hI2, by simp [GhK], ⟨rfl, rfl, hSl, by decide, hBl, p1, by omega⟩, hSB.mono (by simp), hB.size, fun b hlt hb => ?_⟩
     rcases ghk_has hb with rfl | rfl <;> omega
    ·rintro w1 n l S wr ⟨g', s', hI2, hmu, kS, hS2, hsz, hnh⟩ hl
     have hle := sum_take (c.bl.map List.length) (n + 1)
     have htk : ((c.bl.map List.length).take (n + 1)).sum = ((c.bl.map List.length).take n).sum + l.length := by
      rw [List.take_add_one, List.getElem?_map, hl]; simp
     have hnl := (List.getElem?_eq_some_iff.1 hl).1
     refine (sh_calls hS (rblock_chk (V := s'.T) kS hl (fun x hx => by have := (k3 l (List.mem_of_getElem? hl)).2 x hx; omega) hS2 (by omega) (by omega)) ?_ hI2 (vs := [.pointer (some ⟨w1.heap.size, 0, none⟩), .int .i64 n]) (.cons (.ptr hmu) (.one (.v rfl)))).mono ?_
     ·intro v s1 h
      revert h
      cases blkE c.bl.length c.gl.length n l S with
      | error e => rintro ⟨rfl, _⟩; exact ⟨_, rfl⟩
      | ok S' => rintro ⟨rfl, _⟩; exact ⟨_, rfl⟩
     ·rintro e w2 ⟨z, g2, s2, hz, rfl, hI3, hE⟩
      have hbl := below_of hE hsz hnh
      cases hbk : blkE c.bl.length c.gl.length n l S with
      | error e =>
       rw [hbk] at hz
       obtain ⟨h, _⟩ := hz
       obtain rfl : z = e := by simpa [AV.int] using h
       exact ⟨rfl, hbl⟩
      | ok S' =>
       have hS' := blkE_bd hS2 (by omega) hbk
       rw [hbk] at hz
       obtain ⟨h, H', rfl, kS', hl'⟩ := hz
       obtain rfl : z = 0 := by simpa [AV.int] using h
       refine ⟨rfl, hbl, g2, _, hI3, hE.mu _ _ hmu, kS', hS'.mono (by rw [htk]; omega), by have := hbl.size; omega, fun b hb => (hE.obj b (by omega) (hnh b hb)).2⟩
   ·cases hv
  ·cases hv
 ·cases hv
open Go Go.Proofs
set_option maxHeartbeats 16000000
def okB (b : List Ins) : Bool := decide (b.length ≤ 120) && b.all fun x => decide (x.n.size ≤ 100)
def Cd.few (c : Cd) : Bool := decide (c.bl.length ≤ 40 ∧ c.gl.length ≤ 10 ∧ c.st.length ≤ 20) && (c.gl.all fun g => decide (g.size ≤ 100)) && c.bl.all okB
theorem all_no {α : Type} {p : α → Bool} {l : List α} {x : α} (h : x ∈ l) (hp : p x = false) : l.all p = false := by
 cases h2 : l.all p with
 | false => rfl
 | true => rw [List.all_eq_true.1 h2 x h] at hp; cases hp
theorem all_tk {α : Type} {p : α → Bool} {l : List α} {n : Nat} {x : α} (h : l[n]? = some x) (h1 : (l.take n).all p = true) (h2 : p x = true) : (l.take (n + 1)).all p = true := by
 rw [List.take_add_one, h, List.all_append, h1, Option.toList_some, List.all_cons, h2]; rfl
theorem cfew_ret {c : Cd} {a : AV} (h : c.Is a) : Out md pfs 8 [a] (· = .bool c.few) fun _ => False := by
 obtain ⟨Bs, t1, t2, t3, rfl, g1, g2, g3, g4, g5, g6, g7⟩ := id h
 have hBl := g1.len
 have hallB : (Bs.all fun x => x.cells.length == 1) = true := List.all_eq_true.2 fun y hy => by
  obtain ⟨q, hq⟩ := List.mem_iff_getElem?.1 hy
  obtain ⟨b, a, _, _, _, e4, ⟨t, rfl, _⟩⟩ := g1.at (i := q) (List.getElem?_eq_some_iff.1 hq).1
  rw [hq] at e4; cases e4; rfl
 refine out_of pf8_is (Nat.le_of_ble_eq_true rfl) ?_
 cases q1 : decide (((Bs.length : Nat) : Int) > 40)
 case true =>
  have : c.few = false := by
   unfold Cd.few
   rw [decide_eq_false (by simp only [decide_eq_true_eq] at q1; omega)]; rfl
  rw [this]
  simp only [pf8, ↓wpre, wall, simprocAttr, List.length_append, List.append_assoc, app_get_len, app_get_add, app_set_len, app_set_add, ints_len, nmA_len, q1]
 cases q2 : decide (((c.gl.length : Nat) : Int) > 10)
 case true =>
  have : c.few = false := by
   unfold Cd.few
   rw [decide_eq_false (by simp only [decide_eq_true_eq] at q2; omega)]; rfl
  rw [this]
  simp only [pf8, ↓wpre, wall, simprocAttr, List.length_append, List.append_assoc, app_get_len, app_get_add, app_set_len, app_set_add, ints_len, nmA_len, q1, q2]
 cases q3 : decide (((c.st.length : Nat) : Int) > 20)
 case true =>
  have : c.few = false := by
   unfold Cd.few
   rw [decide_eq_false (by simp only [decide_eq_true_eq] at q3; omega)]; rfl
  rw [this]
  simp only [pf8, ↓wpre, wall, simprocAttr, List.length_append, List.append_assoc, app_get_len, app_get_add, app_set_len, app_set_add, ints_len, nmA_len, q1, q2, q3]
 have hD : decide (c.bl.length ≤ 40 ∧ c.gl.length ≤ 10 ∧ c.st.length ≤ 20) = true := by
  simp only [decide_eq_true_eq, decide_eq_false_iff_not] at q1 q2 q3 ⊢; omega
 have hF : c.few = ((c.gl.all fun g => decide (g.size ≤ 100)) && c.bl.all okB) := by
  rw [Cd.few, hD, Bool.true_and]
 simp only [pf8, ↓wpre, wall, simprocAttr, List.length_append, List.append_assoc, app_get_len, app_get_add, app_set_len, app_set_add, ints_len, nmA_len, q1, q2, q3]
 refine W_loopE (fun i => c.gl.length - i) (fun i E H T => i ≤ c.gl.length ∧ E 1 = .ptr 0 0 ∧ E 3 = .int i ∧ ((c.gl.take i).all fun g => decide (g.size ≤ 100)) = true ∧ ∃ G, H = .cells false [.sl Bs t1, .sl (nmA c.gl) t2, .sl (ints c.st) t3] :: G) ?_ 0 ⟨Nat.zero_le _, rfl, rfl, rfl, _, rfl⟩
 rintro i E H T ⟨hi, e1, e3, hb, G, rfl⟩
 rcases Nat.lt_or_ge i c.gl.length with hlt | hge
 ·have hdec : decide ((i : Int) < c.gl.length) = true := by simpa using hlt
  obtain ⟨x, x0, x4⟩ := nmA_at hlt
  cases c1 : decide (((x.size : Nat) : Int) > 100)
  case true =>
   rw [hF, all_no (List.mem_of_getElem? x0) (by simp only [decide_eq_true_eq] at c1; rw [decide_eq_false (by omega)]), Bool.false_and]
   simp only [↓wpre, wall, simprocAttr, List.length_append, List.append_assoc, app_get_len, app_get_add, app_set_len, app_set_add, e1, e3, hdec, x4, nmA_all, nmA_len, c1]
  simp only [↓wpre, wall, simprocAttr, List.length_append, List.append_assoc, app_get_len, app_get_add, app_set_len, app_set_add, e1, e3, hdec, x4, nmA_all, nmA_len, c1]
  exact EQ_in ⟨i + 1, by omega, by omega, e1, next_ixv (by omega), all_tk x0 hb (by simp only [decide_eq_false_iff_not] at c1; rw [decide_eq_true (by omega)]), _, rfl⟩
 have hdec : decide ((i : Int) < c.gl.length) = false := by simpa using hge
 rw [List.take_of_length_le (by omega)] at hb
 simp only [↓wpre, wall, simprocAttr, List.length_append, List.append_assoc, app_get_len, app_get_add, app_set_len, app_set_add, e1, e3, hdec, nmA_len]
 refine W_loopE (fun i => c.bl.length - i) (fun i E H T => i ≤ c.bl.length ∧ E 1 = .ptr 0 0 ∧ E 4 = .int i ∧ ((c.bl.take i).all okB) = true ∧ ∃ G, H = .cells false [.sl Bs t1, .sl (nmA c.gl) t2, .sl (ints c.st) t3] :: G) ?_ 0 ⟨Nat.zero_le _, e1, rfl, rfl, _, rfl⟩
 rintro i E H T ⟨hi, e1, e4, hb2, G, rfl⟩
 rcases Nat.lt_or_ge i c.bl.length with hlt | hge
 ·have hdec : decide ((i : Int) < (Bs.length : Nat)) = true := by simp only [decide_eq_true_eq]; omega
  obtain ⟨b, a, d0, _, _, d4, ⟨tb, rfl, htb, hll⟩⟩ := g1.at (i := i) (by omega)
  cases c1 : decide (((b.length : Nat) : Int) > 120)
  case true =>
   rw [hF, hb, Bool.true_and, all_no (List.mem_of_getElem? d0) (by simp only [decide_eq_true_eq] at c1; rw [okB, decide_eq_false (by omega)]; rfl)]
   simp only [↓wpre, wall, simprocAttr, List.length_append, List.append_assoc, app_get_len, app_get_add, app_set_len, app_set_add, e1, e4, hdec, d4, hallB, insA_len, c1]
  simp only [↓wpre, wall, simprocAttr, List.length_append, List.append_assoc, app_get_len, app_get_add, app_set_len, app_set_add, e1, e4, hdec, d4, hallB, insA_len, c1]
  refine W_loopE (fun j => b.length - j) (fun j E H T => j ≤ b.length ∧ E 1 = .ptr 0 0 ∧ E 4 = .int i ∧ E 5 = .int j ∧ ((b.take j).all fun x => decide (x.n.size ≤ 100)) = true ∧ ∃ G, H = .cells false [.sl Bs t1, .sl (nmA c.gl) t2, .sl (ints c.st) t3] :: G) ?_ 0 ⟨Nat.zero_le _, e1, e4, rfl, rfl, _, rfl⟩
  rintro j E H T ⟨hj, e1, e4, e5, hb3, G, rfl⟩
  rcases Nat.lt_or_ge j b.length with hlt2 | hge2
  ·have hdec2 : decide ((j : Int) < b.length) = true := by simpa using hlt2
   obtain ⟨x, x0, x4⟩ := insA_at hlt2
   cases c2 : decide (((x.n.size : Nat) : Int) > 100)
   case true =>
    rw [hF, hb, Bool.true_and, all_no (List.mem_of_getElem? d0) (by
     simp only [decide_eq_true_eq] at c2
     rw [okB, all_no (List.mem_of_getElem? x0) (by rw [decide_eq_false (by omega)]), Bool.and_false])]
    simp only [↓wpre, wall, simprocAttr, List.length_append, List.append_assoc, app_get_len, app_get_add, app_set_len, app_set_add, e1, e4, e5, hdec2, d4, hallB, insA_len, insA_all, x4, c2]
   simp only [↓wpre, wall, simprocAttr, List.length_append, List.append_assoc, app_get_len, app_get_add, app_set_len, app_set_add, e1, e4, e5, hdec2, d4, hallB, insA_len, insA_all, x4, c2]
   exact EQ_in ⟨j + 1, by omega, by omega, e1, e4, next_ixv (by omega), all_tk x0 hb3 (by simp only [decide_eq_false_iff_not] at c2; rw [decide_eq_true (by omega)]), _, rfl⟩
  ·have hdec2 : decide ((j : Int) < b.length) = false := by simpa using hge2
   rw [List.take_of_length_le (by omega)] at hb3
   simp only [↓wpre, wall, simprocAttr, List.length_append, List.append_assoc, app_get_len, app_get_add, app_set_len, app_set_add, e1, e4, e5, hdec2, d4, hallB, insA_len]
   exact EQ_in ⟨i + 1, by omega, by omega, e1, next_ixv (by omega), all_tk d0 hb2 (by simp only [decide_eq_false_iff_not] at c1; rw [okB, hb3, decide_eq_true (by omega)]; rfl), _, rfl⟩
 ·have hdec : decide ((i : Int) < (Bs.length : Nat)) = false := by simp only [decide_eq_false_iff_not]; omega
  rw [List.take_of_length_le (by omega)] at hb2
  rw [hF, hb, hb2]
  simp only [↓wpre, wall, simprocAttr, List.length_append, List.append_assoc, app_get_len, app_get_add, app_set_len, app_set_add, e1, e4, hdec]
noncomputable def pfs3 (f : Nat) : Option PF := if f = 11 then some ⟨0, [], .ora refO⟩ else pfs2 f
theorem pfs_le3 : ∀ f pf, pfs2 f = some pf → pfs3 f = some pf := fun f pf h => by
 unfold pfs3
 split
 ·rename_i hf; subst hf; simp [pfs2, pfs] at h
 ·exact h
theorem pfsOK3 : PfsOK Tryd.prog pfs3 := fun f pf h => by
 unfold pfs3 at h
 split at h
 ·rename_i hf
  subst hf
  simp only [Option.some.injEq] at h; subst h
  exact .inr (.inl ⟨_, rfl, ref_ok⟩)
 ·exact pfsOK2 f pf h
theorem pf3' {f : Nat} {pf : PF} (h : pfs f = some pf) : pfs3 f = some pf := pfs_le3 f pf (pfs_le f pf h)
theorem Ref_out {c : Cd} {a : AV} (h : cdOf a = some c) (hok : okR c = true) : Out md pfs3 11 [a] (· = .int c.check) fun _ => False := by
 have := run_ora (md := md) (pfs := pfs3) (f := 11) (pf := ⟨0, [], .ora refO⟩) (by simp [pfs3]) rfl (args := [a]) (v := .int c.check) (s := ⟨[], []⟩) (s' := ⟨[], []⟩) (by
  simp only [refO, h]
  rw [if_pos hok])
 exact ⟨_, _, .ret _, this, rfl, rfl⟩
theorem sum_le {l : List (List Ins)} (h : ∀ b ∈ l, b.length ≤ 120) : (l.map List.length).sum ≤ 120 * l.length := by
 induction l with
 | nil => simp
 | cons x l ih =>
  have h1 := h x (by simp)
  have h2 := ih fun y hy => h y (by simp [hy])
  simp only [List.map_cons, List.sum_cons, List.length_cons]; omega
theorem few_cd {c : Cd} (h : c.few = true) : c.bl.length ≤ 40 ∧ c.gl.length ≤ 10 ∧ c.st.length ≤ 20 ∧ (∀ g ∈ c.gl, g.size ≤ 100) ∧ (∀ b ∈ c.bl, b.length ≤ 120 ∧ ∀ x ∈ b, x.n.size ≤ 100) ∧ (c.bl.map List.length).sum ≤ 4800 := by
 unfold Cd.few at h
 simp only [okB, Bool.and_eq_true, decide_eq_true_eq, List.all_eq_true] at h
 obtain ⟨⟨⟨h1, h2, h3⟩, h4⟩, h5⟩ := h
 have := sum_le fun b hb => (h5 b hb).1
 exact ⟨h1, h2, h3, h4, h5, by omega⟩
theorem few_okR {c : Cd} (h : c.few = true) : okR c = true := by
 obtain ⟨h1, h2, h3, h4, h5, h6⟩ := few_cd h
 simp only [okR, Bool.and_eq_true, decide_eq_true_eq, List.all_eq_true]
 exact ⟨⟨⟨⟨⟨by omega, by omega⟩, fun b hb => ⟨by have := (h5 b hb).1; omega, fun x hx => by have := (h5 b hb).2 x hx; omega⟩⟩, fun g hg => by have := h4 g hg; omega⟩, by omega⟩, by omega⟩
theorem checks_law {c : Cd} {a : AV} (h : c.Is a) : Out md pfs3 3 [a] (· = .bool true) fun _ => False := by
 obtain ⟨Bs, t1, t2, t3, rfl, g1, g2, g3, g4, g5, g6, g7⟩ := id h
 have hlb : lenB = 9223372036854775807 := rfl
 refine out_of (pf3' pf3_is) (Nat.le_of_ble_eq_true rfl) ?_
 have hpu : pureAVs [.agg [.sl Bs t1, .sl (nmA c.gl) t2, .sl (ints c.st) t3]] = true := by simp [pvs_cons, pvs_nil, cdPure h]
 obtain ⟨_, rfl, cf⟩ := (((cfew_ret h).ext pfs_le).ext pfs_le3).call rfl hpu
 obtain ⟨_, rfl, ca⟩ := (awake_ret.ext pfs_le3).call rfl rfl
 cases hf : c.few
 ·rw [hf] at cf
  simp only [pf3, ↓wpre, wall, simprocAttr, cf, ca]
 rw [hf] at cf
 obtain ⟨h1, h2, h3, h4, h5, h6⟩ := few_cd hf
 obtain ⟨_, rfl, ck⟩ := (((code_ret h (fun g hg => by have := h4 g hg; omega) (fun b hb x hx => by have := (h5 b hb).2 x hx; omega) (by omega) (by omega)).ext pfs_le).ext pfs_le3).call rfl hpu
 obtain ⟨_, rfl, cr⟩ := (Ref_out (cdOf_of h) (few_okR hf)).call rfl hpu
 simp only [pf3, ↓wpre, wall, simprocAttr, cf, ca, ck, cr, beq_self_eq_true]
theorem cells9 : 0 < Tryd.prog.cellsOf 9 := by rw [show Tryd.prog.cellsOf 9 = 1 from by kernel_rfl]; decide
theorem cells46 : 0 < Tryd.prog.cellsOf 46 := by rw [show Tryd.prog.cellsOf 46 = 1 from by kernel_rfl]; decide
theorem cells48 : 0 < Tryd.prog.cellsOf 48 := by rw [show Tryd.prog.cellsOf 48 = 4 from by kernel_rfl]; decide
def insIs (x : Ins) (a : AV) : Prop := a = x.av ∧ in64 x.a ∧ in64 x.b
def blIsN (b : List Ins) (a : AV) : Prop := ∃ t, a = .sl (insA b) t ∧ t.pure = true ∧ b.length ≤ lenB ∧ ∀ x ∈ b, in64 x.a ∧ in64 x.b
theorem lis_map {α : Type} {R Q : α → AV → Prop} {P : α → Prop} (h : ∀ x a, R x a → Q x a ∧ P x) : ∀ {l : List α} {al : List AV}, LIs R l al → LIs Q l al ∧ ∀ x ∈ l, P x
 | [], [], _ => ⟨trivial, fun x hx => by cases hx⟩
 | [], _ :: _, h => h.elim
 | _ :: _, [], h => h.elim
 | x :: l, a :: al, ⟨h1, h2⟩ => by
  obtain ⟨k1, k2⟩ := lis_map h h2
  refine ⟨⟨(h x a h1).1, k1⟩, fun y hy => ?_⟩
  rcases List.mem_cons.1 hy with rfl | hy
  ·exact (h _ a h1).2
  ·exact k2 y hy
theorem four {α : Type} {l : List α} (h : l.length = 4) : ∃ a b c d, l = [a, b, c, d] := by
 match l, h with
 | [a, b, c, d], _ => exact ⟨a, b, c, d, rfl⟩
theorem three {α : Type} {l : List α} (h : l.length = 3) : ∃ a b c, l = [a, b, c] := by
 match l, h with
 | [a, b, c], _ => exact ⟨a, b, c, rfl⟩
theorem oft_ins {n : Nat} {l : List AV} (h : OfT Tryd.prog n 48 l) : ∃ x : Ins, insIs x (.agg l) := by
 cases n with
 | zero => exact h.elim
 | succ n =>
  simp only [OfT, Tryd.underlying48] at h
  rw [if_pos (by kernel_rfl)] at h
  obtain ⟨xs, rfl, hl, hx⟩ := h
  obtain ⟨a, b, c, d, rfl⟩ := four hl
  obtain ⟨i, rfl, _⟩ := oft_int (hx 0 _ a rfl rfl)
  obtain ⟨j, rfl, hj⟩ := oft_int (hx 1 _ b rfl rfl)
  obtain ⟨k, rfl, hk⟩ := oft_int (hx 2 _ c rfl rfl)
  obtain ⟨nm, rfl, _⟩ := oft_str (hx 3 _ d rfl rfl)
  exact ⟨⟨i, j, k, nm⟩, rfl, hj, hk⟩
theorem oft_bl {n : Nat} {l : List AV} (h : OfT Tryd.prog n 46 l) : ∃ b a, l = [a] ∧ blIsN b a := by
 obtain ⟨xs, al, tl, rfl, h1, h2, h3⟩ := oft_slice (R := insIs) Tryd.underlying46 cells48 (fun n l h => by
  obtain ⟨x, hx⟩ := oft_ins h
  exact ⟨x, by rw [show isAgg Tryd.prog 48 = true from by kernel_rfl]; exact hx⟩) h
 obtain ⟨k1, k2⟩ := lis_map (Q := fun x a => a = x.av) (fun x a (h : insIs x a) => ⟨h.1, h.2⟩) h1
 have e := lis_ins k1
 subst e
 exact ⟨xs, _, rfl, tl, rfl, h2, by rw [← insA_len]; exact h3, k2⟩
theorem oft_cd {n : Nat} {l : List AV} (h : OfT Tryd.prog n 26 l) : ∃ c : Cd, c.Is (.agg l) ∧ ∀ b ∈ c.bl, ∀ x ∈ b, in64 x.a ∧ in64 x.b := by
 cases n with
 | zero => exact h.elim
 | succ n =>
  simp only [OfT, Tryd.underlying26] at h
  rw [if_pos (by kernel_rfl)] at h
  obtain ⟨xs, rfl, hl, hx⟩ := h
  obtain ⟨a, b, c, rfl⟩ := three hl
  obtain ⟨bl, Bs, t1, rfl, g1, g2, g3⟩ := oft_slice (R := blIsN) Tryd.underlying22 cells46 (fun n l h => by
   obtain ⟨b, a, rfl, hg⟩ := oft_bl h
   exact ⟨b, by rw [show isAgg Tryd.prog 46 = false from by kernel_rfl]; exact hg⟩) (hx 0 _ a rfl rfl)
  obtain ⟨gl, al, t2, rfl, k1, k2, k3⟩ := oft_slice (R := fun s a => a = .str s) Tryd.underlying23 cells9 (fun n l h => by
   obtain ⟨s, rfl, _⟩ := oft_str h
   exact ⟨s, by rw [show isAgg Tryd.prog 9 = false from by kernel_rfl]; rfl⟩) (hx 1 _ b rfl rfl)
  have e := lis_nm k1
  subst e
  obtain ⟨st, t3, rfl, m2, m3⟩ := oft_ints (hx 2 _ c rfl rfl)
  obtain ⟨b1, b2⟩ := lis_map (Q := blIs) (P := fun b => ∀ x ∈ b, in64 x.a ∧ in64 x.b) (fun x a (h : blIsN x a) => by
   obtain ⟨t, e, h1, h2, h3⟩ := h
   exact ⟨⟨t, e, h1, h2⟩, h3⟩) g1
  exact ⟨⟨bl, gl, st⟩, ⟨Bs, t1, t2, t3, rfl, b1, g2, k2, m2, g3, by rw [← nmA_len]; exact k3, m3⟩, b2⟩
open Go Go.Proofs Go.Proofs.YtnipefcppecalaaDoor
open Go.ChangeShapes Go.WideShapes Go.ChangeAt Go.RowKit
def laid56 : List (String × DataW Unit) := Rows.bytecodeCountsRow.laid
theorem lm_tail {P : Program} {x : String × DataW Unit} {r : List (String × DataW Unit)} {w : World} (h : laidMet P (x :: r) w) : laidMet P r w := by
 obtain ⟨n, d⟩ := x
 obtain ⟨ps, ⟨g, t, cs, fuel, p, q, _, _, _, _, hq, rfl⟩, hn, hc⟩ := h
 exact ⟨q, hq, (List.nodup_append.1 hn).2.1, fun b off hm => hc b off (List.mem_append_right _ hm)⟩
theorem kn_of {W : World} (h : laidMetH Tryd.prog laid56 W) : Kn W := by
 rw [MakeChecks.laidMetH_plain _ _ _ (by kernel_rfl)] at h
 have h2 := lm_tail (lm_tail h)
 have h3 := Lib.tabIs_of_head (name := "internal/strconv.uint64pow10") (zs := Lib.pow10Tab) (k := .u64) (g := 0) (t := 153) (e := 125) (n := 20) (by kernel_rfl) (by kernel_rfl) (by kernel_rfl) (by kernel_rfl) (by kernel_rfl) (by kernel_rfl) h2
 intro b hb
 obtain rfl : b = 0 := hb
 unfold Lib.TabIs World.var? at h3
 rw [show Tryd.prog.globalNamed "internal/strconv.uint64pow10" = some 0 from by kernel_rfl] at h3
 simp only [Option.bind_some] at h3
 split at h3
 ·rename_i cs t z hh
  simp only [Option.some.injEq] at h3
  subst h3
  exact ⟨(Array.getElem?_eq_some_iff.1 hh).1, t, z, hh⟩
 ·cases h3
theorem try_own : ownKnob Tryd.prog.godebug = none := by kernel_rfl
theorem try_laid : laidOutB Tryd.prog = true := by kernel_rfl
end Go.Proofs.Eng
