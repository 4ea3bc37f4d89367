/- What the rows' list of laid variables gives. No conditions beyond those in the theorems. -/
import Derived.Test.YtnipefcppecalaaDoorV6
import Derived.Test.YtnipefcppecalaaDoorV2
import Derived.Test.YtnipefcppecalaaDoorRows
import Derived.Lib.LaidTab
import Derived.Lay
import Derived.MakeChecks
import Derived.ProofKit
set_option linter.all false
set_option linter.deprecated false
set_option linter.unnecessarySimpa false
set_option linter.unusedVariables false
set_option linter.unusedSimpArgs false
set_option linter.defProp false
namespace Go.Proofs.Eng
open Go Go.Proofs Go.RowKit
set_option maxRecDepth 100000
def okR (c : Cd) : Bool := decide (c.bl.length ≤ 900000) && decide ((c.bl.map List.length).sum ≤ 1000000000) && (c.bl.all fun l => decide (l.length ≤ 1000000) && l.all fun x => decide (x.n.size ≤ 1000000)) && (c.gl.all fun g => decide (g.size ≤ 1000000)) && decide (c.gl.length ≤ 1000000) && decide (c.st.length ≤ 1000000)
def refO : List AV → ASt → Option (AV × ASt)
 | [a], s => match cdOf a with
  | some c => if okR c = true then some (.int c.check, s) else none
  | none => none
 | _, _ => none
theorem ref_ok : OraOK Tryd.prog 11 refO := by
 intro args s v s' hv
 refine ⟨⟨_, _, Tryd.func11, rfl, by kernel_rfl⟩, fun g w vs hI hr => ?_⟩
 unfold refO at hv
 split at hv
 ·rename_i a s0
  split at hv
  ·rename_i c hc
   split at hv
   ·rename_i hok
    simp only [Option.some.injEq, Prod.mk.injEq] at hv
    obtain ⟨rfl, rfl⟩ := hv
    obtain ⟨Bs, t1, t2, t3, rfl, hBs, p1, p2, p3⟩ := cdOf_some hc
    simp only [okR, Bool.and_eq_true, decide_eq_true_eq, List.all_eq_true] at hok
    obtain ⟨⟨⟨⟨⟨k1, k2⟩, k3⟩, k4⟩, k5⟩, k6⟩ := hok
    have hlen := hBs.len
    have hlb : lenB = 9223372036854775807 := rfl
    have hBl : LIs blIs c.bl Bs := lis_le hBs fun b hb => by have := (k3 b hb).1; omega
    have hIs : c.Is (.agg [.sl Bs t1, .sl (nmA c.gl) t2, .sl (ints c.st) t3]) := ⟨Bs, t1, t2, t3, rfl, hBl, p1, p2, p3, by omega, by omega, by omega⟩
    have hS := run_sound (md := md) hm pfsOK
    have hpa : pureAVs [.agg [.sl Bs t1, .sl (nmA c.gl) t2, .sl (ints c.st) t3]] = true := by simp [pvs_cons, pvs_nil, cdPure hIs]
    obtain ⟨u, us, rfl, hu, hnil⟩ := hr.cons_inv
    obtain rfl : us = [] := List.length_eq_zero_iff.1 hnil.1.symm
    obtain ⟨cs, rfl, hcs⟩ := hu.agg_inv
    obtain ⟨v1, cs, rfl, hv1, hcs⟩ := hcs.cons_inv
    obtain ⟨v2, cs, rfl, hv2, hcs⟩ := hcs.cons_inv
    obtain ⟨v3, cs, rfl, hv3, hcs⟩ := hcs.cons_inv
    obtain rfl : cs = [] := List.length_eq_zero_iff.1 hcs.1.symm
    have hone : v1.oneCell' = true ∧ v2.oneCell' = true ∧ v3.oneCell' = true := by
     obtain ⟨_, _, _, _, _, rfl, _⟩ := hv1.sl_inv
     obtain ⟨_, _, _, _, _, rfl, _⟩ := hv2.sl_inv
     obtain ⟨_, _, _, _, _, rfl, _⟩ := hv3.sl_inv
     exact ⟨rfl, rfl, rfl⟩
    have h20 : ∀ w1, Below w.heap.size w w1 → Calls Tryd.prog 20 #[.agg #[v1, v2, v3]] w1 fun e w2 => e = .returned (.int .i64 c.outE) ∧ Below w1.heap.size w1 w2 := fun w1 hb => by
     obtain ⟨hI1, hr1⟩ := below_rep hI hr hb
     refine (pure_callsB hS (starts_ret hIs (fun g hg => by have := k4 g hg; omega)) hpa hI1 hr1).mono ?_
     rintro e w2 ⟨_, u, rfl, rfl, hbl, hR⟩
     rw [hR.v_inv]
     exact ⟨rfl, hbl⟩
    have fin : Calls Tryd.prog 11 #[.agg #[v1, v2, v3]] w (fun e w' => e = .returned (.int .i64 c.check) ∧ Below w.heap.size w w') → Calls Tryd.prog 11 #[.agg #[v1, v2, v3]] w fun e w' => ∃ g', Inv g' s w' ∧ Ext g s w g' s w' ∧ OutRep g' s w' (.ret (.int c.check)) e := fun h => h.mono fun e w' ⟨he, hbl⟩ => by
     subst he
     have hE : Ext g s w g s w' := Ext.same hbl.size hbl.block hbl.os hbl.tape ⟨hbl.output, fun d => d.elim⟩
     exact ⟨g, hI.keep hE fun b h => hbl.block b (hI.has_lt h), hE, .v rfl⟩
    cases ho : (c.outE != 0)
    case true => exact fin (ref_no hone ho h20)
    have ho' : c.outE = 0 := by simpa [bne] using ho
    rw [ho'] at h20
    have hoo : c.bl ≠ [] ∧ (c.st.any fun s => decide (s < 1) || decide ((c.bl.length : Int) ≤ s)) = false := by
     unfold Cd.outE at ho'
     split at ho'
     ·omega
     rename_i hh
     exact ⟨fun e => hh (.inl e), by
      cases hx : (c.st.any fun s => decide (s < 1) || decide ((c.bl.length : Int) ≤ s)) with
      | false => rfl
      | true => exact absurd (.inr (.inr (.inl hx))) hh⟩
    obtain ⟨hne, hst⟩ := hoo
    have hb1 : 1 ≤ c.bl.length := by
     rcases Nat.eq_zero_or_pos c.bl.length with h | h
     ·exact absurd (List.length_eq_zero_iff.1 h) hne
     ·exact h
    refine fin (ref_walk hone h20 ?_ ⟨hb1, by omega⟩ ?_ ?_ (by omega) (fun w1 n S wr => ∃ g' s', Inv g' s' wr ∧ g'.mu 0 = some w1.heap.size ∧ KS 0 1 Bs t1 t2 t3 c S s'.H ∧ SB ((64 * n + ((c.bl.map List.length).take n).sum : Nat) : Int) S ∧ w1.heap.size ≤ wr.heap.size ∧ ∀ b, b < w1.heap.size → ¬ g'.has b) ?_ ?_ ho')
    ·obtain ⟨x, cap, b, o, cs, rfl, r1, r2, r3, r4, _⟩ := hv1.sl_inv
     exact ⟨x, cap, by rw [hlen], by omega⟩
    ·obtain ⟨x, cap, b, o, cs, rfl, r1, r2, r3, r4, _⟩ := hv3.sl_inv
     have hfl : flat (ints c.st) = ints c.st := flat_one fun y hy => by
      obtain ⟨q, _, rfl⟩ := List.mem_map.1 hy; rfl
     rw [hfl] at r1
     refine ⟨x, cap, by rw [ints_len], by rw [← ints_len]; exact r4, fun n l hl => ?_⟩
     have hnl : n < c.st.length := (List.getElem?_eq_some_iff.1 hl).1
     have hx := r3 (by intro e; have := congrArg List.length e; rw [ints_len] at this; simp at this; rw [this] at hnl; simp at hnl)
     have hnc : n < cs.length := by rw [← r1.1, ints_len]; exact hnl
     have hav : (ints c.st)[n]? = some (.int l) := by rw [ints, List.getElem?_map, hl]; rfl
     have hR := r1.2 n _ _ hav (List.getElem?_eq_getElem hnc)
     have hcell := (r2 n _ (List.getElem?_eq_getElem hnc)).1
     rw [hR.v_inv] at hcell
     exact ⟨b, o, hx, hcell⟩
    ·intro x hx
     have h := List.any_eq_false.1 hst x hx
     simp only [Bool.or_eq_true, decide_eq_true_eq, not_or] at h
     omega
    ·intro w1 gb cap wr hB1 hsz1 hg hB hK hrow hSB
     obtain ⟨fb, hI2⟩ := begin_inv (K := w1.heap.size) hI hr hpa (hB1.trans (hB.mono (by omega))) (by omega) hg hK hrow
     have hSl : c.S0.length = c.bl.length := by have := hrow.1; simpa using this
     refine ⟨_, _, hI2, by simp [GhK], ⟨rfl, rfl, hSl, by decide, hBl, p1, by omega⟩, hSB.mono (by simp), hB.size, fun b hlt hb => ?_⟩
     rcases ghk_has hb with rfl | rfl <;> omega
    ·rintro w1 n l S wr ⟨g', s', hI2, hmu, kS, hS2, hsz, hnh⟩ hl
     have hle := sum_take (c.bl.map List.length) (n + 1)
     have htk : ((c.bl.map List.length).take (n + 1)).sum = ((c.bl.map List.length).take n).sum + l.length := by
      rw [List.take_add_one, List.getElem?_map, hl]; simp
     have hnl := (List.getElem?_eq_some_iff.1 hl).1
     refine (sh_calls hS (rblock_chk (V := s'.T) kS hl (fun x hx => by have := (k3 l (List.mem_of_getElem? hl)).2 x hx; omega) hS2 (by omega) (by omega)) ?_ hI2 (vs := [.pointer (some ⟨w1.heap.size, 0, none⟩), .int .i64 n]) (.cons (.ptr hmu) (.one (.v rfl)))).mono ?_
     ·intro v s1 h
      revert h
      cases blkE c.bl.length c.gl.length n l S with
      | error e => rintro ⟨rfl, _⟩; exact ⟨_, rfl⟩
      | ok S' => rintro ⟨rfl, _⟩; exact ⟨_, rfl⟩
     ·rintro e w2 ⟨z, g2, s2, hz, rfl, hI3, hE⟩
      have hbl := below_of hE hsz hnh
      cases hbk : blkE c.bl.length c.gl.length n l S with
      | error e =>
       rw [hbk] at hz
       obtain ⟨h, _⟩ := hz
       obtain rfl : z = e := by simpa [AV.int] using h
       exact ⟨rfl, hbl⟩
      | ok S' =>
       have hS' := blkE_bd hS2 (by omega) hbk
       rw [hbk] at hz
       obtain ⟨h, H', rfl, kS', hl'⟩ := hz
       obtain rfl : z = 0 := by simpa [AV.int] using h
       refine ⟨rfl, hbl, g2, _, hI3, hE.mu _ _ hmu, kS', hS'.mono (by rw [htk]; omega), by have := hbl.size; omega, fun b hb => (hE.obj b (by omega) (hnh b hb)).2⟩
   ·cases hv
  ·cases hv
 ·cases hv
open Go Go.Proofs
set_option maxHeartbeats 16000000
def okB (b : List Ins) : Bool := decide (b.length ≤ 120) && b.all fun x => decide (x.n.size ≤ 100)
def Cd.few (c : Cd) : Bool := decide (c.bl.length ≤ 40 ∧ c.gl.length ≤ 10 ∧ c.st.length ≤ 20) && (c.gl.all fun g => decide (g.size ≤ 100)) && c.bl.all okB
theorem all_no {α : Type} {p : α → Bool} {l : List α} {x : α} (h : x ∈ l) (hp : p x = false) : l.all p = false := by
 cases h2 : l.all p with
 | false => rfl
 | true => rw [List.all_eq_true.1 h2 x h] at hp; cases hp
theorem all_tk {α : Type} {p : α → Bool} {l : List α} {n : Nat} {x : α} (h : l[n]? = some x) (h1 : (l.take n).all p = true) (h2 : p x = true) : (l.take (n + 1)).all p = true := by
 rw [List.take_add_one, h, List.all_append, h1, Option.toList_some, List.all_cons, h2]; rfl
theorem cfew_ret {c : Cd} {a : AV} (h : c.Is a) : Out md pfs 8 [a] (· = .bool c.few) fun _ => False := by
 obtain ⟨Bs, t1, t2, t3, rfl, g1, g2, g3, g4, g5, g6, g7⟩ := id h
 have hBl := g1.len
 have hallB : (Bs.all fun x => x.cells.length == 1) = true := List.all_eq_true.2 fun y hy => by
  obtain ⟨q, hq⟩ := List.mem_iff_getElem?.1 hy
  obtain ⟨b, a, _, _, _, e4, ⟨t, rfl, _⟩⟩ := g1.at (i := q) (List.getElem?_eq_some_iff.1 hq).1
  rw [hq] at e4; cases e4; rfl
 refine out_of pf8_is (Nat.le_of_ble_eq_true rfl) ?_
 cases q1 : decide (((Bs.length : Nat) : Int) > 40)
 case true =>
  have : c.few = false := by
   unfold Cd.few
   rw [decide_eq_false (by simp only [decide_eq_true_eq] at q1; omega)]; rfl
  rw [this]
  simp only [pf8, ↓wpre, wall, simprocAttr, List.length_append, List.append_assoc, app_get_len, app_get_add, app_set_len, app_set_add, ints_len, nmA_len, q1]
 cases q2 : decide (((c.gl.length : Nat) : Int) > 10)
 case true =>
  have : c.few = false := by
   unfold Cd.few
   rw [decide_eq_false (by simp only [decide_eq_true_eq] at q2; omega)]; rfl
  rw [this]
  simp only [pf8, ↓wpre, wall, simprocAttr, List.length_append, List.append_assoc, app_get_len, app_get_add, app_set_len, app_set_add, ints_len, nmA_len, q1, q2]
 cases q3 : decide (((c.st.length : Nat) : Int) > 20)
 case true =>
  have : c.few = false := by
   unfold Cd.few
   rw [decide_eq_false (by simp only [decide_eq_true_eq] at q3; omega)]; rfl
  rw [this]
  simp only [pf8, ↓wpre, wall, simprocAttr, List.length_append, List.append_assoc, app_get_len, app_get_add, app_set_len, app_set_add, ints_len, nmA_len, q1, q2, q3]
 have hD : decide (c.bl.length ≤ 40 ∧ c.gl.length ≤ 10 ∧ c.st.length ≤ 20) = true := by
  simp only [decide_eq_true_eq, decide_eq_false_iff_not] at q1 q2 q3 ⊢; omega
 have hF : c.few = ((c.gl.all fun g => decide (g.size ≤ 100)) && c.bl.all okB) := by
  rw [Cd.few, hD, Bool.true_and]
 simp only [pf8, ↓wpre, wall, simprocAttr, List.length_append, List.append_assoc, app_get_len, app_get_add, app_set_len, app_set_add, ints_len, nmA_len, q1, q2, q3]
 refine W_loopE (fun i => c.gl.length - i) (fun i E H T => i ≤ c.gl.length ∧ E 1 = .ptr 0 0 ∧ E 3 = .int i ∧ ((c.gl.take i).all fun g => decide (g.size ≤ 100)) = true ∧ ∃ G, H = .cells false [.sl Bs t1, .sl (nmA c.gl) t2, .sl (ints c.st) t3] :: G) ?_ 0 ⟨Nat.zero_le _, rfl, rfl, rfl, _, rfl⟩
 rintro i E H T ⟨hi, e1, e3, hb, G, rfl⟩
 rcases Nat.lt_or_ge i c.gl.length with hlt | hge
 ·have hdec : decide ((i : Int) < c.gl.length) = true := by simpa using hlt
  obtain ⟨x, x0, x4⟩ := nmA_at hlt
  cases c1 : decide (((x.size : Nat) : Int) > 100)
  case true =>
   rw [hF, all_no (List.mem_of_getElem? x0) (by simp only [decide_eq_true_eq] at c1; rw [decide_eq_false (by omega)]), Bool.false_and]
   simp only [↓wpre, wall, simprocAttr, List.length_append, List.append_assoc, app_get_len, app_get_add, app_set_len, app_set_add, e1, e3, hdec, x4, nmA_all, nmA_len, c1]
  simp only [↓wpre, wall, simprocAttr, List.length_append, List.append_assoc, app_get_len, app_get_add, app_set_len, app_set_add, e1, e3, hdec, x4, nmA_all, nmA_len, c1]
  exact EQ_in ⟨i + 1, by omega, by omega, e1, next_ixv (by omega), all_tk x0 hb (by simp only [decide_eq_false_iff_not] at c1; rw [decide_eq_true (by omega)]), _, rfl⟩
 have hdec : decide ((i : Int) < c.gl.length) = false := by simpa using hge
 rw [List.take_of_length_le (by omega)] at hb
 simp only [↓wpre, wall, simprocAttr, List.length_append, List.append_assoc, app_get_len, app_get_add, app_set_len, app_set_add, e1, e3, hdec, nmA_len]
 refine W_loopE (fun i => c.bl.length - i) (fun i E H T => i ≤ c.bl.length ∧ E 1 = .ptr 0 0 ∧ E 4 = .int i ∧ ((c.bl.take i).all okB) = true ∧ ∃ G, H = .cells false [.sl Bs t1, .sl (nmA c.gl) t2, .sl (ints c.st) t3] :: G) ?_ 0 ⟨Nat.zero_le _, e1, rfl, rfl, _, rfl⟩
 rintro i E H T ⟨hi, e1, e4, hb2, G, rfl⟩
 rcases Nat.lt_or_ge i c.bl.length with hlt | hge
 ·have hdec : decide ((i : Int) < (Bs.length : Nat)) = true := by simp only [decide_eq_true_eq]; omega
  obtain ⟨b, a, d0, _, _, d4, ⟨tb, rfl, htb, hll⟩⟩ := g1.at (i := i) (by omega)
  cases c1 : decide (((b.length : Nat) : Int) > 120)
  case true =>
   rw [hF, hb, Bool.true_and, all_no (List.mem_of_getElem? d0) (by simp only [decide_eq_true_eq] at c1; rw [okB, decide_eq_false (by omega)]; rfl)]
   simp only [↓wpre, wall, simprocAttr, List.length_append, List.append_assoc, app_get_len, app_get_add, app_set_len, app_set_add, e1, e4, hdec, d4, hallB, insA_len, c1]
  simp only [↓wpre, wall, simprocAttr, List.length_append, List.append_assoc, app_get_len, app_get_add, app_set_len, app_set_add, e1, e4, hdec, d4, hallB, insA_len, c1]
  refine W_loopE (fun j => b.length - j) (fun j E H T => j ≤ b.length ∧ E 1 = .ptr 0 0 ∧ E 4 = .int i ∧ E 5 = .int j ∧ ((b.take j).all fun x => decide (x.n.size ≤ 100)) = true ∧ ∃ G, H = .cells false [.sl Bs t1, .sl (nmA c.gl) t2, .sl (ints c.st) t3] :: G) ?_ 0 ⟨Nat.zero_le _, e1, e4, rfl, rfl, _, rfl⟩
  rintro j E H T ⟨hj, e1, e4, e5, hb3, G, rfl⟩
  rcases Nat.lt_or_ge j b.length with hlt2 | hge2
  ·have hdec2 : decide ((j : Int) < b.length) = true := by simpa using hlt2
   obtain ⟨x, x0, x4⟩ := insA_at hlt2
   cases c2 : decide (((x.n.size : Nat) : Int) > 100)
   case true =>
    rw [hF, hb, Bool.true_and, all_no (List.mem_of_getElem? d0) (by
     simp only [decide_eq_true_eq] at c2
     rw [okB, all_no (List.mem_of_getElem? x0) (by rw [decide_eq_false (by omega)]), Bool.and_false])]
    simp only [↓wpre, wall, simprocAttr, List.length_append, List.append_assoc, app_get_len, app_get_add, app_set_len, app_set_add, e1, e4, e5, hdec2, d4, hallB, insA_len, insA_all, x4, c2]
   simp only [↓wpre, wall, simprocAttr, List.length_append, List.append_assoc, app_get_len, app_get_add, app_set_len, app_set_add, e1, e4, e5, hdec2, d4, hallB, insA_len, insA_all, x4, c2]
   exact EQ_in ⟨j + 1, by omega, by omega, e1, e4, next_ixv (by omega), all_tk x0 hb3 (by simp only [decide_eq_false_iff_not] at c2; rw [decide_eq_true (by omega)]), _, rfl⟩
  ·have hdec2 : decide ((j : Int) < b.length) = false := by simpa using hge2
   rw [List.take_of_length_le (by omega)] at hb3
   simp only [↓wpre, wall, simprocAttr, List.length_append, List.append_assoc, app_get_len, app_get_add, app_set_len, app_set_add, e1, e4, e5, hdec2, d4, hallB, insA_len]
   exact EQ_in ⟨i + 1, by omega, by omega, e1, next_ixv (by omega), all_tk d0 hb2 (by simp only [decide_eq_false_iff_not] at c1; rw [okB, hb3, decide_eq_true (by omega)]; rfl), _, rfl⟩
 ·have hdec : decide ((i : Int) < (Bs.length : Nat)) = false := by simp only [decide_eq_false_iff_not]; omega
  rw [List.take_of_length_le (by omega)] at hb2
  rw [hF, hb, hb2]
  simp only [↓wpre, wall, simprocAttr, List.length_append, List.append_assoc, app_get_len, app_get_add, app_set_len, app_set_add, e1, e4, hdec]
noncomputable def pfs3 (f : Nat) : Option PF := if f = 11 then some ⟨0, [], .ora refO⟩ else pfs2 f
theorem pfs_le3 : ∀ f pf, pfs2 f = some pf → pfs3 f = some pf := fun f pf h => by
 unfold pfs3
 split
 ·rename_i hf; subst hf; simp [pfs2, pfs] at h
 ·exact h
theorem pfsOK3 : PfsOK Tryd.prog pfs3 := fun f pf h => by
 unfold pfs3 at h
 split at h
 ·rename_i hf
  subst hf
  simp only [Option.some.injEq] at h; subst h
  exact .inr (.inl ⟨_, rfl, ref_ok⟩)
 ·exact pfsOK2 f pf h
theorem pf3' {f : Nat} {pf : PF} (h : pfs f = some pf) : pfs3 f = some pf := pfs_le3 f pf (pfs_le f pf h)
theorem Ref_out {c : Cd} {a : AV} (h : cdOf a = some c) (hok : okR c = true) : Out md pfs3 11 [a] (· = .int c.check) fun _ => False := by
 have := run_ora (md := md) (pfs := pfs3) (f := 11) (pf := ⟨0, [], .ora refO⟩) (by simp [pfs3]) rfl (args := [a]) (v := .int c.check) (s := ⟨[], []⟩) (s' := ⟨[], []⟩) (by
  simp only [refO, h]
  rw [if_pos hok])
 exact ⟨_, _, .ret _, this, rfl, rfl⟩
theorem sum_le {l : List (List Ins)} (h : ∀ b ∈ l, b.length ≤ 120) : (l.map List.length).sum ≤ 120 * l.length := by
 induction l with
 | nil => simp
 | cons x l ih =>
  have h1 := h x (by simp)
  have h2 := ih fun y hy => h y (by simp [hy])
  simp only [List.map_cons, List.sum_cons, List.length_cons]; omega
theorem few_cd {c : Cd} (h : c.few = true) : c.bl.length ≤ 40 ∧ c.gl.length ≤ 10 ∧ c.st.length ≤ 20 ∧ (∀ g ∈ c.gl, g.size ≤ 100) ∧ (∀ b ∈ c.bl, b.length ≤ 120 ∧ ∀ x ∈ b, x.n.size ≤ 100) ∧ (c.bl.map List.length).sum ≤ 4800 := by
 unfold Cd.few at h
 simp only [okB, Bool.and_eq_true, decide_eq_true_eq, List.all_eq_true] at h
 obtain ⟨⟨⟨h1, h2, h3⟩, h4⟩, h5⟩ := h
 have := sum_le fun b hb => (h5 b hb).1
 exact ⟨h1, h2, h3, h4, h5, by omega⟩
theorem few_okR {c : Cd} (h : c.few = true) : okR c = true := by
 obtain ⟨h1, h2, h3, h4, h5, h6⟩ := few_cd h
 simp only [okR, Bool.and_eq_true, decide_eq_true_eq, List.all_eq_true]
 exact ⟨⟨⟨⟨⟨by omega, by omega⟩, fun b hb => ⟨by have := (h5 b hb).1; omega, fun x hx => by have := (h5 b hb).2 x hx; omega⟩⟩, fun g hg => by have := h4 g hg; omega⟩, by omega⟩, by omega⟩
theorem cells9 : 0 < Tryd.prog.cellsOf 9 := by rw [show Tryd.prog.cellsOf 9 = 1 from by kernel_rfl]; decide
theorem cells46 : 0 < Tryd.prog.cellsOf 46 := by rw [show Tryd.prog.cellsOf 46 = 1 from by kernel_rfl]; decide
theorem cells48 : 0 < Tryd.prog.cellsOf 48 := by rw [show Tryd.prog.cellsOf 48 = 4 from by kernel_rfl]; decide
def insIs (x : Ins) (a : AV) : Prop := a = x.av ∧ in64 x.a ∧ in64 x.b
def blIsN (b : List Ins) (a : AV) : Prop := ∃ t, a = .sl (insA b) t ∧ t.pure = true ∧ b.length ≤ lenB ∧ ∀ x ∈ b, in64 x.a ∧ in64 x.b
theorem lis_map {α : Type} {R Q : α → AV → Prop} {P : α → Prop} (h : ∀ x a, R x a → Q x a ∧ P x) : ∀ {l : List α} {al : List AV}, LIs R l al → LIs Q l al ∧ ∀ x ∈ l, P x
 | [], [], _ => ⟨trivial, fun x hx => by cases hx⟩
 | [], _ :: _, h => h.elim
 | _ :: _, [], h => h.elim
 | x :: l, a :: al, ⟨h1, h2⟩ => by
  obtain ⟨k1, k2⟩ := lis_map h h2
  refine ⟨⟨(h x a h1).1, k1⟩, fun y hy => ?_⟩
  rcases List.mem_cons.1 hy with rfl | hy
  ·exact (h _ a h1).2
  ·exact k2 y hy
theorem four {α : Type} {l : List α} (h : l.length = 4) : ∃ a b c d, l = [a, b, c, d] := by
 match l, h with
 | [a, b, c, d], _ => exact ⟨a, b, c, d, rfl⟩
theorem three {α : Type} {l : List α} (h : l.length = 3) : ∃ a b c, l = [a, b, c] := by
 match l, h with
 | [a, b, c], _ => exact ⟨a, b, c, rfl⟩
theorem oft_ins {n : Nat} {l : List AV} (h : OfT Tryd.prog n 48 l) : ∃ x : Ins, insIs x (.agg l) := by
 cases n with
 | zero => exact h.elim
 | succ n =>
  simp only [OfT, Tryd.underlying48] at h
  rw [if_pos (by kernel_rfl)] at h
  obtain ⟨xs, rfl, hl, hx⟩ := h
  obtain ⟨a, b, c, d, rfl⟩ := four hl
  obtain ⟨i, rfl, _⟩ := oft_int (hx 0 _ a rfl rfl)
  obtain ⟨j, rfl, hj⟩ := oft_int (hx 1 _ b rfl rfl)
  obtain ⟨k, rfl, hk⟩ := oft_int (hx 2 _ c rfl rfl)
  obtain ⟨nm, rfl, _⟩ := oft_str (hx 3 _ d rfl rfl)
  exact ⟨⟨i, j, k, nm⟩, rfl, hj, hk⟩
theorem oft_bl {n : Nat} {l : List AV} (h : OfT Tryd.prog n 46 l) : ∃ b a, l = [a] ∧ blIsN b a := by
 obtain ⟨xs, al, tl, rfl, h1, h2, h3⟩ := oft_slice (R := insIs) Tryd.underlying46 cells48 (fun n l h => by
  obtain ⟨x, hx⟩ := oft_ins h
  exact ⟨x, by rw [show isAgg Tryd.prog 48 = true from by kernel_rfl]; exact hx⟩) h
 obtain ⟨k1, k2⟩ := lis_map (Q := fun x a => a = x.av) (fun x a (h : insIs x a) => ⟨h.1, h.2⟩) h1
 have e := lis_ins k1
 subst e
 exact ⟨xs, _, rfl, tl, rfl, h2, by rw [← insA_len]; exact h3, k2⟩
theorem oft_cd {n : Nat} {l : List AV} (h : OfT Tryd.prog n 26 l) : ∃ c : Cd, c.Is (.agg l) ∧ ∀ b ∈ c.bl, ∀ x ∈ b, in64 x.a ∧ in64 x.b := by
 cases n with
 | zero => exact h.elim
 | succ n =>
  simp only [OfT, Tryd.underlying26] at h
  rw [if_pos (by kernel_rfl)] at h
  obtain ⟨xs, rfl, hl, hx⟩ := h
  obtain ⟨a, b, c, rfl⟩ := three hl
  obtain ⟨bl, Bs, t1, rfl, g1, g2, g3⟩ := oft_slice (R := blIsN) Tryd.underlying22 cells46 (fun n l h => by
   obtain ⟨b, a, rfl, hg⟩ := oft_bl h
   exact ⟨b, by rw [show isAgg Tryd.prog 46 = false from by kernel_rfl]; exact hg⟩) (hx 0 _ a rfl rfl)
  obtain ⟨gl, al, t2, rfl, k1, k2, k3⟩ := oft_slice (R := fun s a => a = .str s) Tryd.underlying23 cells9 (fun n l h => by
   obtain ⟨s, rfl, _⟩ := oft_str h
   exact ⟨s, by rw [show isAgg Tryd.prog 9 = false from by kernel_rfl]; rfl⟩) (hx 1 _ b rfl rfl)
  have e := lis_nm k1
  subst e
  obtain ⟨st, t3, rfl, m2, m3⟩ := oft_ints (hx 2 _ c rfl rfl)
  obtain ⟨b1, b2⟩ := lis_map (Q := blIs) (P := fun b => ∀ x ∈ b, in64 x.a ∧ in64 x.b) (fun x a (h : blIsN x a) => by
   obtain ⟨t, e, h1, h2, h3⟩ := h
   exact ⟨⟨t, e, h1, h2⟩, h3⟩) g1
  exact ⟨⟨bl, gl, st⟩, ⟨Bs, t1, t2, t3, rfl, b1, g2, k2, m2, g3, by rw [← nmA_len]; exact k3, m3⟩, b2⟩
theorem numT_big {n : Nat} (h : 10 ≤ n) (hn : n ≤ 9223372036854775807) : numT n = numT ((n / 10 : Nat) : Int) ++ numT ((n % 10 : Nat) : Int) := by
 have e : ∀ m : Nat, m ≤ 9223372036854775807 → numF (m : Int) = Lib.decDigits m := fun m hm => by
  unfold numF
  rw [if_neg (by omega), digF_eq 19 _ (by simp only [Int.toNat_natCast]; omega), Int.toNat_natCast]
 have h3 : Lib.decDigits (n % 10) = [UInt8.ofNat (48 + n % 10)] := by rw [Lib.decDigits, dif_pos (by omega)]
 have h4 : Lib.decDigits n = Lib.decDigits (n / 10) ++ [UInt8.ofNat (48 + n % 10)] := by rw [Lib.decDigits, dif_neg (by omega)]
 apply ByteArray.ext
 rw [ByteArray.data_append]
 simp only [numT]
 rw [e n hn, e _ (by omega), e _ (by omega), h3, h4]
 simp
theorem dec_one : ∀ k : Nat, k < 10 → (⟨#[48,49,50,51,52,53,54,55,56,57]⟩ : ByteArray).extract k (k + 1) = numT (k : Int) := by decide
theorem dec_ret : ∀ (f n : Nat), n < 10 ^ (f + 1) → n ≤ 9223372036854775807 → Out md pfs 27 [.int (n : Int)] (· = .str (numT n)) fun _ => False := by
 have small : ∀ n : Nat, n < 10 → Out md pfs 27 [.int (n : Int)] (· = .str (numT n)) fun _ => False := fun n h => by
  refine out_of pf27_is (Nat.le_of_ble_eq_true rfl) ?_
  have hd : decide ((n : Int) < 10) = true := by simp only [decide_eq_true_eq]; omega
  have l1 : (n : Int) ≤ 10 := by omega
  have l2 : ((n + 1 : Nat) : Int) ≤ 10 := by omega
  have l3 : n ≤ n + 1 := by omega
  have w1 : IntKind.i64.wrap ((n : Int) + 1) = ((n + 1 : Nat) : Int) := by rw [wrap_in (by unfold in64; omega)]; omega
  have hz : (⟨#[48,49,50,51,52,53,54,55,56,57]⟩ : ByteArray).size = 10 := rfl
  have he := dec_one n h
  simp only [pf27, ↓wpre, wall, simprocAttr, hd, w1, hz, l1, l2, l3, he, if_true]
 intro f
 induction f with
 | zero => intro n h _; exact small n (by simpa using h)
 | succ f ih =>
  intro n h hn
  by_cases h10 : n < 10
  ·exact small n h10
  ·refine out_of pf27_is (Nat.le_of_ble_eq_true rfl) ?_
   have hd : decide ((n : Int) < 10) = false := by simp only [decide_eq_false_iff_not]; omega
   have u2 : ((n : Nat) : Int).tdiv 10 = ((n / 10 : Nat) : Int) := (Int.ofNat_tdiv n 10).symm
   have u3 : ((n : Nat) : Int).tmod 10 = ((n % 10 : Nat) : Int) := (Int.ofNat_tmod n 10).symm
   have w2 : IntKind.i64.wrap ((n / 10 : Nat) : Int) = ((n / 10 : Nat) : Int) := wrap_in (by unfold in64; omega)
   have w3 : IntKind.i64.wrap ((n % 10 : Nat) : Int) = ((n % 10 : Nat) : Int) := wrap_in (by unfold in64; omega)
   obtain ⟨_, rfl, c1⟩ := (ih (n / 10) (by rw [Nat.pow_succ] at h; omega) (by omega)).call rfl (by simp [pvs_cons, pvs_nil, pv_v])
   obtain ⟨_, rfl, c2⟩ := (small (n % 10) (by omega)).call rfl (by simp [pvs_cons, pvs_nil, pv_v])
   have s1 := numT_size (n := ((n / 10 : Nat) : Int)) (by unfold in64; omega)
   have s2 := numT_size (n := ((n % 10 : Nat) : Int)) (by unfold in64; omega)
   rw [numT_big (by omega) hn]
   simp only [pf27, ↓wpre, wall, simprocAttr, hd, u2, u3, w2, w3, c1, c2, ByteArray.size_append]
   omega
theorem twice_new {α : Type} [DecidableEq α] : ∀ {l p : List α} {k : Nat} {x : α}, twice p l = false → l[k]? = some x → x ∉ p ++ l.take k
 | [], _, _, _, _, h => by simp at h
 | y :: l, p, 0, x, h, hk => by
  simp only [List.getElem?_cons_zero, Option.some.injEq] at hk
  subst hk
  rw [twice, Bool.or_eq_false_iff] at h
  simpa using h.1
 | y :: l, p, k + 1, x, h, hk => by
  rw [twice, Bool.or_eq_false_iff] at h
  have := twice_new h.2 (show l[k]? = some x by simpa using hk)
  rw [List.take_succ_cons]
  simpa [List.append_assoc] using this
def sT (l : List UInt8) : ByteArray := ⟨l.toArray⟩
theorem sT_size (l : List UInt8) : (sT l).size = l.length := by simp [sT, ByteArray.size]
theorem sT_bL (s : ByteArray) : sT (bL s) = s := by
 apply ByteArray.ext
 simp [sT, bL]
def gp (c : Cd) (n k : Nat) : ByteArray := match (c.st.take k).findIdx? (fun s => s == (n : Int)) with
 | none => ⟨#[]⟩
 | some j => ⟨#[32]⟩ ++ c.gl.getD j ⟨#[]⟩
theorem gp_0 (c : Cd) (n : Nat) : gp c n 0 = ⟨#[]⟩ := rfl
theorem gp_ne {c : Cd} {n k : Nat} {x : Int} (h : c.st[k]? = some x) (hx : (x == (n : Int)) = false) : gp c n (k + 1) = gp c n k := by
 unfold gp
 rw [List.take_add_one, h, Option.toList_some, List.findIdx?_append]
 simp only [List.findIdx?_cons, hx]
 cases (c.st.take k).findIdx? (fun s => s == (n : Int)) <;> rfl
theorem gp_eq {c : Cd} {n k : Nat} {x : Int} (h : c.st[k]? = some x) (hx : (x == (n : Int)) = true) (ht : twice [] c.st = false) : gp c n k = ⟨#[]⟩ ∧ gp c n (k + 1) = ⟨#[32]⟩ ++ c.gl.getD k ⟨#[]⟩ := by
 have hkl := (List.getElem?_eq_some_iff.1 h).1
 have hn := twice_new ht h
 rw [List.nil_append] at hn
 have hno : (c.st.take k).findIdx? (fun s => s == (n : Int)) = none := by
  rw [List.findIdx?_eq_none_iff]
  intro y hy
  cases hq : (y == (n : Int)) with
  | false => rfl
  | true => exact absurd (by rw [eq_of_beq hx, ← eq_of_beq hq]; exact hy) hn
 unfold gp
 refine ⟨by rw [hno], ?_⟩
 rw [List.take_add_one, h, Option.toList_some, List.findIdx?_append, hno]
 simp only [List.findIdx?_cons, hx, if_true, Option.none_or, Option.map_some, Nat.zero_add, List.length_take, Nat.min_eq_left (Nat.le_of_lt hkl)]
theorem gp_end (c : Cd) (n : Nat) : bL (gp c n c.st.length) = gnT c n := by
 unfold gp gnT
 rw [List.take_of_length_le (Nat.le_refl _)]
 cases c.st.findIdx? (fun s => s == (n : Int)) <;> rfl
theorem gp_size {c : Cd} (h : ∀ g ∈ c.gl, g.size ≤ 64) (n k : Nat) : (gp c n k).size ≤ 65 := by
 unfold gp
 split
 ·decide
 ·rename_i j _
  rw [ByteArray.size_append, List.getD]
  have z1 : (⟨#[32]⟩ : ByteArray).size = 1 := rfl
  cases hg : c.gl[j]? with
  | none => simp only [Option.getD_none]; rw [z1]; decide
  | some g => have := h g (List.mem_of_getElem? hg); simp only [Option.getD_some]; omega
theorem body_take {l : List Ins} {j : Nat} {x : Ins} (h : l[j]? = some x) : bodyT (l.take (j + 1)) = bodyT (l.take j) ++ bL (lineT x) := by
 rw [bodyT, bodyT, List.take_add_one, h, Option.toList_some, List.flatMap_append]
 simp
theorem line_put (T : ByteArray) (x : Ins) : T ++ lineT x =
  (let s := T ++ (⟨#[32,32]⟩ ++ opNames.getD x.op.toNat ⟨#[]⟩)
   let s := if usesA x.op then s ++ (⟨#[32]⟩ ++ numT x.a) else s
   let s := if usesB x.op then s ++ (⟨#[32]⟩ ++ numT x.b) else s
   let s := if usesN x.op then s ++ (⟨#[32]⟩ ++ x.n) else s
   s ++ ⟨#[10]⟩) := by
  unfold lineT
  cases usesA x.op <;> cases usesB x.op <;> cases usesN x.op <;> simp only [Bool.false_eq_true, if_false, if_true, ByteArray.append_assoc]
theorem sT_add (a b : List UInt8) : sT (a ++ b) = sT a ++ sT b := by
 apply ByteArray.ext
 rw [ByteArray.data_append]
 simp [sT]
theorem ba_nil (X : ByteArray) : X ++ ⟨#[]⟩ = X := by
 apply ByteArray.ext
 rw [ByteArray.data_append]
 simp
theorem text_next {c : Cd} {n : Nat} {b : List Ins} (h : c.bl[n]? = some b) : sT (textTo c (n + 1)) = ((sT (textTo c n) ++ ((str1 ++ numT n) ++ ⟨#[58]⟩)) ++ gp c n c.st.length) ++ ⟨#[10]⟩ ++ sT (bodyT b) := by
 have hgd : c.bl.getD n [] = b := by rw [List.getD, h]; rfl
 rw [textTo, hgd, headT, ← gp_end]
 simp only [sT_add, sT_bL, ByteArray.append_assoc]
theorem rtext_no {c : Cd} {a : AV} (h : c.Is a) (hf : c.few = true) (hz : (c.check != 0) = true) : Out md pfs3 13 [a] (· = .str ⟨#[]⟩) fun _ => False := by
 have hpu : pureAVs [a] = true := by
  obtain ⟨Bs, t1, t2, t3, rfl, _⟩ := id h
  simp [pvs_cons, pvs_nil, cdPure h]
 obtain ⟨_, rfl, cr⟩ := (Ref_out (cdOf_of h) (few_okR hf)).call rfl hpu
 obtain ⟨Bs, t1, t2, t3, rfl, g1, g2, g3, g4, g5, g6, g7⟩ := id h
 refine out_of (pf3' pf13_is) (Nat.le_of_ble_eq_true rfl) ?_
 simp only [pf13, ↓wpre, wall, simprocAttr, cr, hz]
theorem rtext_ret {c : Cd} {a : AV} (h : c.Is a) (hf : c.few = true) (hc : c.check = 0) : Out md pfs3 13 [a] (· = .str ⟨(textL c).toArray⟩) fun _ => False := by
 have hpu : pureAVs [a] = true := by
  obtain ⟨Bs, t1, t2, t3, rfl, _⟩ := id h
  simp [pvs_cons, pvs_nil, cdPure h]
 obtain ⟨_, rfl, cr⟩ := (Ref_out (cdOf_of h) (few_okR hf)).call rfl hpu
 obtain ⟨Bs, t1, t2, t3, rfl, g1, g2, g3, g4, g5, g6, g7⟩ := id h
 obtain ⟨f1, f2, f3, f4, f5, f6⟩ := few_cd hf
 obtain ⟨hi, hne, hg, hst⟩ := check_ins hc (by omega) (by omega) (by omega)
 have hops := (check_ops hc).1
 have htw : twice [] c.st = false := by
  unfold Cd.check at hc
  split at hc
  ·rename_i h1; exact absurd hc h1
  ·rename_i h1
   have h1 : c.outE = 0 := by simpa using h1
   unfold Cd.outE at h1
   split at h1
   ·omega
   rename_i hh
   cases hx : twice [] c.st with
   | false => rfl
   | true => exact absurd (.inr (.inr (.inr hx))) hh
 have hBl := g1.len
 have hallB : (Bs.all fun x => x.cells.length == 1) = true := List.all_eq_true.2 fun y hy => by
  obtain ⟨q, hq⟩ := List.mem_iff_getElem?.1 hy
  obtain ⟨b, a, _, _, _, e4, ⟨t, rfl, _⟩⟩ := g1.at (i := q) (List.getElem?_eq_some_iff.1 hq).1
  rw [hq] at e4; cases e4; rfl
 have hbd : ∀ n, n ≤ c.bl.length → (textTo c n).length ≤ 1000000 := fun n hn => by
  have h1 := textTo_len hg hi n (by omega) hn
  have h2 := sum_take (c.bl.map List.length) n
  omega
 rw [hc] at cr
 have hnL : ∀ k, k < 15 → (opNames.map fun s => AV.str s)[k]? = some (.str (opNames.getD k ⟨#[]⟩)) := fun k hk => by
  rw [List.getElem?_map, List.getD, List.getElem?_eq_getElem (show k < opNames.length from hk)]; rfl
 refine out_of (pf3' pf13_is) (Nat.le_of_ble_eq_true rfl) ?_
 simp only [pf13, ↓wpre, wall, simprocAttr, cr]
 refine W_loopE (fun n => c.bl.length - n) (fun n E H T => n ≤ c.bl.length ∧ E 1 = .ptr 0 0 ∧ (∃ t, E 3 = .sl (opNames.map fun s => AV.str s) t) ∧ E 4 = .str (sT (textTo c n)) ∧ E 5 = .int n ∧ ∃ G, H = .cells false [.sl Bs t1, .sl (nmA c.gl) t2, .sl (ints c.st) t3] :: G) ?_ 0 ⟨Nat.zero_le _, rfl, ⟨_, rfl⟩, rfl, rfl, _, rfl⟩
 rintro n E H T ⟨hn, e1, ⟨tn, e3⟩, e4, e5, G, rfl⟩
 rcases Nat.lt_or_ge n c.bl.length with hlt | hge
 ·have hdec : decide ((n : Int) < (Bs.length : Nat)) = true := by simp only [decide_eq_true_eq]; omega
  obtain ⟨b, a, d0, _, _, d4, ⟨tb, rfl, htb, hll⟩⟩ := g1.at (i := n) (by omega)
  obtain ⟨_, rfl, c0⟩ := (((dec_ret 18 n (by omega) (by omega)).ext pfs_le).ext pfs_le3).call rfl (by simp [pvs_cons, pvs_nil, pv_v])
  have s0 := numT_size (n := (n : Int)) (by unfold in64; omega)
  have s1 := sT_size (textTo c n)
  have s2 := hbd n hn
  simp only [↓wpre, wall, simprocAttr, List.length_append, List.append_assoc, app_get_len, app_get_add, app_set_len, app_set_add, e1, e3, e4, e5, hdec, c0, ByteArray.size_append]
  have z6 : (⟨#[98, 108, 111, 99, 107, 32]⟩ : ByteArray).size = 6 := rfl
  have z1 : (⟨#[58]⟩ : ByteArray).size = 1 := rfl
  have z2 : (⟨#[10]⟩ : ByteArray).size = 1 := rfl
  have z3 : (⟨#[32]⟩ : ByteArray).size = 1 := rfl
  have z4 : (⟨#[32, 32]⟩ : ByteArray).size = 2 := rfl
  refine ⟨by omega, by omega, by omega, ?_⟩
  have hfin := text_next d0
  have hX : (sT (textTo c n) ++ ((⟨#[98, 108, 111, 99, 107, 32]⟩ ++ numT n) ++ ⟨#[58]⟩)).size ≤ 1000100 := by
   simp only [ByteArray.size_append]; omega
  rw [str1] at hfin
  generalize sT (textTo c n) ++ ((⟨#[98, 108, 111, 99, 107, 32]⟩ ++ numT n) ++ ⟨#[58]⟩) = X at *
  refine W_loopE (fun k => c.st.length - k) (fun k E H T => k ≤ c.st.length ∧ E 1 = .ptr 0 0 ∧ E 3 = .sl (opNames.map fun s => AV.str s) tn ∧ E 4 = .str (X ++ gp c n k) ∧ E 5 = .int n ∧ E 6 = .int k ∧ ∃ G, H = .cells false [.sl Bs t1, .sl (nmA c.gl) t2, .sl (ints c.st) t3] :: G) ?_ 0 ⟨Nat.zero_le _, e1, e3, by rw [gp_0, ba_nil]; rfl, e5, rfl, _, rfl⟩
  clear e1 e3 e4 e5
  rintro k E H T ⟨hk, e1, e3, e4, e5, e6, G, rfl⟩
  have sg := gp_size hg n k
  rcases Nat.lt_or_ge k c.st.length with hlt2 | hge2
  ·have hdec2 : decide ((k : Int) < c.st.length) = true := by simpa using hlt2
   obtain ⟨x, x0, x4⟩ := ints_at hlt2
   cases hx : (x == (n : Int))
   ·have hgp := gp_ne (n := n) x0 hx
    simp only [↓wpre, wall, simprocAttr, List.length_append, List.append_assoc, app_get_len, app_get_add, app_set_len, app_set_add, e1, e3, e4, e5, e6, hdec2, ints_len, ints_all, x4, hx]
    exact EQ_in ⟨k + 1, by omega, by omega, e1, e3, by rw [hgp]; exact e4, e5, next_ixv (by omega), _, rfl⟩
   ·obtain ⟨hg0, hg1⟩ := gp_eq x0 hx htw
    obtain ⟨y, y0, y4⟩ := nmA_at (l := c.gl) (j := k) (by omega)
    have sy := hg y (List.mem_of_getElem? y0)
    rw [show c.gl.getD k ⟨#[]⟩ = y from by rw [List.getD, y0]; rfl] at hg1
    have hkg : (k : Int) < c.gl.length := by omega
    rw [hg0, ba_nil] at e4
    simp only [↓wpre, wall, simprocAttr, List.length_append, List.append_assoc, app_get_len, app_get_add, app_set_len, app_set_add, e1, e3, e4, e5, e6, hdec2, ints_len, ints_all, nmA_len, nmA_all, x4, y4, hx, hkg, ByteArray.size_append]
    exact ⟨by omega, by omega, EQ_in ⟨k + 1, by omega, by omega, e1, e3, by rw [hg1]; rfl, e5, next_ixv (by omega), _, rfl⟩⟩
  ·have hdec2 : decide ((k : Int) < c.st.length) = false := by simpa using hge2
   obtain rfl : k = c.st.length := by omega
   simp only [↓wpre, wall, simprocAttr, List.length_append, List.append_assoc, app_get_len, app_get_add, app_set_len, app_set_add, e1, e3, e4, e5, e6, hdec2, ints_len, ByteArray.size_append]
   refine ⟨by omega, ?_⟩
   have sX : ((X ++ gp c n c.st.length) ++ ⟨#[10]⟩).size ≤ 1000200 := by simp only [ByteArray.size_append]; omega
   generalize (X ++ gp c n c.st.length) ++ ⟨#[10]⟩ = Y at *
   have hbl : b.length ≤ 120 := (f5 b (List.mem_of_getElem? d0)).1
   have hBn : (n : Int) < (Bs.length : Nat) := by omega
   refine W_loopE (fun j => b.length - j) (fun j E H T => j ≤ b.length ∧ E 1 = .ptr 0 0 ∧ E 3 = .sl (opNames.map fun s => AV.str s) tn ∧ E 4 = .str (Y ++ sT (bodyT (b.take j))) ∧ E 5 = .int n ∧ E 7 = .int j ∧ ∃ G, H = .cells false [.sl Bs t1, .sl (nmA c.gl) t2, .sl (ints c.st) t3] :: G) ?_ 0 ⟨Nat.zero_le _, e1, e3, by rw [show sT (bodyT (b.take 0)) = ⟨#[]⟩ from rfl, ba_nil]; rfl, e5, rfl, _, rfl⟩
   clear e1 e3 e4 e5 e6 hdec hdec2
   rintro j E H T ⟨hj, e1, e3, e4, e5, e7, G, rfl⟩
   rcases Nat.lt_or_ge j b.length with hlt3 | hge3
   ·have hdec3 : decide ((j : Int) < b.length) = true := by simpa using hlt3
    obtain ⟨x, x0, x4⟩ := insA_at hlt3
    have hmb := List.mem_of_getElem? d0
    have hmx := List.mem_of_getElem? x0
    obtain ⟨i1, i2, i3, i4, i5⟩ := hi b hmb x hmx
    obtain ⟨o1, o2⟩ := hops b hmb x hmx
    have hbt := body_take x0
    have hbl2 := bodyT_len (l := b.take j) fun y hy => hi b hmb y (List.mem_of_mem_take hy)
    have hjl : (b.take j).length ≤ 120 := by rw [List.length_take]; omega
    have sB := sT_size (bodyT (b.take j))
    have hnew : Y ++ sT (bodyT (b.take (j + 1))) = (Y ++ sT (bodyT (b.take j))) ++ lineT x := by rw [hbt, sT_add, sT_bL, ByteArray.append_assoc]
    rw [line_put] at hnew
    have sZ : (Y ++ sT (bodyT (b.take j))).size ≤ 2000000 := by rw [ByteArray.size_append]; omega
    generalize Y ++ sT (bodyT (b.take j)) = Z at *
    obtain ⟨op, xa, xb, xn⟩ := x
    simp only at i1 i2 i3 i4 i5 o1 o2 hnew x4
    obtain ⟨m, rfl⟩ : ∃ m : Nat, op = m := ⟨op.toNat, by omega⟩
    obtain ⟨ma, rfl⟩ : ∃ ma : Nat, xa = ma := ⟨xa.toNat, by omega⟩
    obtain ⟨mb, rfl⟩ : ∃ mb : Nat, xb = mb := ⟨xb.toNat, by omega⟩
    obtain ⟨_, rfl, cu⟩ := (((uses_ret (m : Int)).ext pfs_le).ext pfs_le3).call rfl (by simp [pvs_cons, pvs_nil, pv_v])
    obtain ⟨_, rfl, ca⟩ := (((dec_ret 18 ma (by omega) (by omega)).ext pfs_le).ext pfs_le3).call rfl (by simp [pvs_cons, pvs_nil, pv_v])
    obtain ⟨_, rfl, cb⟩ := (((dec_ret 18 mb (by omega) (by omega)).ext pfs_le).ext pfs_le3).call rfl (by simp [pvs_cons, pvs_nil, pv_v])
    have sa := numT_size (n := (ma : Int)) (by unfold in64; omega)
    have sb := numT_size (n := (mb : Int)) (by unfold in64; omega)
    have so := opName_len m
    have hnm := hnL m (by omega)
    have hm0 : (m : Int) < 15 := by omega
    rw [Int.toNat_natCast] at hnew
    generalize opNames.getD m ⟨#[]⟩ = nm at *
    generalize numT (ma : Int) = ta at *
    generalize numT (mb : Int) = tb' at *
    generalize usesA (m : Int) = uA at *
    generalize usesB (m : Int) = uB at *
    generalize usesN (m : Int) = uN at *
    have hL15 : (opNames.map fun s => AV.str s).length = 15 := rfl
    have hall : ((opNames.map fun s => AV.str s).all fun x => x.cells.length == 1) = true := rfl
    generalize (opNames.map fun s => AV.str s) = L at *
    cases uA <;> cases uB <;> cases uN
    all_goals
     simp only [↓wpre, wall, simprocAttr, List.length_append, List.append_assoc, app_get_len, app_get_add, app_set_len, app_set_add, e1, e3, e4, e5, e7, hdec3, hBn, d4, hallB, insA_len, insA_all, x4, cu, ca, cb, hnm, hm0, hL15, hall, Nat.mul_one, ByteArray.size_append]
     first
      | exact ⟨by omega, by omega, by omega, EQ_in ⟨j + 1, by omega, by omega, e1, e3, by rw [hnew]; rfl, e5, next_ixv (by omega), _, rfl⟩⟩
      | exact ⟨by omega, by omega, by omega, by omega, by omega, EQ_in ⟨j + 1, by omega, by omega, e1, e3, by rw [hnew]; rfl, e5, next_ixv (by omega), _, rfl⟩⟩
      | exact ⟨by omega, by omega, by omega, by omega, by omega, by omega, by omega, EQ_in ⟨j + 1, by omega, by omega, e1, e3, by rw [hnew]; rfl, e5, next_ixv (by omega), _, rfl⟩⟩
      | exact ⟨by omega, by omega, by omega, by omega, by omega, by omega, by omega, by omega, by omega, EQ_in ⟨j + 1, by omega, by omega, e1, e3, by rw [hnew]; rfl, e5, next_ixv (by omega), _, rfl⟩⟩
   ·have hdec3 : decide ((j : Int) < b.length) = false := by simpa using hge3
    rw [List.take_of_length_le (by omega), ← hfin] at e4
    simp only [↓wpre, wall, simprocAttr, List.length_append, List.append_assoc, app_get_len, app_get_add, app_set_len, app_set_add, e1, e3, e4, e5, e7, hdec3, hBn, d4, hallB, insA_len]
    exact EQ_in ⟨n + 1, by omega, by omega, e1, ⟨_, e3⟩, e4, next_ixv (by omega), _, rfl⟩
 ·have hdec : decide ((n : Int) < (Bs.length : Nat)) = false := by simp only [decide_eq_false_iff_not]; omega
  obtain rfl : n = c.bl.length := by omega
  simp only [↓wpre, wall, simprocAttr, List.length_append, List.append_assoc, app_get_len, app_get_add, app_set_len, app_set_add, e1, e3, e4, e5, hdec]
  rfl
def InsF (x : Ins) : Prop := in64 x.a ∧ in64 x.b ∧ x.n.size ≤ 100
theorem lineT_lenF {x : Ins} (h : InsF x) : (bL (lineT x)).length ≤ 160 := by
 obtain ⟨h1, h2, h3⟩ := h
 have ha := numT_size h1
 have hb := numT_size h2
 have ho := opName_len x.op.toNat
 rw [bL_len]
 have z1 : (⟨#[32]⟩ : ByteArray).size = 1 := rfl
 have z2 : (⟨#[32, 32]⟩ : ByteArray).size = 2 := rfl
 have z3 : (⟨#[10]⟩ : ByteArray).size = 1 := rfl
 unfold lineT
 cases usesA x.op <;> cases usesB x.op <;> cases usesN x.op <;> simp only [Bool.false_eq_true, if_false, if_true, ByteArray.size_append, z1, z2, z3] <;> omega
theorem bodyT_lenF : ∀ {l : List Ins}, (∀ x ∈ l, InsF x) → (bodyT l).length ≤ 160 * l.length
 | [], _ => by simp [bodyT]
 | x :: l, h => by
  have h1 := lineT_lenF (h x (by simp))
  have h2 := bodyT_lenF (l := l) fun y hy => h y (by simp [hy])
  rw [bodyT] at h2 ⊢
  rw [List.flatMap_cons, List.length_append, List.length_cons]; omega
theorem gnT_lenF {c : Cd} (h : ∀ g ∈ c.gl, g.size ≤ 100) (n : Nat) : (gnT c n).length ≤ 101 := by
 unfold gnT
 split
 ·simp
 ·rename_i j _
  rw [bL_len, ByteArray.size_append, List.getD]
  have z1 : (⟨#[32]⟩ : ByteArray).size = 1 := rfl
  cases hg : c.gl[j]? with
  | none => simp only [Option.getD_none]; rw [z1]; decide
  | some g => have := h g (List.mem_of_getElem? hg); simp only [Option.getD_some]; omega
theorem textTo_lenF {c : Cd} (hg : ∀ g ∈ c.gl, g.size ≤ 100) (hi : ∀ b ∈ c.bl, b.length ≤ 120 ∧ ∀ x ∈ b, InsF x) : ∀ n, n ≤ 1000000 → n ≤ c.bl.length → (textTo c n).length ≤ 20000 * n
 | 0, _, _ => by simp [textTo]
 | n + 1, h1, h2 => by
  have ih := textTo_lenF hg hi n (by omega) (by omega)
  have hn := numT_len (n := (n : Int)) (by unfold in64; omega)
  have hgn := gnT_lenF hg n
  have hx : c.bl[n]? = some c.bl[n] := List.getElem?_eq_getElem (by omega)
  generalize c.bl[n] = l at hx
  have hgd : c.bl.getD n [] = l := by rw [List.getD, hx]; rfl
  obtain ⟨hl, hl2⟩ := hi l (List.mem_of_getElem? hx)
  have hb := bodyT_lenF hl2
  have z0 : (bL str1).length = 6 := rfl
  have z1 : (bL ⟨#[58]⟩).length = 1 := rfl
  have z2 : (bL ⟨#[10]⟩).length = 1 := rfl
  rw [textTo, hgd, headT, bL_app, bL_app]
  simp only [List.length_append]
  omega
theorem inB_in2 {n : Int} (h : in64 n) : inB n = true := by
 unfold in64 at h
 unfold inB
 rw [decide_eq_true (by omega), decide_eq_true (by omega)]; rfl
theorem few_okCd {c : Cd} (h : c.few = true) (hi : ∀ b ∈ c.bl, ∀ x ∈ b, in64 x.a ∧ in64 x.b) : okCd c = true := by
 obtain ⟨h1, h2, h3, h4, h5, h6⟩ := few_cd h
 have ht := textTo_lenF h4 (fun b hb => ⟨(h5 b hb).1, fun x hx => ⟨(hi b hb x hx).1, (hi b hb x hx).2, (h5 b hb).2 x hx⟩⟩) c.bl.length (by omega) (Nat.le_refl _)
 simp only [okCd, okIns, Bool.and_eq_true, decide_eq_true_eq, List.all_eq_true]
 exact ⟨⟨⟨⟨⟨⟨by omega, by omega⟩, fun b hb => ⟨by have := (h5 b hb).1; omega, fun x hx => ⟨⟨inB_in2 (hi b hb x hx).1, inB_in2 (hi b hb x hx).2⟩, by have := (h5 b hb).2 x hx; omega⟩⟩⟩, fun g hg => by have := h4 g hg; omega⟩, by omega⟩, by omega⟩, by rw [textL]; omega⟩
theorem texts_law {c : Cd} {a : AV} (h : c.Is a) (hi : ∀ b ∈ c.bl, ∀ x ∈ b, in64 x.a ∧ in64 x.b) : Out md pfs3 4 [a] (· = .bool true) fun _ => False := by
 obtain ⟨Bs, t1, t2, t3, rfl, g1, g2, g3, g4, g5, g6, g7⟩ := id h
 refine out_of (pf3' pf4_is) (Nat.le_of_ble_eq_true rfl) ?_
 have hpu : pureAVs [.agg [.sl Bs t1, .sl (nmA c.gl) t2, .sl (ints c.st) t3]] = true := by simp [pvs_cons, pvs_nil, cdPure h]
 obtain ⟨_, rfl, cf⟩ := (((cfew_ret h).ext pfs_le).ext pfs_le3).call rfl hpu
 obtain ⟨_, rfl, ca⟩ := (awake_ret.ext pfs_le3).call rfl rfl
 cases hf : c.few
 ·rw [hf] at cf
  simp only [pf4, ↓wpre, wall, simprocAttr, cf, ca]
 rw [hf] at cf
 obtain ⟨_, rfl, ct⟩ := ((Text_out (cdOf_of h) (few_okCd hf hi)).ext pfs_le3).call rfl hpu
 by_cases hc : c.check = 0
 ·obtain ⟨_, rfl, cr⟩ := (rtext_ret h hf hc).call rfl hpu
  rw [if_pos hc] at ct
  generalize (⟨(textL c).toArray⟩ : ByteArray) = tx at *
  simp only [pf4, ↓wpre, wall, simprocAttr, cf, ca, ct, cr, str_eq, str_beq, decide_true, beq_self_eq_true]
 ·obtain ⟨_, rfl, cr⟩ := (rtext_no h hf (by simpa [bne] using hc)).call rfl hpu
  rw [if_neg hc] at ct
  simp only [pf4, ↓wpre, wall, simprocAttr, cf, ca, ct, cr, str_eq, str_beq, decide_true, beq_self_eq_true]
open Go Go.Proofs Go.Proofs.YtnipefcppecalaaDoor
open Go.ChangeShapes Go.WideShapes Go.ChangeAt Go.RowKit
def laid56 : List (String × DataW Unit) := Rows.bytecodeCountsRow.laid
theorem lm_tail {P : Program} {x : String × DataW Unit} {r : List (String × DataW Unit)} {w : World} (h : laidMet P (x :: r) w) : laidMet P r w := by
 obtain ⟨n, d⟩ := x
 obtain ⟨ps, ⟨g, t, cs, fuel, p, q, _, _, _, _, hq, rfl⟩, hn, hc⟩ := h
 exact ⟨q, hq, (List.nodup_append.1 hn).2.1, fun b off hm => hc b off (List.mem_append_right _ hm)⟩
theorem kn_of {W : World} (h : laidMetH Tryd.prog laid56 W) : Kn W := by
 rw [MakeChecks.laidMetH_plain _ _ _ (by kernel_rfl)] at h
 have h2 := lm_tail (lm_tail h)
 have h3 := Lib.tabIs_of_head (name := "internal/strconv.uint64pow10") (zs := Lib.pow10Tab) (k := .u64) (g := 0) (t := 153) (e := 125) (n := 20) (by kernel_rfl) (by kernel_rfl) (by kernel_rfl) (by kernel_rfl) (by kernel_rfl) (by kernel_rfl) h2
 intro b hb
 obtain rfl : b = 0 := hb
 unfold Lib.TabIs World.var? at h3
 rw [show Tryd.prog.globalNamed "internal/strconv.uint64pow10" = some 0 from by kernel_rfl] at h3
 simp only [Option.bind_some] at h3
 split at h3
 ·rename_i cs t z hh
  simp only [Option.some.injEq] at h3
  subst h3
  exact ⟨(Array.getElem?_eq_some_iff.1 hh).1, t, z, hh⟩
 ·cases h3
theorem try_own : ownKnob Tryd.prog.godebug = none := by kernel_rfl
theorem try_laid : laidOutB Tryd.prog = true := by kernel_rfl
end Go.Proofs.Eng
