/- The reference's Add, Same and Size; small graphs; the law of Add. No conditions beyond those in the theorems. -/
import Derived.Test.YtjiheebhmokfbaaDoorC2
import Derived.Test.YtjiheebhmokfbaaDoorT15
import Derived.Test.YtjiheebhmokfbaaDoorPf50
import Derived.KernelRfl
set_option linter.all false
set_option linter.deprecated false
set_option linter.unnecessarySimpa false
set_option linter.unusedVariables false
set_option linter.unusedSimpArgs false
set_option linter.defProp false
namespace Go.Proofs.Eng
open Go Go.Proofs
set_option maxRecDepth 100000
set_option maxHeartbeats 16000000
theorem rsame_ret {n m : Nd} {a b : AV} (h : n.Is a) (h' : m.Is b) : Out md pfs 39 [a, b] (· = .bool (decide (n = m))) fun _ => False := by
 obtain ⟨k, i, nm, ls, kids⟩ := n
 obtain ⟨k', i', nm', ls', kids'⟩ := m
 obtain ⟨t1, t2, las, rfl, g1, g2, g3, g4, g5, g6, g7, g8, g9⟩ := h
 obtain ⟨u1, u2, lbs, rfl, q1, q2, q3, q4, q5, q6, q7, q8, q9⟩ := h'
 simp only at g3 g4 g5 g6 g7 g8 g9 q3 q4 q5 q6 q7 q8 q9
 have hia := ints_all kids
 have hib := ints_all kids'
 obtain ⟨_, rfl, cl⟩ := (lsames_ret g8 q8 g1 q1 g6).call rfl (by simp [pvs_cons, pvs_nil, pv_sl, lvsPure g8, lvsPure q8, g1, q1])
 refine out_of pf39_is (Nat.le_of_ble_eq_true rfl) ?_
 cases b1 : (k != k')
 case true =>
  simp only [pf39, ↓wpre, wall, simprocAttr, b1]
  have : k ≠ k' := by simpa using b1
  simp [this]
 have hk : k = k' := by simpa using b1
 subst hk
 cases b2 : (i != i')
 case true =>
  simp only [pf39, ↓wpre, wall, simprocAttr, b1, b2]
  have : i ≠ i' := by simpa using b2
  simp [this]
 have hi : i = i' := by simpa using b2
 subst hi
 cases b3 : (nm.toList == nm'.toList)
 case false =>
  simp only [pf39, ↓wpre, wall, simprocAttr, b1, b2, b3]
  have : nm ≠ nm' := by rintro rfl; simp at b3
  simp [this]
 have hn : nm = nm' := toList_inj (by simpa using b3)
 subst hn
 cases b4 : decide (ls = ls')
 case false =>
  simp only [pf39, ↓wpre, wall, simprocAttr, b1, b2, b3, cl, b4]
  have : ls ≠ ls' := by simpa using b4
  simp [this]
 have hls : ls = ls' := by simpa using b4
 subst hls
 cases b5 : ((kids.length : Int) != kids'.length)
 case true =>
  simp only [pf39, ↓wpre, wall, simprocAttr, b1, b2, b3, cl, b4, b5, ints_len]
  have : kids ≠ kids' := by rintro rfl; simp at b5
  simp [this]
 have hlen : kids'.length = kids.length := by simp at b5; omega
 simp only [pf39, ↓wpre, wall, simprocAttr, b1, b2, b3, cl, b4, b5, ints_len]
 refine W_loopE (fun j => kids.length - j) (fun j E H T => (∃ G, H = .cells false [.int k, .int i, .str nm, .sl las t1, .sl (ints kids) t2] :: .cells false [.int k, .int i, .str nm, .sl lbs u1, .sl (ints kids') u2] :: G) ∧ E 2 = .ptr 0 0 ∧ E 3 = .ptr 1 0 ∧ E 5 = .int (j : Nat) ∧ j ≤ kids.length ∧ kids.take j = kids'.take j) ?_ 0 ⟨⟨_, rfl⟩, rfl, rfl, rfl, Nat.zero_le _, rfl⟩
 rintro j E H T ⟨⟨G, rfl⟩, e2, e3, e5, hj, hp⟩
 rcases Nat.lt_or_ge j kids.length with hlt | hge
 ·have hdec : decide ((j : Int) < kids.length) = true := by simpa using hlt
  obtain ⟨x, d0, d1, d2⟩ := ints_get hlt
  obtain ⟨y, f0, f1, f2⟩ := ints_get (l := kids') (i := j) (by omega)
  cases hb : (x != y)
  ·have hxy : x = y := by simpa using hb
   subst hxy
   simp only [↓wpre, wall, simprocAttr, List.length_append, List.append_assoc, app_get_len, app_get_add, app_set_len, app_set_add, e2, e3, e5, ints_len, hdec, d2, f2, hia, hib, hb]
   exact EQ_in ⟨j + 1, by omega, ⟨_, rfl⟩, e2, e3, next_ixv (by omega), by omega, take_step hp d0 f0⟩
  ·have hxy : x ≠ y := by simpa using hb
   simp only [↓wpre, wall, simprocAttr, List.length_append, List.append_assoc, app_get_len, app_get_add, app_set_len, app_set_add, e2, e3, e5, ints_len, hdec, d2, f2, hia, hib, hb]
   have := list_ne d0 f0 hxy
   simp [this]
 ·have hdec : decide ((j : Int) < kids.length) = false := by simpa using hge
  rw [List.take_of_length_le (by omega), List.take_of_length_le (by omega)] at hp
  simp only [↓wpre, wall, simprocAttr, List.length_append, List.append_assoc, app_get_len, app_get_add, app_set_len, app_set_add, e2, e3, e5, ints_len, hdec]
  simp [hp]
theorem zero_right : Tm.zero.right = true := by decide
theorem allR_tm (n : Nd) : n.tm.allR = n.formed := by
 have : allRL (n.kids.map fun _ => Tm.mk 0 0 ⟨#[]⟩ [] []) = true := by
  rw [allRL_iff]
  intro t ht
  obtain ⟨_, _, rfl⟩ := List.mem_map.1 ht
  rw [Tm.allR, show (Tm.mk 0 0 ⟨#[]⟩ [] []).right = true from zero_right]; rfl
 unfold Nd.formed Nd.tm
 rw [Tm.allR, this, Bool.and_true]
def zAV : AV := .agg [.int 0, .int 0, .str ⟨#[]⟩, .sl [] .nil, .sl [] .nil]
theorem zRep : ∀ {α : Type} (l : List α), LIs Tm.Is (l.map fun _ => Tm.mk 0 0 ⟨#[]⟩ [] []) (List.replicate l.length zAV)
 | _, [] => trivial
 | _, _ :: l => ⟨zeroTm, zRep l⟩
theorem zAll (j : Nat) : ((List.replicate j zAV).all fun x => x.cells.length == 5) = true := by
 rw [List.all_eq_true]; intro x hx
 rw [List.eq_of_mem_replicate hx]; rfl
theorem rep_snoc (j : Nat) : List.replicate j zAV ++ [zAV] = List.replicate (j + 1) zAV := by rw [List.replicate_succ']
theorem tm_sz (n : Nd) (h : n.kids.length ≤ 3) : n.tm.sz ≤ 4096 ∧ n.tm.dp ≤ 200 := by
 obtain ⟨k, i, nm, ls, kids⟩ := n
 have h1 : ∀ l : List Int, tszL (l.map fun _ => Tm.mk 0 0 ⟨#[]⟩ [] []) = l.length := by
  intro l
  induction l with
  | nil => rfl
  | cons x l ih => rw [List.map_cons, tszL, ih, Tm.sz, tszL]; simp; omega
 have h2 : ∀ l : List Int, tdpL (l.map fun _ => Tm.mk 0 0 ⟨#[]⟩ [] []) ≤ 1 := by
  intro l
  induction l with
  | nil => simp [tdpL]
  | cons x l ih => rw [List.map_cons, tdpL, Tm.dp, tdpL]; omega
 simp only at h
 unfold Nd.tm
 rw [Tm.sz, Tm.dp]
 simp only
 have := h1 kids; have := h2 kids
 omega
theorem rformed_ret {n : Nd} {a : AV} (h : n.Is a) : Out md pfs 38 [a] (· = .bool n.formed) fun _ => False := by
 obtain ⟨k, i, nm, ls, kids⟩ := n
 have hff := formed_facts (n := ⟨k, i, nm, ls, kids⟩)
 obtain ⟨t1, t2, las, rfl, g1, g2, g3, g4, g5, g6, g7, g8, g9⟩ := h
 simp only at g3 g4 g5 g6 g7 g8 g9 hff
 refine out_of pf38_is (Nat.le_of_ble_eq_true rfl) ?_
 cases c1 : decide ((kids.length : Int) > 3)
 case true =>
  simp only [pf38, ↓wpre, wall, simprocAttr, ints_len, c1]
  simp only [decide_eq_true_eq] at c1
  exact formed_no fun hh => by have := hff hh; omega
 simp only [pf38, ↓wpre, wall, simprocAttr, ints_len, c1]
 simp only [decide_eq_false_iff_not] at c1
 refine W_loopE (fun j => kids.length - j) (fun j E H T => (∃ u, H = [.cells false [.int k, .int i, .str nm, .sl las t1, .sl (ints kids) t2], .cells false [.int k, .int i, .str nm, .sl las t1, .sl (List.replicate j zAV) u]] ∧ App T (List.replicate j zAV) u) ∧ E 1 = .ptr 0 0 ∧ E 3 = .ptr 1 0 ∧ E 4 = .int (j : Nat) ∧ j ≤ kids.length) ?_ 0 ⟨⟨_, rfl, app_start _⟩, rfl, rfl, rfl, Nat.zero_le _⟩
 rintro j E H T ⟨⟨u, rfl, hA⟩, e1, e3, e4, hj⟩
 rcases Nat.lt_or_ge j kids.length with hlt | hge
 ·have hdec : decide ((j : Int) < kids.length) = true := by simpa using hlt
  obtain ⟨t', T', ap, hA', _⟩ := app_one (es := 5) (x := zAV) hA (by rw [List.length_replicate]; unfold capB; omega) (zAll j) rfl rfl
  rw [rep_snoc] at ap hA'
  replace ap : ∀ H, appA ⟨H, T⟩ 5 none (List.replicate j zAV) u [.agg [.int 0, .int 0, .str ⟨#[]⟩, .sl [] .nil, .sl [] .nil]] = some (.sl (List.replicate (j + 1) zAV) t', ⟨H, T'⟩) := ap
  simp only [↓wpre, wall, simprocAttr, List.length_append, List.append_assoc, app_get_len, app_get_add, app_set_len, app_set_add, e1, e3, e4, ints_len, hdec, srcA_sl, ap]
  exact EQ_in ⟨j + 1, by omega, ⟨_, rfl, hA'⟩, e1, e3, next_ixv (by omega), by omega⟩
 ·have hdec : decide ((j : Int) < kids.length) = false := by simpa using hge
  obtain rfl : j = kids.length := by omega
  have hT := zRep kids
  obtain ⟨hz1, hz2⟩ := tm_sz ⟨k, i, nm, ls, kids⟩ (by simp only; omega)
  have hpz := tmsPure hT
  obtain ⟨t', p1, p2⟩ := app_purify (s := ⟨[.cells false [.int k, .int i, .str nm, .sl las t1, .sl (ints kids) t2], .cells false [.int k, .int i, .str nm, .sl las t1, .sl (List.replicate kids.length zAV) u]], T⟩) hA hpz (n := 19) (by omega)
  have hIs : Tm.Is (Nd.tm ⟨k, i, nm, ls, kids⟩) (.agg [.int k, .int i, .str nm, .sl las t1, .sl (List.replicate kids.length zAV) t']) := Tm.Is.mk g1 p1 g3 g4 g5 g6 (by rw [List.length_replicate]; exact g7) g8 hT
  have hps : pureAV (.sl las t1) = true := by rw [pv_sl, g1, lvsPure g8]; rfl
  obtain ⟨_, rfl, c27⟩ := (rEncodable_ret hIs hz1 hz2).callP rfl (s := ⟨[.cells false [.int k, .int i, .str nm, .sl las t1, .sl (ints kids) t2], .cells false [.int k, .int i, .str nm, .sl las t1, .sl (List.replicate kids.length zAV) u]], T⟩) (args := [.agg [.int k, .int i, .str nm, .sl las t1, .sl (List.replicate kids.length zAV) u]]) (by
   simp only [mapO, pz_agg, purify_pure (n := 18) pv_v, purify_pure (n := 18) hps, p2, Option.map_some])
  have hr : (encErr (Nd.tm ⟨k, i, nm, ls, kids⟩) == 0) = (Nd.formed ⟨k, i, nm, ls, kids⟩) := by
   rw [encErr, allR_tm]
   cases (Nd.formed ⟨k, i, nm, ls, kids⟩) <;> rfl
  simp only [↓wpre, wall, simprocAttr, List.length_append, List.append_assoc, app_get_len, app_get_add, app_set_len, app_set_add, e1, e3, e4, ints_len, hdec, c27, hr]
theorem rcheck_ret {N : List Nd} {a : AV} (h : GIs N a) : Out md pfs 13 [a] (· = .int (checkN N)) fun _ => False := by
 obtain ⟨al, t, rfl, ht, hl, hL⟩ := h
 have hln := hL.len
 have hall := hL.all ndAgg
 refine out_of pf13_is (Nat.le_of_ble_eq_true rfl) ?_
 cases c1 : decide ((al.length : Int) > 65536)
 case true =>
  simp only [pf13, ↓wpre, wall, simprocAttr, c1]
  simp only [decide_eq_true_eq] at c1
  rw [checkN, if_neg (by omega)]
 have hck : checkN N = chkN [] N := by
  simp only [decide_eq_false_iff_not] at c1
  rw [checkN, if_pos (by omega)]
 rw [hck]
 simp only [pf13, ↓wpre, wall, simprocAttr, c1]
 refine W_loopE (fun j => al.length - j) (fun j E H T => (∃ G, H = .cells false [.sl al t] :: G) ∧ E 1 = .ptr 0 0 ∧ E 3 = .int (j : Nat) ∧ j ≤ al.length ∧ chkN (N.take j) (N.drop j) = chkN [] N) ?_ 0 ⟨⟨_, rfl⟩, rfl, rfl, Nat.zero_le _, by simp⟩
 rintro j E H T ⟨⟨G, rfl⟩, e1, e3, hj, hc⟩
 rcases Nat.lt_or_ge j al.length with hlt | hge
 ·have hdec : decide ((j : Int) < al.length) = true := by simpa using hlt
  obtain ⟨n, c, d0, d1, d3, d4, d5, d6, d7, d8⟩ := hL.get ndAgg hlt
  rw [d1, chk_cons, List.length_take, Nat.min_eq_left (by omega)] at hc
  have hpn : pureAVs [AV.agg c] = true := by simp [pvs_cons, pvs_nil, ndPure d8]
  obtain ⟨_, rfl, c38⟩ := (rformed_ret d8).call rfl hpn
  have d8' := d8
  obtain ⟨u1, u2, las, hcc, b1, b2, b3, b4, b5, b6, b7, b8, b9⟩ := d8
  simp only [AV.agg.injEq] at hcc; subst hcc
  have hia := ints_all n.kids
  cases hf : n.formed
  case false =>
   rw [hf] at c38
   simp only [↓wpre, wall, simprocAttr, List.length_append, List.append_assoc, app_get_len, app_get_add, app_set_len, app_set_add, e1, e3, hdec, d4, d5, d6, hall, c38, List.set_cons_succ]
   rw [if_neg (by rw [hf]; simp)] at hc
   rw [← hc]
  rw [hf] at c38
  rw [if_pos hf] at hc
  simp only [↓wpre, wall, simprocAttr, List.length_append, List.append_assoc, app_get_len, app_get_add, app_set_len, app_set_add, e1, e3, hdec, d4, d5, d6, hall, c38, List.set_cons_succ]
  refine W_loopE (fun m => n.kids.length - m) (fun m E H T => (∃ G1, H = .cells false [.sl al t] :: (G ++ .cells false [.int n.k, .int n.i, .str n.n, .sl las u1, .sl (ints n.kids) u2] :: G1)) ∧ E 1 = .ptr 0 0 ∧ E 3 = .int (j : Nat) ∧ E 4 = .ptr (G.length + 1) 0 ∧ E 5 = .int (m : Nat) ∧ m ≤ n.kids.length ∧ ∀ x ∈ n.kids.take m, 0 ≤ x ∧ x < j) ?_ 0 ⟨⟨[], rfl⟩, e1, e3, rfl, rfl, Nat.zero_le _, by simp⟩
  clear e1 e3 E T
  rintro m E H T ⟨⟨G1, rfl⟩, e1, e3, e4, e5, hm, hin⟩
  rcases Nat.lt_or_ge m n.kids.length with hml | hmg
  ·have hdec2 : decide ((m : Int) < n.kids.length) = true := by simpa using hml
   obtain ⟨x, f0, f1, f2⟩ := ints_get hml
   have bad : ¬ (0 ≤ x ∧ x < j) → n.inR j = false := fun hb => by
    unfold Nd.inR
    rw [List.all_eq_false]
    refine ⟨x, List.mem_of_getElem? f0, ?_⟩
    simp only [Bool.and_eq_true, decide_eq_true_eq]; exact hb
   cases x1 : decide (x < 0)
   case true =>
    simp only [↓wpre, wall, simprocAttr, List.length_append, List.append_assoc, app_get_len, app_get_add, app_set_len, app_set_add, e1, e3, e4, e5, ints_len, hdec2, f2, hia, x1, List.set_cons_succ]
    simp only [decide_eq_true_eq] at x1
    rw [if_neg (by rw [bad (by omega)]; simp)] at hc
    rw [← hc]
   cases x2 : decide (x ≥ j)
   case true =>
    simp only [↓wpre, wall, simprocAttr, List.length_append, List.append_assoc, app_get_len, app_get_add, app_set_len, app_set_add, e1, e3, e4, e5, ints_len, hdec2, f2, hia, x1, x2, List.set_cons_succ]
    simp only [decide_eq_true_eq] at x2
    rw [if_neg (by rw [bad (by omega)]; simp)] at hc
    rw [← hc]
   simp only [↓wpre, wall, simprocAttr, List.length_append, List.append_assoc, app_get_len, app_get_add, app_set_len, app_set_add, e1, e3, e4, e5, ints_len, hdec2, f2, hia, x1, x2, List.set_cons_succ]
   simp only [decide_eq_false_iff_not] at x1 x2
   exact EQ_in ⟨m + 1, by omega, ⟨_, rfl⟩, e1, e3, e4, next_ixv (by omega), by omega, take_next f0 hin ⟨by omega, by omega⟩⟩
  ·have hdec2 : decide ((m : Int) < n.kids.length) = false := by simpa using hmg
   rw [List.take_of_length_le (by omega)] at hin
   have hr : n.inR j = true := by
    unfold Nd.inR
    rw [List.all_eq_true]
    intro x hx
    have := hin x hx
    simp only [Bool.and_eq_true, decide_eq_true_eq]; exact this
   rw [if_pos hr] at hc
   simp only [↓wpre, wall, simprocAttr, List.length_append, List.append_assoc, app_get_len, app_get_add, app_set_len, app_set_add, e1, e3, e4, e5, ints_len, hdec2, List.set_cons_succ]
   refine W_loopE (fun m => j - m) (fun m E H T => (∃ G1, H = .cells false [.sl al t] :: (G ++ .cells false [.int n.k, .int n.i, .str n.n, .sl las u1, .sl (ints n.kids) u2] :: G1)) ∧ E 1 = .ptr 0 0 ∧ E 3 = .int (j : Nat) ∧ E 4 = .ptr (G.length + 1) 0 ∧ E 6 = .int (m : Nat) ∧ m ≤ j ∧ ∀ x ∈ N.take m, x ≠ n) ?_ 0 ⟨⟨_, rfl⟩, e1, e3, e4, rfl, Nat.zero_le _, by simp⟩
   clear e1 e3 e4 e5 E T
   rintro q E H T ⟨⟨G1, rfl⟩, e1, e3, e4, e6, hq, hno⟩
   rcases Nat.lt_or_ge q j with hql | hqg
   ·have hdec3 : decide ((q : Int) < (j : Int)) = true := by simp only [decide_eq_true_eq]; omega
    obtain ⟨x, c, p0, p1, p3, p4, p5, p6, p7, p8⟩ := hL.get ndAgg (i := q) (by omega)
    obtain ⟨_, rfl, c39⟩ := (rsame_ret p8 d8').call rfl (by simp [pvs_cons, pvs_nil, ndPure d8', ndPure p8])
    cases hs : decide (x = n)
    ·simp only [decide_eq_false_iff_not] at hs
     rw [decide_eq_false hs] at c39
     simp only [↓wpre, wall, simprocAttr, List.length_append, List.append_assoc, app_get_len, app_get_add, app_set_len, app_set_add, e1, e3, e4, e6, hdec3, p4, p5, p6, hall, c39, List.set_cons_succ]
     exact EQ_in ⟨q + 1, by omega, ⟨_, rfl⟩, e1, e3, e4, next_ixv (by omega), by omega, take_next p0 hno hs⟩
    ·simp only [decide_eq_true_eq] at hs
     rw [decide_eq_true hs] at c39
     simp only [↓wpre, wall, simprocAttr, List.length_append, List.append_assoc, app_get_len, app_get_add, app_set_len, app_set_add, e1, e3, e4, e6, hdec3, p4, p5, p6, hall, c39, List.set_cons_succ]
     subst hs
     have hin : x ∈ N.take j := by
      have : (N.take j)[q]? = some x := by rw [List.getElem?_take_of_lt hql]; exact p0
      exact List.mem_of_getElem? this
     rw [if_pos hin] at hc
     rw [← hc]
   ·have hdec3 : decide ((q : Int) < (j : Int)) = false := by simp only [decide_eq_false_iff_not]; omega
    obtain rfl : q = j := by omega
    have hnin : n ∉ N.take q := fun h => hno n h rfl
    rw [if_neg hnin] at hc
    have htk : N.take (q + 1) = N.take q ++ [n] := by rw [List.take_add_one, d0]; rfl
    simp only [↓wpre, wall, simprocAttr, List.length_append, List.append_assoc, app_get_len, app_get_add, app_set_len, app_set_add, e1, e3, e4, e6, hdec3, List.set_cons_succ]
    exact EQ_in ⟨q + 1, by omega, ⟨_, rfl⟩, e1, next_ixv (by omega), by omega, by rw [htk]; exact hc⟩
 ·have hdec : decide ((j : Int) < al.length) = false := by simpa using hge
  simp only [↓wpre, wall, simprocAttr, e1, e3, hdec]
  rw [List.drop_eq_nil_of_le (by omega), chkN] at hc
  rw [← hc]
theorem idx_first {T : List Tm} {e : Tm} {j : Nat} (h : T[j]? = some e) (hn : ∀ x ∈ T.take j, x ≠ e) : e ∈ T ∧ T.idxOf e = j := by
 induction T generalizing j with
 | nil => simp at h
 | cons y T ih =>
  cases j with
  | zero => simp at h; subst h; simp
  | succ j =>
   have h1 : y ≠ e := hn y (by simp)
   obtain ⟨a, b⟩ := ih (by simpa using h) fun x hx => hn x (by simp [hx])
   exact ⟨List.mem_cons_of_mem _ a, by rw [List.idxOf_cons, beq_false_of_ne h1, b]; rfl⟩
theorem GRes.pure {N : List Nd} {id e : Int} {v : AV} (h : GRes N id e v) : pureAV v = true := by
 obtain ⟨ga, rfl, h1⟩ := h
 simp [pv_tup, pvs_cons, pvs_nil, gPure h1, pv_v]
def AddR (T : List Tm) (t : Tm) (v : AV) : Prop := if t.allR = true then GRes (nodesOf (t.enter T)) ((t.enter T).idxOf t : Nat) 0 v else GRes [] 0 3 v
theorem eqI (k : IntKind) (x : Int) : eqAV (.v (.int k x)) (.v (.int k x)) = true := by rw [eqAV]; simp [eqV]
theorem eqS (x : ByteArray) : eqAV (.v (.string x)) (.v (.string x)) = true := by rw [eqAV]; simp [eqV, str_beq]
theorem eqL {α : Type} {R : α → AV → Prop} (h : ∀ x a, R x a → eqAV a a = true) : ∀ {l : List α} {al : List AV}, LIs R l al → eqAVs al al = true
 | [], [], _ => by rw [eqAVs]
 | x :: l, a :: al, hl => by
  simp only [LIs] at hl
  rw [eqAVs, h _ _ hl.1, eqL h hl.2]; rfl
 | [], _ :: _, h => by simp [LIs] at h
 | _ :: _, [], h => by simp [LIs] at h
theorem eqT (t : Tl) (l : List AV) (h : eqAVs l l = true) : eqAV (.sl l t) (.sl l t) = true := by rw [eqAV, h]; simp
theorem eqVar {v : Int × Int} {a : AV} (h : varIs v a) : eqAV a a = true := by
 obtain ⟨rfl, _⟩ := h
 rw [eqAV, eqAVs, eqAVs, eqAVs, eqI, eqI]; rfl
theorem eqLv {v : Lv} {a : AV} (h : v.Is a) : eqAV a a = true := by
 obtain ⟨t, al, rfl, _, _, _, h4⟩ := h
 rw [eqAV, eqAVs, eqAVs, eqAVs, eqI, eqT _ _ (eqL (fun _ _ h => eqVar h) h4)]; rfl
def isTrueA : Option (Outc × ASt) → Bool
 | some (.ret (.v (.bool true)), _) => true
 | _ => false
theorem awake_try : isTrueA (callN md pfs 100 11 [] ⟨[], []⟩) = true := by kernel_rfl
theorem true_ret {f : Nat} (h : isTrueA (callN md pfs 100 f [] ⟨[], []⟩) = true) : Out md pfs f [] (· = .bool true) fun _ => False := by
 cases hc : callN md pfs 100 f [] ⟨[], []⟩ with
 | none => rw [hc] at h; cases h
 | some x =>
  obtain ⟨out, s⟩ := x
  rw [hc] at h
  have ho : out = .ret (.v (.bool true)) := by
   cases out with
   | pan v => cases h
   | ret v => cases v with
    | v x => cases x with
     | bool b => cases b with
      | true => rfl
      | false => cases h
     | _ => cases h
    | _ => cases h
  subst ho
  exact ⟨_, s, .ret (.bool true), run_of hc, by simp only [Outc.purify, purify_pure pv_v, Option.map_some], rfl⟩
theorem awake_ret : Out md pfs 11 [] (· = .bool true) fun _ => False := true_ret awake_try
structure Nd.Few (n : Nd) : Prop where
 nm : n.n.size ≤ 100
 ls : n.ls.length ≤ 10
 kids : n.kids.length ≤ 5
 vs : ∀ l ∈ n.ls, l.vs.length ≤ 10
structure FewG (N : List Nd) : Prop where
 len : N.length ≤ 60
 all : ∀ n ∈ N, n.Few
theorem few_ret {N : List Nd} {a : AV} (h : GIs N a) : Out md pfs 10 [a] (fun v => ∃ b, v = .bool b ∧ (b = true → FewG N)) fun _ => False := by
 obtain ⟨al, t, rfl, ht, hl, hL⟩ := h
 have hln := hL.len
 have hall := hL.all ndAgg
 refine out_of pf10_is (Nat.le_of_ble_eq_true rfl) ?_
 simp only [pf10, ↓wpre, wall, simprocAttr]
 refine W_loopE (fun j => al.length - j) (fun j E H T => (∃ G, H = .cells false [.sl al t] :: G) ∧ E 1 = .ptr 0 0 ∧ E 8 = .sl al t ∧ E 9 = .int al.length ∧ E 10 = .int (j : Nat) ∧ j ≤ al.length ∧ ∀ n ∈ N.take j, n.Few) ?_ 0 ⟨⟨_, rfl⟩, rfl, rfl, rfl, rfl, Nat.zero_le _, by simp⟩
 rintro j E H T ⟨⟨G, rfl⟩, e1, e8, e9, e10, hj, hf⟩
 rcases Nat.lt_or_ge j al.length with hlt | hge
 ·have hdec : decide ((j : Int) < al.length) = true := by simpa using hlt
  obtain ⟨n, c, d0, d1, d3, d4, d5, d6, d7, d8⟩ := hL.get ndAgg hlt
  obtain ⟨u1, u2, las, hcc, b1, b2, b3, b4, b5, b6, b7, b8, b9⟩ := d8
  simp only [AV.agg.injEq] at hcc; subst hcc
  have hla := b8.all lvAgg
  have hll := b8.len
  cases x1 : decide ((n.n.size : Int) > 100)
  case true =>
   simp only [↓wpre, wall, simprocAttr, List.length_append, List.append_assoc, app_get_len, app_get_add, app_set_len, app_set_add, e1, e8, e9, e10, hdec, d4, d5, d6, hall, x1, List.set_cons_succ]
   exact ⟨_, rfl, fun h => by cases h⟩
  cases x2 : decide ((las.length : Int) > 10)
  case true =>
   simp only [↓wpre, wall, simprocAttr, List.length_append, List.append_assoc, app_get_len, app_get_add, app_set_len, app_set_add, e1, e8, e9, e10, hdec, d4, d5, d6, hall, x1, x2, List.set_cons_succ]
   exact ⟨_, rfl, fun h => by cases h⟩
  cases x3 : decide ((n.kids.length : Int) > 5)
  case true =>
   simp only [↓wpre, wall, simprocAttr, List.length_append, List.append_assoc, app_get_len, app_get_add, app_set_len, app_set_add, e1, e8, e9, e10, hdec, d4, d5, d6, hall, x1, x2, x3, ints_len, List.set_cons_succ]
   exact ⟨_, rfl, fun h => by cases h⟩
  simp only [↓wpre, wall, simprocAttr, List.length_append, List.append_assoc, app_get_len, app_get_add, app_set_len, app_set_add, e1, e8, e9, e10, hdec, d4, d5, d6, hall, x1, x2, x3, ints_len, List.set_cons_succ]
  simp only [decide_eq_false_iff_not] at x1 x2 x3
  refine W_loopE (fun m => las.length - m) (fun m E H T => (∃ G, H = .cells false [.sl al t] :: G) ∧ E 1 = .ptr 0 0 ∧ E 8 = .sl al t ∧ E 9 = .int al.length ∧ E 10 = .int (j : Nat) ∧ E 31 = .sl las u1 ∧ E 32 = .int las.length ∧ E 33 = .int (m : Nat) ∧ m ≤ las.length ∧ ∀ l ∈ n.ls.take m, l.vs.length ≤ 10) ?_ 0 ⟨⟨_, rfl⟩, e1, e8, e9, e10, rfl, rfl, rfl, Nat.zero_le _, by simp⟩
  clear e1 e8 e9 e10
  clear E T G
  rintro m E H T ⟨⟨G, rfl⟩, e1, e8, e9, e10, e31, e32, e33, hm, hv⟩
  rcases Nat.lt_or_ge m las.length with hml | hmg
  ·have hdec2 : decide ((m : Int) < las.length) = true := by simpa using hml
   obtain ⟨x, c, f0, f1, f3, f4, f5, f6, f7, f8⟩ := b8.get lvAgg hml
   obtain ⟨tv, vl, hc, q1, q2, q3, q4⟩ := f8
   simp only [AV.agg.injEq] at hc; subst hc
   have hvl := q4.len
   cases x4 : decide ((vl.length : Int) > 10)
   case true =>
    simp only [↓wpre, wall, simprocAttr, List.length_append, List.append_assoc, app_get_len, app_get_add, app_set_len, app_set_add, e1, e8, e9, e10, e31, e32, e33, hdec2, f4, f5, f6, hla, x4, List.set_cons_succ]
    exact ⟨_, rfl, fun h => by cases h⟩
   simp only [↓wpre, wall, simprocAttr, List.length_append, List.append_assoc, app_get_len, app_get_add, app_set_len, app_set_add, e1, e8, e9, e10, e31, e32, e33, hdec2, f4, f5, f6, hla, x4, List.set_cons_succ]
   simp only [decide_eq_false_iff_not] at x4
   exact EQ_in ⟨m + 1, by omega, ⟨_, rfl⟩, e1, e8, e9, e10, e31, e32, next_ixv (by omega), by omega, take_next f0 hv (by omega)⟩
  ·have hdec2 : decide ((m : Int) < las.length) = false := by simpa using hmg
   rw [List.take_of_length_le (by omega)] at hv
   simp only [↓wpre, wall, simprocAttr, List.length_append, List.append_assoc, app_get_len, app_get_add, app_set_len, app_set_add, e1, e8, e9, e10, e31, e32, e33, hdec2]
   exact EQ_in ⟨j + 1, by omega, ⟨_, rfl⟩, e1, e8, e9, next_ixv (by omega), by omega, take_next d0 hf ⟨by omega, by omega, by omega, hv⟩⟩
 ·have hdec : decide ((j : Int) < al.length) = false := by simpa using hge
  rw [List.take_of_length_le (by omega)] at hf
  simp only [↓wpre, wall, simprocAttr, e1, e8, e9, e10, hdec]
  exact ⟨_, rfl, fun h => ⟨by simp only [decide_eq_true_eq] at h; omega, hf⟩⟩
structure SizeP (lim : Nat) (x : Tm) (r : Nat) : Prop where
 le : x.sz ≤ lim → r = x.sz
 gt : lim < x.sz → lim < r
 pos : 1 ≤ r
 up : r ≤ (lim + 1) * x.dp
theorem rSize_ret {T : List Tm} (hG : GT T) {g : AV} (hg : GIs (nodesOf T) g) (lim : Nat) (hlim : lim ≤ 10000) (x : Tm) : x ∈ T → x.dp ≤ 100000 → Out md pfs 40 [g, .int (T.idxOf x : Nat), .int lim] (fun v => ∃ r : Nat, v = .int r ∧ SizeP lim x r) fun _ => False := by
  have hpg := gPure hg
  induction x using Tm.ind with
  | h k i nm ls kids ih =>
  intro hx hdp
  obtain ⟨al, tg, rfl, h1, h2, h3⟩ := hg
  have hln := h3.len
  rw [nodes_len] at hln
  have hall := h3.all ndAgg
  have hk : ∀ y ∈ kids, y ∈ T := (hG.good.all _ hx).2
  have hlt0 := List.idxOf_lt_length_of_mem hx
  obtain ⟨n, c, d0, d1, d3, d4, d5, d6, d7, d8⟩ := h3.get ndAgg (i := T.idxOf (.mk k i nm ls kids)) (by omega)
  have hnx : n = ndOf T (.mk k i nm ls kids) := by
    rw [nodesOf, List.getElem?_map, List.getElem?_eq_getElem hlt0, List.getElem_idxOf] at d0
    exact (Option.some.inj d0).symm
  subst hnx
  obtain ⟨t1, t2, las, hcc, b1, b2, b3, b4, b5, b6, b7, b8, b9⟩ := d8
  simp only [AV.agg.injEq] at hcc; subst hcc
  have hia := ints_all (ndOf T (.mk k i nm ls kids)).kids
  have hkl : (ndOf T (.mk k i nm ls kids)).kids.length = kids.length := by simp [ndOf, Tm.kids]
  have hkg : ∀ (j : Nat) (y : Tm), kids[j]? = some y → (ndOf T (.mk k i nm ls kids)).kids[j]? = some ((T.idxOf y : Nat) : Int) := fun j y hy => by simp [ndOf, Tm.kids, hy]
  rw [Tm.dp] at hdp
  generalize (ndOf T (.mk k i nm ls kids)).kids = ks at *
  have hszx : (Tm.mk k i nm ls kids).sz = 1 + tszL kids := by rw [Tm.sz]
  refine out_of pf40_is (Nat.le_of_ble_eq_true rfl) ?_
  simp only [pf40, ↓wpre, wall, simprocAttr, d4, d5, hall]
  refine W_loopE (fun j => ks.length - j) (fun j E H V => H = [.cells false [.sl al tg]] ∧ E 2 = .int lim ∧ E 3 = .ptr 0 0 ∧ E 8 = .sl (ints ks) t2 ∧ E 9 = .int (j : Nat) ∧ j ≤ ks.length ∧ ∃ r : Nat, E 7 = .int r ∧ (1 + tszL (kids.take j) ≤ lim → r = 1 + tszL (kids.take j)) ∧ (lim < 1 + tszL (kids.take j) → lim < r) ∧ 1 ≤ r ∧ r ≤ (lim + 1) * (tdpL kids + 1)) ?_ 0 ⟨rfl, rfl, rfl, rfl, rfl, Nat.zero_le _, 1, rfl, by simp [tszL], by simp [tszL], by omega, by rw [Nat.mul_add]; omega⟩
  rintro j E H V ⟨rfl, e2, e3, e8, e9, hj, r, e7, r1, r2, r3, r4⟩
  have hmul : (lim + 1) * (tdpL kids + 1) ≤ 10001 * 100000 := Nat.mul_le_mul (by omega) hdp
  have fin : ∀ w : Nat, w = r → (j = ks.length ∨ lim < r) → SizeP lim (.mk k i nm ls kids) w := by
    rintro w rfl hh
    have hle : tszL (kids.take j) ≤ tszL kids := by
      rcases Nat.lt_or_ge j kids.length with h | h
      · obtain ⟨s1, s2⟩ := tsz_split (List.getElem?_eq_getElem h); omega
      · rw [List.take_of_length_le h]; exact Nat.le_refl _
    refine ⟨fun h => ?_, fun h => ?_, r3, by rw [Tm.dp]; exact r4⟩
    · rcases hh with hh | hh
      · rw [List.take_of_length_le (by omega)] at r1; omega
      · rcases Nat.lt_or_ge lim (1 + tszL (kids.take j)) with h5 | h5
        · omega
        · have := r1 h5; omega
    · rcases hh with hh | hh
      · rw [List.take_of_length_le (by omega)] at r2; omega
      · exact hh
  rcases Nat.lt_or_ge j ks.length with hlt | hge
  · have hdec : decide ((j : Int) < ks.length) = true := by simpa using hlt
    cases hd2 : decide ((r : Int) ≤ lim)
    · simp only [↓wpre, wall, simprocAttr, e2, e3, e7, e8, e9, ints_len, hdec, hd2]
      simp only [decide_eq_false_iff_not] at hd2
      exact ⟨r, rfl, fin r rfl (.inr (by omega))⟩
    · have hrl := hd2
      simp only [decide_eq_true_eq] at hrl
      obtain ⟨y, hy⟩ : ∃ y, kids[j]? = some y := ⟨kids[j]'(by omega), List.getElem?_eq_getElem _⟩
      obtain ⟨z, z0, z1, z2⟩ := ints_get hlt
      have hz : z = (T.idxOf y : Nat) := by
        have := hkg j y hy
        rw [this] at z0
        exact (Option.some.inj z0).symm
      subst hz
      have hym := List.mem_of_getElem? hy
      obtain ⟨s1, s2⟩ := tsz_split hy
      obtain ⟨p1, p2⟩ := tdp_split hy
      obtain ⟨_, ⟨ry, rfl, hry⟩, c40⟩ := (ih y hym (hk y hym) (by omega)).call rfl (by simp [pvs_cons, pvs_nil, hpg, pv_v])
      have hup := hry.up
      have hm2 : (lim + 1) * y.dp ≤ (lim + 1) * tdpL kids := Nat.mul_le_mul_left _ p2
      have hm3 : (lim + 1) * (tdpL kids + 1) = (lim + 1) * tdpL kids + (lim + 1) := by rw [Nat.mul_add, Nat.mul_one]
      have w35 : IntKind.i64.wrap ((r : Int) + (ry : Nat)) = ((r + ry : Nat) : Int) := by rw [wrap_in (by unfold in64; omega)]; omega
      simp only [↓wpre, wall, simprocAttr, e2, e3, e7, e8, e9, ints_len, hdec, hd2, z2, hia, c40, w35]
      have hr0 := r1 (by rcases Nat.lt_or_ge lim (1 + tszL (kids.take j)) with h5 | h5; · have := r2 h5; omega
                         · exact h5)
      refine EQ_in ⟨j + 1, by omega, rfl, e2, e3, e8, next_ixv (by unfold lenB at *; omega), by omega, r + ry, rfl, fun h => ?_, fun h => ?_, by omega, by omega⟩
      · have := hry.le (by omega); omega
      · have hp := hry.pos
        rcases Nat.lt_or_ge lim y.sz with h5 | h5
        · have := hry.gt h5; omega
        · have := hry.le h5; omega
  · have hdec : decide ((j : Int) < ks.length) = false := by simpa using hge
    simp only [↓wpre, wall, simprocAttr, e2, e3, e7, e8, e9, ints_len, hdec]
    exact ⟨r, rfl, fin r rfl (.inl (by omega))⟩
structure SmallG (N : List Nd) (T : List Tm) : Prop where
 eq : N = nodesOf T
 good : GT T
 few : FewG N
 sz : ∀ t ∈ T, t.sz ≤ 400
theorem SmallG.len {N : List Nd} {T : List Tm} (h : SmallG N T) : T.length ≤ 60 := by
 have := h.few.len; rw [h.eq, nodes_len] at this; exact this
theorem good_dp {T : List Tm} (h : Good T) : ∀ t ∈ T, t.dp ≤ T.length := by
 have key : ∀ (l : List Tm) (m : Nat), (∀ x ∈ l, x.dp ≤ m) → tdpL l ≤ m := by
  intro l
  induction l with
  | nil => intro m _; simp [tdpL]
  | cons x l ih =>
   intro m h
   rw [tdpL]
   have h1 := h x (by simp)
   have h2 := ih m fun y hy => h y (by simp [hy])
   omega
 induction h with
 | nil => simp
 | @add T t h hn hf hk ih =>
  intro x hx
  rw [List.length_append, List.length_singleton]
  rcases List.mem_append.1 hx with hx | hx
  ·have := ih x hx; omega
  ·rw [List.mem_singleton.1 hx]
   have : tdpL t.kids ≤ T.length := key _ _ fun y hy => ih y (hk y hy)
   cases t
   rw [Tm.dp]
   simp only [Tm.kids] at this
   omega
theorem GRes.eq {N M : List Nd} {i j e f : Int} {v : AV} (h : GRes N i e v) : ∃ al t, v = .tup [.agg [.sl al t], .int i, .int e] ∧ GIs N (.agg [.sl al t]) := by
 obtain ⟨ga, rfl, h1⟩ := h
 obtain ⟨al, t, rfl, h2⟩ := h1
 exact ⟨al, t, rfl, al, t, rfl, h2⟩
theorem AddR.eq {T : List Tm} {t : Tm} {v : AV} (h : AddR T t v) : ∃ (N : List Nd) (i e : Int), (∀ w, AddR T t w → GRes N i e w) ∧ GRes N i e v := by
 unfold AddR at h ⊢
 by_cases hr : t.allR = true
 ·simp only [hr, if_true] at h ⊢; exact ⟨_, _, _, fun _ h => h, h⟩
 ·simp only [hr, if_false] at h ⊢; exact ⟨_, _, _, fun _ h => h, h⟩
end Go.Proofs.Eng
