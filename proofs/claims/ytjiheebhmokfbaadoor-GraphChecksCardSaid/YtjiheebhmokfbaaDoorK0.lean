/- What the rows' list of laid variables gives. No conditions beyond those in the theorems. -/
import Derived.Test.YtjiheebhmokfbaaDoorB3
import Derived.Test.YtjiheebhmokfbaaDoorPf50
import Derived.KernelRfl
import Derived.Test.YtjiheebhmokfbaaDoorP6
import Derived.Test.YtjiheebhmokfbaaDoorA3
import Derived.Test.YtjiheebhmokfbaaDoorG5
import Derived.Test.YtjiheebhmokfbaaDoorG4
import Derived.Test.YtjiheebhmokfbaaDoorRows
import Derived.Lib.LaidTab
import Derived.Lay
import Derived.MakeChecks
import Derived.ProofKit
set_option linter.all false
set_option linter.deprecated false
set_option linter.unnecessarySimpa false
set_option linter.unusedVariables false
set_option linter.unusedSimpArgs false
set_option linter.defProp false
namespace Go.Proofs.Eng
open Go Go.Proofs
set_option maxRecDepth 100000
set_option maxHeartbeats 16000000
def zAV : AV := .agg [.int 0, .int 0, .str ⟨#[]⟩, .sl [] .nil, .sl [] .nil]
theorem zRep : ∀ {α : Type} (l : List α), LIs Tm.Is (l.map fun _ => Tm.mk 0 0 ⟨#[]⟩ [] []) (List.replicate l.length zAV)
  | _, [] => trivial
  | _, _ :: l => ⟨zeroTm, zRep l⟩
theorem zAll (j : Nat) : ((List.replicate j zAV).all fun x => x.cells.length == 5) = true := by
  rw [List.all_eq_true]; intro x hx
  rw [List.eq_of_mem_replicate hx]; rfl
theorem rep_snoc (j : Nat) : List.replicate j zAV ++ [zAV] = List.replicate (j + 1) zAV := by rw [List.replicate_succ']
theorem tm_sz (n : Nd) (h : n.kids.length ≤ 3) : n.tm.sz ≤ 4096 ∧ n.tm.dp ≤ 200 := by
  obtain ⟨k, i, nm, ls, kids⟩ := n
  have h1 : ∀ l : List Int, tszL (l.map fun _ => Tm.mk 0 0 ⟨#[]⟩ [] []) = l.length := by
    intro l
    induction l with
    | nil => rfl
    | cons x l ih => rw [List.map_cons, tszL, ih, Tm.sz, tszL]; simp; omega
  have h2 : ∀ l : List Int, tdpL (l.map fun _ => Tm.mk 0 0 ⟨#[]⟩ [] []) ≤ 1 := by
    intro l
    induction l with
    | nil => simp [tdpL]
    | cons x l ih => rw [List.map_cons, tdpL, Tm.dp, tdpL]; omega
  simp only at h
  unfold Nd.tm
  rw [Tm.sz, Tm.dp]
  simp only
  have := h1 kids; have := h2 kids
  omega
theorem rformed_ret {n : Nd} {a : AV} (h : n.Is a) : Out md pfs 38 [a] (· = .bool n.formed) fun _ => False := by
  obtain ⟨k, i, nm, ls, kids⟩ := n
  have hff := formed_facts (n := ⟨k, i, nm, ls, kids⟩)
  obtain ⟨t1, t2, las, rfl, g1, g2, g3, g4, g5, g6, g7, g8, g9⟩ := h
  simp only at g3 g4 g5 g6 g7 g8 g9 hff
  refine out_of pf38_is (Nat.le_of_ble_eq_true rfl) ?_
  cases c1 : decide ((kids.length : Int) > 3)
  case true =>
    simp only [pf38, ↓wpre, wset, wcore, wext, ne_eq, if_true, if_false, exists_eq_left', true_implies, false_implies, exists_const, exists_eq_right, binA, intA, loadA, storeA, pickC, setAt, mapO, argsE, X.isC, resA, oneA, unA, boundA, eqiA, eqsA, fillA, fillE, ASt.fz, strA, simprocAttr, ints_len, c1]
    simp only [decide_eq_true_eq] at c1
    exact formed_no fun hh => by have := hff hh; omega
  simp only [pf38, ↓wpre, wset, wcore, wext, ne_eq, if_true, if_false, exists_eq_left', true_implies, false_implies, exists_const, exists_eq_right, binA, intA, loadA, storeA, pickC, setAt, mapO, argsE, X.isC, resA, oneA, unA, boundA, eqiA, eqsA, fillA, fillE, ASt.fz, strA, simprocAttr, ints_len, c1]
  simp only [decide_eq_false_iff_not] at c1
  refine W_loopE (fun j => kids.length - j) (fun j E H T => (∃ u, H = [.cells false [.int k, .int i, .str nm, .sl las t1, .sl (ints kids) t2], .cells false [.int k, .int i, .str nm, .sl las t1, .sl (List.replicate j zAV) u]] ∧ App T (List.replicate j zAV) u) ∧ E 1 = .ptr 0 0 ∧ E 3 = .ptr 1 0 ∧ E 4 = .int (j : Nat) ∧ j ≤ kids.length) ?_ 0 ⟨⟨_, rfl, app_start _⟩, rfl, rfl, rfl, Nat.zero_le _⟩
  rintro j E H T ⟨⟨u, rfl, hA⟩, e1, e3, e4, hj⟩
  rcases Nat.lt_or_ge j kids.length with hlt | hge
  · have hdec : decide ((j : Int) < kids.length) = true := by simpa using hlt
    obtain ⟨t', T', ap, hA', _⟩ := app_one (es := 5) (x := zAV) hA (by rw [List.length_replicate]; unfold capB; omega) (zAll j) rfl rfl
    rw [rep_snoc] at ap hA'
    replace ap : ∀ H, appA ⟨H, T⟩ 5 none (List.replicate j zAV) u [.agg [.int 0, .int 0, .str ⟨#[]⟩, .sl [] .nil, .sl [] .nil]] = some (.sl (List.replicate (j + 1) zAV) t', ⟨H, T'⟩) := ap
    simp only [↓wpre, wset, wcore, wext, ne_eq, if_true, if_false, exists_eq_left', true_implies, false_implies, exists_const, exists_eq_right, binA, intA, loadA, storeA, pickC, setAt, mapO, argsE, X.isC, resA, oneA, unA, boundA, eqiA, eqsA, fillA, fillE, ASt.fz, strA, simprocAttr, List.length_append, List.append_assoc, app_get_len, app_get_add, app_set_len, app_set_add, e1, e3, e4, ints_len, hdec, srcA_sl, ap]
    exact EQ_in ⟨j + 1, by omega, ⟨_, rfl, hA'⟩, e1, e3, next_ixv (by omega), by omega⟩
  · have hdec : decide ((j : Int) < kids.length) = false := by simpa using hge
    obtain rfl : j = kids.length := by omega
    have hT := zRep kids
    obtain ⟨hz1, hz2⟩ := tm_sz ⟨k, i, nm, ls, kids⟩ (by simp only; omega)
    have hpz := tmsPure hT
    obtain ⟨t', p1, p2⟩ := app_purify (s := ⟨[.cells false [.int k, .int i, .str nm, .sl las t1, .sl (ints kids) t2], .cells false [.int k, .int i, .str nm, .sl las t1, .sl (List.replicate kids.length zAV) u]], T⟩) hA hpz (n := 19) (by omega)
    have hIs : Tm.Is (Nd.tm ⟨k, i, nm, ls, kids⟩) (.agg [.int k, .int i, .str nm, .sl las t1, .sl (List.replicate kids.length zAV) t']) := Tm.Is.mk g1 p1 g3 g4 g5 g6 (by rw [List.length_replicate]; exact g7) g8 hT
    have hps : pureAV (.sl las t1) = true := by rw [pv_sl, g1, lvsPure g8]; rfl
    obtain ⟨_, rfl, c27⟩ := (rEncodable_ret hIs hz1 hz2).callP rfl (s := ⟨[.cells false [.int k, .int i, .str nm, .sl las t1, .sl (ints kids) t2], .cells false [.int k, .int i, .str nm, .sl las t1, .sl (List.replicate kids.length zAV) u]], T⟩) (args := [.agg [.int k, .int i, .str nm, .sl las t1, .sl (List.replicate kids.length zAV) u]]) (by
      simp only [mapO, pz_agg, purify_pure (n := 18) pv_v, purify_pure (n := 18) hps, p2, Option.map_some])
    have hr : (encErr (Nd.tm ⟨k, i, nm, ls, kids⟩) == 0) = (Nd.formed ⟨k, i, nm, ls, kids⟩) := by
      rw [encErr, allR_tm]
      cases (Nd.formed ⟨k, i, nm, ls, kids⟩) <;> rfl
    simp only [↓wpre, wset, wcore, wext, ne_eq, if_true, if_false, exists_eq_left', true_implies, false_implies, exists_const, exists_eq_right, binA, intA, loadA, storeA, pickC, setAt, mapO, argsE, X.isC, resA, oneA, unA, boundA, eqiA, eqsA, fillA, fillE, ASt.fz, strA, simprocAttr, List.length_append, List.append_assoc, app_get_len, app_get_add, app_set_len, app_set_add, e1, e3, e4, ints_len, hdec, c27, hr]
theorem rcheck_ret {N : List Nd} {a : AV} (h : GIs N a) : Out md pfs 13 [a] (· = .int (checkN N)) fun _ => False := by
  obtain ⟨al, t, rfl, ht, hl, hL⟩ := h
  have hln := hL.len
  have hall := hL.all ndAgg
  refine out_of pf13_is (Nat.le_of_ble_eq_true rfl) ?_
  cases c1 : decide ((al.length : Int) > 65536)
  case true =>
    simp only [pf13, ↓wpre, wset, wcore, wext, ne_eq, if_true, if_false, exists_eq_left', true_implies, false_implies, exists_const, exists_eq_right, binA, intA, loadA, storeA, pickC, setAt, mapO, argsE, X.isC, resA, oneA, unA, boundA, eqiA, eqsA, fillA, fillE, ASt.fz, strA, simprocAttr, c1]
    simp only [decide_eq_true_eq] at c1
    rw [checkN, if_neg (by omega)]
  have hck : checkN N = chkN [] N := by
    simp only [decide_eq_false_iff_not] at c1
    rw [checkN, if_pos (by omega)]
  rw [hck]
  simp only [pf13, ↓wpre, wset, wcore, wext, ne_eq, if_true, if_false, exists_eq_left', true_implies, false_implies, exists_const, exists_eq_right, binA, intA, loadA, storeA, pickC, setAt, mapO, argsE, X.isC, resA, oneA, unA, boundA, eqiA, eqsA, fillA, fillE, ASt.fz, strA, simprocAttr, c1]
  refine W_loopE (fun j => al.length - j) (fun j E H T => (∃ G, H = .cells false [.sl al t] :: G) ∧ E 1 = .ptr 0 0 ∧ E 3 = .int (j : Nat) ∧ j ≤ al.length ∧ chkN (N.take j) (N.drop j) = chkN [] N) ?_ 0 ⟨⟨_, rfl⟩, rfl, rfl, Nat.zero_le _, by simp⟩
  rintro j E H T ⟨⟨G, rfl⟩, e1, e3, hj, hc⟩
  rcases Nat.lt_or_ge j al.length with hlt | hge
  · have hdec : decide ((j : Int) < al.length) = true := by simpa using hlt
    obtain ⟨n, c, d0, d1, d3, d4, d5, d6, d7, d8⟩ := hL.get ndAgg hlt
    rw [d1, chk_cons, List.length_take, Nat.min_eq_left (by omega)] at hc
    have hpn : pureAVs [AV.agg c] = true := by simp [pvs_cons, pvs_nil, ndPure d8]
    obtain ⟨_, rfl, c38⟩ := (rformed_ret d8).call rfl hpn
    have d8' := d8
    obtain ⟨u1, u2, las, hcc, b1, b2, b3, b4, b5, b6, b7, b8, b9⟩ := d8
    simp only [AV.agg.injEq] at hcc; subst hcc
    have hia := ints_all n.kids
    cases hf : n.formed
    case false =>
      rw [hf] at c38
      simp only [↓wpre, wset, wcore, wext, ne_eq, if_true, if_false, exists_eq_left', true_implies, false_implies, exists_const, exists_eq_right, binA, intA, loadA, storeA, pickC, setAt, mapO, argsE, X.isC, resA, oneA, unA, boundA, eqiA, eqsA, fillA, fillE, ASt.fz, strA, simprocAttr, List.length_append, List.append_assoc, app_get_len, app_get_add, app_set_len, app_set_add, e1, e3, hdec, d4, d5, d6, hall, c38, List.set_cons_succ]
      rw [if_neg (by rw [hf]; simp)] at hc
      rw [← hc]
    rw [hf] at c38
    rw [if_pos hf] at hc
    simp only [↓wpre, wset, wcore, wext, ne_eq, if_true, if_false, exists_eq_left', true_implies, false_implies, exists_const, exists_eq_right, binA, intA, loadA, storeA, pickC, setAt, mapO, argsE, X.isC, resA, oneA, unA, boundA, eqiA, eqsA, fillA, fillE, ASt.fz, strA, simprocAttr, List.length_append, List.append_assoc, app_get_len, app_get_add, app_set_len, app_set_add, e1, e3, hdec, d4, d5, d6, hall, c38, List.set_cons_succ]
    refine W_loopE (fun m => n.kids.length - m) (fun m E H T => (∃ G1, H = .cells false [.sl al t] :: (G ++ .cells false [.int n.k, .int n.i, .str n.n, .sl las u1, .sl (ints n.kids) u2] :: G1)) ∧ E 1 = .ptr 0 0 ∧ E 3 = .int (j : Nat) ∧ E 4 = .ptr (G.length + 1) 0 ∧ E 5 = .int (m : Nat) ∧ m ≤ n.kids.length ∧ ∀ x ∈ n.kids.take m, 0 ≤ x ∧ x < j) ?_ 0 ⟨⟨[], rfl⟩, e1, e3, rfl, rfl, Nat.zero_le _, by simp⟩
    clear e1 e3 E T
    rintro m E H T ⟨⟨G1, rfl⟩, e1, e3, e4, e5, hm, hin⟩
    rcases Nat.lt_or_ge m n.kids.length with hml | hmg
    · have hdec2 : decide ((m : Int) < n.kids.length) = true := by simpa using hml
      obtain ⟨x, f0, f1, f2⟩ := ints_get hml
      have bad : ¬ (0 ≤ x ∧ x < j) → n.inR j = false := fun hb => by
        unfold Nd.inR
        rw [List.all_eq_false]
        refine ⟨x, List.mem_of_getElem? f0, ?_⟩
        simp only [Bool.and_eq_true, decide_eq_true_eq]; exact hb
      cases x1 : decide (x < 0)
      case true =>
        simp only [↓wpre, wset, wcore, wext, ne_eq, if_true, if_false, exists_eq_left', true_implies, false_implies, exists_const, exists_eq_right, binA, intA, loadA, storeA, pickC, setAt, mapO, argsE, X.isC, resA, oneA, unA, boundA, eqiA, eqsA, fillA, fillE, ASt.fz, strA, simprocAttr, List.length_append, List.append_assoc, app_get_len, app_get_add, app_set_len, app_set_add, e1, e3, e4, e5, ints_len, hdec2, f2, hia, x1, List.set_cons_succ]
        simp only [decide_eq_true_eq] at x1
        rw [if_neg (by rw [bad (by omega)]; simp)] at hc
        rw [← hc]
      cases x2 : decide (x ≥ j)
      case true =>
        simp only [↓wpre, wset, wcore, wext, ne_eq, if_true, if_false, exists_eq_left', true_implies, false_implies, exists_const, exists_eq_right, binA, intA, loadA, storeA, pickC, setAt, mapO, argsE, X.isC, resA, oneA, unA, boundA, eqiA, eqsA, fillA, fillE, ASt.fz, strA, simprocAttr, List.length_append, List.append_assoc, app_get_len, app_get_add, app_set_len, app_set_add, e1, e3, e4, e5, ints_len, hdec2, f2, hia, x1, x2, List.set_cons_succ]
        simp only [decide_eq_true_eq] at x2
        rw [if_neg (by rw [bad (by omega)]; simp)] at hc
        rw [← hc]
      simp only [↓wpre, wset, wcore, wext, ne_eq, if_true, if_false, exists_eq_left', true_implies, false_implies, exists_const, exists_eq_right, binA, intA, loadA, storeA, pickC, setAt, mapO, argsE, X.isC, resA, oneA, unA, boundA, eqiA, eqsA, fillA, fillE, ASt.fz, strA, simprocAttr, List.length_append, List.append_assoc, app_get_len, app_get_add, app_set_len, app_set_add, e1, e3, e4, e5, ints_len, hdec2, f2, hia, x1, x2, List.set_cons_succ]
      simp only [decide_eq_false_iff_not] at x1 x2
      exact EQ_in ⟨m + 1, by omega, ⟨_, rfl⟩, e1, e3, e4, next_ixv (by omega), by omega, take_next f0 hin ⟨by omega, by omega⟩⟩
    · have hdec2 : decide ((m : Int) < n.kids.length) = false := by simpa using hmg
      rw [List.take_of_length_le (by omega)] at hin
      have hr : n.inR j = true := by
        unfold Nd.inR
        rw [List.all_eq_true]
        intro x hx
        have := hin x hx
        simp only [Bool.and_eq_true, decide_eq_true_eq]; exact this
      rw [if_pos hr] at hc
      simp only [↓wpre, wset, wcore, wext, ne_eq, if_true, if_false, exists_eq_left', true_implies, false_implies, exists_const, exists_eq_right, binA, intA, loadA, storeA, pickC, setAt, mapO, argsE, X.isC, resA, oneA, unA, boundA, eqiA, eqsA, fillA, fillE, ASt.fz, strA, simprocAttr, List.length_append, List.append_assoc, app_get_len, app_get_add, app_set_len, app_set_add, e1, e3, e4, e5, ints_len, hdec2, List.set_cons_succ]
      refine W_loopE (fun m => j - m) (fun m E H T => (∃ G1, H = .cells false [.sl al t] :: (G ++ .cells false [.int n.k, .int n.i, .str n.n, .sl las u1, .sl (ints n.kids) u2] :: G1)) ∧ E 1 = .ptr 0 0 ∧ E 3 = .int (j : Nat) ∧ E 4 = .ptr (G.length + 1) 0 ∧ E 6 = .int (m : Nat) ∧ m ≤ j ∧ ∀ x ∈ N.take m, x ≠ n) ?_ 0 ⟨⟨_, rfl⟩, e1, e3, e4, rfl, Nat.zero_le _, by simp⟩
      clear e1 e3 e4 e5 E T
      rintro q E H T ⟨⟨G1, rfl⟩, e1, e3, e4, e6, hq, hno⟩
      rcases Nat.lt_or_ge q j with hql | hqg
      · have hdec3 : decide ((q : Int) < (j : Int)) = true := by simp only [decide_eq_true_eq]; omega
        obtain ⟨x, c, p0, p1, p3, p4, p5, p6, p7, p8⟩ := hL.get ndAgg (i := q) (by omega)
        obtain ⟨_, rfl, c39⟩ := (rsame_ret p8 d8').call rfl (by simp [pvs_cons, pvs_nil, ndPure d8', ndPure p8])
        cases hs : decide (x = n)
        · simp only [decide_eq_false_iff_not] at hs
          rw [decide_eq_false hs] at c39
          simp only [↓wpre, wset, wcore, wext, ne_eq, if_true, if_false, exists_eq_left', true_implies, false_implies, exists_const, exists_eq_right, binA, intA, loadA, storeA, pickC, setAt, mapO, argsE, X.isC, resA, oneA, unA, boundA, eqiA, eqsA, fillA, fillE, ASt.fz, strA, simprocAttr, List.length_append, List.append_assoc, app_get_len, app_get_add, app_set_len, app_set_add, e1, e3, e4, e6, hdec3, p4, p5, p6, hall, c39, List.set_cons_succ]
          exact EQ_in ⟨q + 1, by omega, ⟨_, rfl⟩, e1, e3, e4, next_ixv (by omega), by omega, take_next p0 hno hs⟩
        · simp only [decide_eq_true_eq] at hs
          rw [decide_eq_true hs] at c39
          simp only [↓wpre, wset, wcore, wext, ne_eq, if_true, if_false, exists_eq_left', true_implies, false_implies, exists_const, exists_eq_right, binA, intA, loadA, storeA, pickC, setAt, mapO, argsE, X.isC, resA, oneA, unA, boundA, eqiA, eqsA, fillA, fillE, ASt.fz, strA, simprocAttr, List.length_append, List.append_assoc, app_get_len, app_get_add, app_set_len, app_set_add, e1, e3, e4, e6, hdec3, p4, p5, p6, hall, c39, List.set_cons_succ]
          subst hs
          have hin : x ∈ N.take j := by
            have : (N.take j)[q]? = some x := by rw [List.getElem?_take_of_lt hql]; exact p0
            exact List.mem_of_getElem? this
          rw [if_pos hin] at hc
          rw [← hc]
      · have hdec3 : decide ((q : Int) < (j : Int)) = false := by simp only [decide_eq_false_iff_not]; omega
        obtain rfl : q = j := by omega
        have hnin : n ∉ N.take q := fun h => hno n h rfl
        rw [if_neg hnin] at hc
        have htk : N.take (q + 1) = N.take q ++ [n] := by rw [List.take_add_one, d0]; rfl
        simp only [↓wpre, wset, wcore, wext, ne_eq, if_true, if_false, exists_eq_left', true_implies, false_implies, exists_const, exists_eq_right, binA, intA, loadA, storeA, pickC, setAt, mapO, argsE, X.isC, resA, oneA, unA, boundA, eqiA, eqsA, fillA, fillE, ASt.fz, strA, simprocAttr, List.length_append, List.append_assoc, app_get_len, app_get_add, app_set_len, app_set_add, e1, e3, e4, e6, hdec3, List.set_cons_succ]
        exact EQ_in ⟨q + 1, by omega, ⟨_, rfl⟩, e1, next_ixv (by omega), by omega, by rw [htk]; exact hc⟩
  · have hdec : decide ((j : Int) < al.length) = false := by simpa using hge
    simp only [↓wpre, wset, wcore, wext, ne_eq, if_true, if_false, exists_eq_left', true_implies, false_implies, exists_const, exists_eq_right, binA, intA, loadA, storeA, pickC, setAt, mapO, argsE, X.isC, resA, oneA, unA, boundA, eqiA, eqsA, fillA, fillE, ASt.fz, strA, simprocAttr, e1, e3, hdec]
    rw [List.drop_eq_nil_of_le (by omega), chkN] at hc
    rw [← hc]
def isTrueA : Option (Outc × ASt) → Bool
  | some (.ret (.v (.bool true)), _) => true
  | _ => false
theorem awake_try : isTrueA (callN md pfs 100 11 [] ⟨[], []⟩) = true := by kernel_rfl
theorem true_ret {f : Nat} (h : isTrueA (callN md pfs 100 f [] ⟨[], []⟩) = true) : Out md pfs f [] (· = .bool true) fun _ => False := by
  cases hc : callN md pfs 100 f [] ⟨[], []⟩ with
  | none => rw [hc] at h; cases h
  | some x =>
    obtain ⟨out, s⟩ := x
    rw [hc] at h
    have ho : out = .ret (.v (.bool true)) := by
      cases out with
      | pan v => cases h
      | ret v => cases v with
        | v x => cases x with
          | bool b => cases b with
            | true => rfl
            | false => cases h
          | _ => cases h
        | _ => cases h
    subst ho
    exact ⟨_, s, .ret (.bool true), run_of hc, by simp only [Outc.purify, purify_pure pv_v, Option.map_some], rfl⟩
theorem awake_ret : Out md pfs 11 [] (· = .bool true) fun _ => False := true_ret awake_try
structure Nd.Few (n : Nd) : Prop where
  nm : n.n.size ≤ 100
  ls : n.ls.length ≤ 10
  kids : n.kids.length ≤ 5
  vs : ∀ l ∈ n.ls, l.vs.length ≤ 10
structure FewG (N : List Nd) : Prop where
  len : N.length ≤ 60
  all : ∀ n ∈ N, n.Few
theorem few_ret {N : List Nd} {a : AV} (h : GIs N a) : Out md pfs 10 [a] (fun v => ∃ b, v = .bool b ∧ (b = true → FewG N)) fun _ => False := by
  obtain ⟨al, t, rfl, ht, hl, hL⟩ := h
  have hln := hL.len
  have hall := hL.all ndAgg
  refine out_of pf10_is (Nat.le_of_ble_eq_true rfl) ?_
  simp only [pf10, ↓wpre, wset, wcore, wext, ne_eq, if_true, if_false, exists_eq_left', true_implies, false_implies, exists_const, exists_eq_right, binA, intA, loadA, storeA, pickC, setAt, mapO, argsE, X.isC, resA, oneA, unA, boundA, eqiA, eqsA, fillA, fillE, ASt.fz, strA, simprocAttr]
  refine W_loopE (fun j => al.length - j) (fun j E H T => (∃ G, H = .cells false [.sl al t] :: G) ∧ E 1 = .ptr 0 0 ∧ E 8 = .sl al t ∧ E 9 = .int al.length ∧ E 10 = .int (j : Nat) ∧ j ≤ al.length ∧ ∀ n ∈ N.take j, n.Few) ?_ 0 ⟨⟨_, rfl⟩, rfl, rfl, rfl, rfl, Nat.zero_le _, by simp⟩
  rintro j E H T ⟨⟨G, rfl⟩, e1, e8, e9, e10, hj, hf⟩
  rcases Nat.lt_or_ge j al.length with hlt | hge
  · have hdec : decide ((j : Int) < al.length) = true := by simpa using hlt
    obtain ⟨n, c, d0, d1, d3, d4, d5, d6, d7, d8⟩ := hL.get ndAgg hlt
    obtain ⟨u1, u2, las, hcc, b1, b2, b3, b4, b5, b6, b7, b8, b9⟩ := d8
    simp only [AV.agg.injEq] at hcc; subst hcc
    have hla := b8.all lvAgg
    have hll := b8.len
    cases x1 : decide ((n.n.size : Int) > 100)
    case true =>
      simp only [↓wpre, wset, wcore, wext, ne_eq, if_true, if_false, exists_eq_left', true_implies, false_implies, exists_const, exists_eq_right, binA, intA, loadA, storeA, pickC, setAt, mapO, argsE, X.isC, resA, oneA, unA, boundA, eqiA, eqsA, fillA, fillE, ASt.fz, strA, simprocAttr, List.length_append, List.append_assoc, app_get_len, app_get_add, app_set_len, app_set_add, e1, e8, e9, e10, hdec, d4, d5, d6, hall, x1, List.set_cons_succ]
      exact ⟨_, rfl, fun h => by cases h⟩
    cases x2 : decide ((las.length : Int) > 10)
    case true =>
      simp only [↓wpre, wset, wcore, wext, ne_eq, if_true, if_false, exists_eq_left', true_implies, false_implies, exists_const, exists_eq_right, binA, intA, loadA, storeA, pickC, setAt, mapO, argsE, X.isC, resA, oneA, unA, boundA, eqiA, eqsA, fillA, fillE, ASt.fz, strA, simprocAttr, List.length_append, List.append_assoc, app_get_len, app_get_add, app_set_len, app_set_add, e1, e8, e9, e10, hdec, d4, d5, d6, hall, x1, x2, List.set_cons_succ]
      exact ⟨_, rfl, fun h => by cases h⟩
    cases x3 : decide ((n.kids.length : Int) > 5)
    case true =>
      simp only [↓wpre, wset, wcore, wext, ne_eq, if_true, if_false, exists_eq_left', true_implies, false_implies, exists_const, exists_eq_right, binA, intA, loadA, storeA, pickC, setAt, mapO, argsE, X.isC, resA, oneA, unA, boundA, eqiA, eqsA, fillA, fillE, ASt.fz, strA, simprocAttr, List.length_append, List.append_assoc, app_get_len, app_get_add, app_set_len, app_set_add, e1, e8, e9, e10, hdec, d4, d5, d6, hall, x1, x2, x3, ints_len, List.set_cons_succ]
      exact ⟨_, rfl, fun h => by cases h⟩
    simp only [↓wpre, wset, wcore, wext, ne_eq, if_true, if_false, exists_eq_left', true_implies, false_implies, exists_const, exists_eq_right, binA, intA, loadA, storeA, pickC, setAt, mapO, argsE, X.isC, resA, oneA, unA, boundA, eqiA, eqsA, fillA, fillE, ASt.fz, strA, simprocAttr, List.length_append, List.append_assoc, app_get_len, app_get_add, app_set_len, app_set_add, e1, e8, e9, e10, hdec, d4, d5, d6, hall, x1, x2, x3, ints_len, List.set_cons_succ]
    simp only [decide_eq_false_iff_not] at x1 x2 x3
    refine W_loopE (fun m => las.length - m) (fun m E H T => (∃ G, H = .cells false [.sl al t] :: G) ∧ E 1 = .ptr 0 0 ∧ E 8 = .sl al t ∧ E 9 = .int al.length ∧ E 10 = .int (j : Nat) ∧ E 31 = .sl las u1 ∧ E 32 = .int las.length ∧ E 33 = .int (m : Nat) ∧ m ≤ las.length ∧ ∀ l ∈ n.ls.take m, l.vs.length ≤ 10) ?_ 0 ⟨⟨_, rfl⟩, e1, e8, e9, e10, rfl, rfl, rfl, Nat.zero_le _, by simp⟩
    clear e1 e8 e9 e10
    clear E T G
    rintro m E H T ⟨⟨G, rfl⟩, e1, e8, e9, e10, e31, e32, e33, hm, hv⟩
    rcases Nat.lt_or_ge m las.length with hml | hmg
    · have hdec2 : decide ((m : Int) < las.length) = true := by simpa using hml
      obtain ⟨x, c, f0, f1, f3, f4, f5, f6, f7, f8⟩ := b8.get lvAgg hml
      obtain ⟨tv, vl, hc, q1, q2, q3, q4⟩ := f8
      simp only [AV.agg.injEq] at hc; subst hc
      have hvl := q4.len
      cases x4 : decide ((vl.length : Int) > 10)
      case true =>
        simp only [↓wpre, wset, wcore, wext, ne_eq, if_true, if_false, exists_eq_left', true_implies, false_implies, exists_const, exists_eq_right, binA, intA, loadA, storeA, pickC, setAt, mapO, argsE, X.isC, resA, oneA, unA, boundA, eqiA, eqsA, fillA, fillE, ASt.fz, strA, simprocAttr, List.length_append, List.append_assoc, app_get_len, app_get_add, app_set_len, app_set_add, e1, e8, e9, e10, e31, e32, e33, hdec2, f4, f5, f6, hla, x4, List.set_cons_succ]
        exact ⟨_, rfl, fun h => by cases h⟩
      simp only [↓wpre, wset, wcore, wext, ne_eq, if_true, if_false, exists_eq_left', true_implies, false_implies, exists_const, exists_eq_right, binA, intA, loadA, storeA, pickC, setAt, mapO, argsE, X.isC, resA, oneA, unA, boundA, eqiA, eqsA, fillA, fillE, ASt.fz, strA, simprocAttr, List.length_append, List.append_assoc, app_get_len, app_get_add, app_set_len, app_set_add, e1, e8, e9, e10, e31, e32, e33, hdec2, f4, f5, f6, hla, x4, List.set_cons_succ]
      simp only [decide_eq_false_iff_not] at x4
      exact EQ_in ⟨m + 1, by omega, ⟨_, rfl⟩, e1, e8, e9, e10, e31, e32, next_ixv (by omega), by omega, take_next f0 hv (by omega)⟩
    · have hdec2 : decide ((m : Int) < las.length) = false := by simpa using hmg
      rw [List.take_of_length_le (by omega)] at hv
      simp only [↓wpre, wset, wcore, wext, ne_eq, if_true, if_false, exists_eq_left', true_implies, false_implies, exists_const, exists_eq_right, binA, intA, loadA, storeA, pickC, setAt, mapO, argsE, X.isC, resA, oneA, unA, boundA, eqiA, eqsA, fillA, fillE, ASt.fz, strA, simprocAttr, List.length_append, List.append_assoc, app_get_len, app_get_add, app_set_len, app_set_add, e1, e8, e9, e10, e31, e32, e33, hdec2]
      exact EQ_in ⟨j + 1, by omega, ⟨_, rfl⟩, e1, e8, e9, next_ixv (by omega), by omega, take_next d0 hf ⟨by omega, by omega, by omega, hv⟩⟩
  · have hdec : decide ((j : Int) < al.length) = false := by simpa using hge
    rw [List.take_of_length_le (by omega)] at hf
    simp only [↓wpre, wset, wcore, wext, ne_eq, if_true, if_false, exists_eq_left', true_implies, false_implies, exists_const, exists_eq_right, binA, intA, loadA, storeA, pickC, setAt, mapO, argsE, X.isC, resA, oneA, unA, boundA, eqiA, eqsA, fillA, fillE, ASt.fz, strA, simprocAttr, e1, e8, e9, e10, hdec]
    exact ⟨_, rfl, fun h => ⟨by simp only [decide_eq_true_eq] at h; omega, hf⟩⟩
theorem checks_law {N : List Nd} {a : AV} (h : GIs N a) : Out md pfs 3 [a] (· = .bool true) fun _ => False := by
  have hp : pureAVs [a] = true := by simp [pvs_cons, pvs_nil, gPure h]
  obtain ⟨_, ⟨b, rfl, _⟩, c10⟩ := (few_ret h).call rfl hp
  obtain ⟨_, rfl, c11⟩ := awake_ret.call rfl pvs_nil
  obtain ⟨_, rfl, c12⟩ := (check_ret h).call rfl hp
  obtain ⟨_, rfl, c13⟩ := (rcheck_ret h).call rfl hp
  obtain ⟨al, t, rfl, ht, hl, hL⟩ := h
  refine out_of pf3_is (Nat.le_of_ble_eq_true rfl) ?_
  cases b
  · simp only [pf3, ↓wpre, wset, wcore, wext, ne_eq, if_true, if_false, exists_eq_left', true_implies, false_implies, exists_const, exists_eq_right, binA, intA, loadA, storeA, pickC, setAt, mapO, argsE, X.isC, resA, oneA, unA, boundA, eqiA, eqsA, fillA, fillE, ASt.fz, strA, simprocAttr, c10, c11]
  · have he : (checkN N == checkN N) = true := by simp
    simp only [pf3, ↓wpre, wset, wcore, wext, ne_eq, if_true, if_false, exists_eq_left', true_implies, false_implies, exists_const, exists_eq_right, binA, intA, loadA, storeA, pickC, setAt, mapO, argsE, X.isC, resA, oneA, unA, boundA, eqiA, eqsA, fillA, fillE, ASt.fz, strA, simprocAttr, c10, c11, c12, c13, he]
theorem cells3 : 0 < Tryd.prog.cellsOf 3 := by rw [show Tryd.prog.cellsOf 3 = 1 from by kernel_rfl]; decide
theorem oft_int {n : Nat} {l : List AV} (h : OfT Tryd.prog n 3 l) : ∃ i, l = [.int i] ∧ in64 i := by
  cases n with
  | zero => exact h.elim
  | succ n =>
    simp only [OfT, Tryd.underlying3] at h
    obtain ⟨i, rfl, hw⟩ := h
    refine ⟨i, rfl, ?_⟩
    unfold in64
    simp [Lit.wf, IntKind.min, IntKind.max, IntKind.signed, IntKind.bits] at hw
    omega
theorem oft_str {n : Nat} {l : List AV} (h : OfT Tryd.prog n 9 l) : ∃ s, l = [.str s] ∧ s.size ≤ lenB := by
  cases n with
  | zero => exact h.elim
  | succ n =>
    simp only [OfT, Tryd.underlying9] at h
    obtain ⟨s, rfl, hw⟩ := h
    exact ⟨s, rfl, by unfold lenB; simpa [maxLen] using hw⟩
theorem oft_slice {α : Type} {R : α → AV → Prop} {n : Nat} {t e : TypeId} {l : List AV} (hu : Tryd.prog.underlying t = some (.slice e)) (hc : 0 < Tryd.prog.cellsOf e) (hR : ∀ n l, OfT Tryd.prog n e l → ∃ x, R x (mkE (isAgg Tryd.prog e) l)) (h : OfT Tryd.prog n t l) : ∃ (xs : List α) (al : List AV) (tl : Tl), l = [.sl al tl] ∧ LIs R xs al ∧ tl.pure = true ∧ al.length ≤ lenB := by
  cases n with
  | zero => exact h.elim
  | succ n =>
    simp only [OfT, hu, if_pos hc] at h
    obtain ⟨xs, tl, rfl, h1, h2, h3⟩ := h
    have key : ∀ xs : List (List AV), (∀ x ∈ xs, OfT Tryd.prog n e x) → ∃ ys : List α, LIs R ys (xs.map (mkE (isAgg Tryd.prog e))) := by
      intro xs
      induction xs with
      | nil => intro _; exact ⟨[], trivial⟩
      | cons x xs ih =>
        intro h
        obtain ⟨y, hy⟩ := hR n x (h x (by simp))
        obtain ⟨ys, hys⟩ := ih fun z hz => h z (by simp [hz])
        exact ⟨y :: ys, hy, hys⟩
    obtain ⟨ys, hys⟩ := key xs h3
    refine ⟨ys, _, tl, rfl, hys, ?_, by rw [List.length_map]; unfold lenB; simpa [maxLen] using h2⟩
    rcases h1 with rfl | ⟨rfl, _⟩ <;> rfl
theorem purify_v_inv {n : Nat} {s : ASt} {x : AV} {y : Value} (h : purify n s x = some (.v y)) : x = .v y := by
  cases n with
  | zero => rw [purify] at h; cases h
  | succ n =>
    unfold purify at h
    split at h
    · cases h; rfl
    · split at h
      all_goals first
        | (cases h; done)
        | (rw [Option.map_eq_some_iff] at h; obtain ⟨_, _, h⟩ := h; cases h; done)
        | skip
      split at h
      · split at h
        · rw [Option.map_eq_some_iff] at h; obtain ⟨_, _, h⟩ := h; cases h
        · cases h
      · cases h
theorem law_true {f : FuncId} {ls : List AV} (h : Out md pfs f ls (· = .bool true) fun _ => False) : ∃ s', run md pfs f ls ⟨[], []⟩ = some (.ret (.v (.bool true)), s') := by
  obtain ⟨out, s, out', h1, h2, h3⟩ := h
  cases out' with
  | pan v => exact h3.elim
  | ret v =>
    subst h3
    cases out with
    | pan w => simp [Outc.purify] at h2
    | ret w =>
      simp only [Outc.purify, Option.map_eq_some_iff] at h2
      obtain ⟨y, h2, h3⟩ := h2
      cases h3
      exact ⟨s, by rw [h1, purify_v_inv h2]⟩
theorem cells105 : 0 < Tryd.prog.cellsOf 105 := by rw [show Tryd.prog.cellsOf 105 = 2 from by kernel_rfl]; decide
theorem cells67 : 0 < Tryd.prog.cellsOf 67 := by rw [show Tryd.prog.cellsOf 67 = 2 from by kernel_rfl]; decide
theorem five {α : Type} {l : List α} (h : l.length = 5) : ∃ a b c d e, l = [a, b, c, d, e] := by
  match l, h with
  | [a, b, c, d, e], _ => exact ⟨a, b, c, d, e, rfl⟩
theorem two {α : Type} {l : List α} (h : l.length = 2) : ∃ a b, l = [a, b] := by
  match l, h with
  | [a, b], _ => exact ⟨a, b, rfl⟩
theorem oft_var {n : Nat} {l : List AV} (h : OfT Tryd.prog n 105 l) : ∃ v : Int × Int, varIs v (.agg l) := by
  cases n with
  | zero => exact h.elim
  | succ n =>
    simp only [OfT, Tryd.underlying105] at h
    rw [if_pos (by kernel_rfl)] at h
    obtain ⟨xs, rfl, hl, hx⟩ := h
    obtain ⟨a, b, rfl⟩ := two hl
    obtain ⟨i, rfl, hi⟩ := oft_int (hx 0 _ a rfl rfl)
    obtain ⟨p, rfl, hp⟩ := oft_int (hx 1 _ b rfl rfl)
    exact ⟨(i, p), rfl, hi, hp⟩
theorem oft_lv {n : Nat} {l : List AV} (h : OfT Tryd.prog n 67 l) : ∃ e : Lv, e.Is (.agg l) := by
  cases n with
  | zero => exact h.elim
  | succ n =>
    simp only [OfT, Tryd.underlying67] at h
    rw [if_pos (by kernel_rfl)] at h
    obtain ⟨xs, rfl, hl, hx⟩ := h
    obtain ⟨a, b, rfl⟩ := two hl
    obtain ⟨c, rfl, hc⟩ := oft_int (hx 0 _ a rfl rfl)
    obtain ⟨vs, al, tl, rfl, g1, g2, g3⟩ := oft_slice (R := varIs) Tryd.underlying65 cells105 (fun n l h => by
      obtain ⟨v, hv⟩ := oft_var h
      exact ⟨v, by rw [show isAgg Tryd.prog 105 = true from by kernel_rfl]; exact hv⟩) (hx 1 _ b rfl rfl)
    exact ⟨⟨c, vs⟩, tl, al, rfl, g2, hc, g3, g1⟩
theorem oft_ints {n : Nat} {l : List AV} (h : OfT Tryd.prog n 45 l) : ∃ (xs : List Int) (tl : Tl), l = [.sl (ints xs) tl] ∧ tl.pure = true ∧ xs.length ≤ lenB ∧ ∀ x ∈ xs, in64 x := by
  obtain ⟨ys, al, tl, rfl, h1, h2, h3⟩ := oft_slice (R := fun (i : Int) a => a = .int i ∧ in64 i) Tryd.underlying45 cells3 (fun n l h => by
    obtain ⟨i, rfl, hi⟩ := oft_int h
    exact ⟨i, by rw [show isAgg Tryd.prog 3 = false from by kernel_rfl]; exact ⟨rfl, hi⟩⟩) h
  have key : ∀ {ys : List Int} {al : List AV}, LIs (fun (i : Int) a => a = .int i ∧ in64 i) ys al → al = ints ys ∧ ∀ x ∈ ys, in64 x := by
    intro ys
    induction ys with
    | nil => intro al h; cases al with
      | nil => exact ⟨rfl, by simp⟩
      | cons a al => simp [LIs] at h
    | cons y ys ih => intro al h; cases al with
      | nil => simp [LIs] at h
      | cons a al =>
        simp only [LIs] at h
        obtain ⟨e1, e2⟩ := ih h.2
        obtain ⟨⟨rfl, h0⟩, _⟩ := h
        exact ⟨by rw [e1]; rfl, fun x hx => by
          rcases List.mem_cons.1 hx with rfl | hx
          · exact h0
          · exact e2 x hx⟩
  obtain ⟨rfl, h5⟩ := key h1
  rw [ints_len] at h3
  exact ⟨ys, tl, rfl, h2, h3, h5⟩
theorem cells47 : 0 < Tryd.prog.cellsOf 47 := by rw [show Tryd.prog.cellsOf 47 = 5 from by kernel_rfl]; decide
theorem oft_nd {n : Nat} {l : List AV} (h : OfT Tryd.prog n 47 l) : ∃ e : Nd, e.Is (.agg l) := by
  cases n with
  | zero => exact h.elim
  | succ n =>
    unfold OfT at h
    simp only [Tryd.underlying47] at h
    rw [if_pos (by kernel_rfl)] at h
    obtain ⟨xs, rfl, hl, hx⟩ := h
    obtain ⟨a, b, c, d, e, rfl⟩ := five hl
    obtain ⟨k, rfl, hk⟩ := oft_int (hx 0 _ a rfl rfl)
    obtain ⟨i, rfl, hi⟩ := oft_int (hx 1 _ b rfl rfl)
    obtain ⟨nm, rfl, hn⟩ := oft_str (hx 2 _ c rfl rfl)
    obtain ⟨ls, las, t1, rfl, g1, g2, g3⟩ := oft_slice (R := Lv.Is) Tryd.underlying30 cells67 (fun n l h => by
      obtain ⟨v, hv⟩ := oft_lv h
      exact ⟨v, by rw [show isAgg Tryd.prog 67 = true from by kernel_rfl]; exact hv⟩) (hx 3 _ d rfl rfl)
    obtain ⟨ks, t2, rfl, q1, q2, q3⟩ := oft_ints (hx 4 _ e rfl rfl)
    exact ⟨⟨k, i, nm, ls, ks⟩, t1, t2, las, rfl, g2, q1, hk, hi, hn, g3, q2, g1, q3⟩
theorem oft_g {n : Nat} {l : List AV} (h : OfT Tryd.prog n 24 l) : ∃ N : List Nd, GIs N (.agg l) := by
  cases n with
  | zero => exact h.elim
  | succ n =>
    unfold OfT at h
    simp only [Tryd.underlying24] at h
    rw [if_pos (by kernel_rfl)] at h
    obtain ⟨xs, rfl, hl, hx⟩ := h
    obtain ⟨a, rfl⟩ : ∃ a, xs = [a] := by
      match xs, hl with
      | [a], _ => exact ⟨a, rfl⟩
    obtain ⟨N, al, tl, rfl, g1, g2, g3⟩ := oft_slice (R := Nd.Is) Tryd.underlying22 cells47 (fun n l h => by
      obtain ⟨v, hv⟩ := oft_nd h
      exact ⟨v, by rw [show isAgg Tryd.prog 47 = true from by kernel_rfl]; exact hv⟩) (hx 0 _ a rfl rfl)
    exact ⟨N, al, tl, rfl, g2, g3, g1⟩
open Go Go.Proofs Go.Proofs.YtjiheebhmokfbaaDoor
open Go.ChangeShapes Go.WideShapes Go.ChangeAt Go.RowKit
def laid50 : List (String × DataW Unit) := Rows.graphChecksRow.laid
theorem lm_tail {P : Program} {x : String × DataW Unit} {r : List (String × DataW Unit)} {w : World} (h : laidMet P (x :: r) w) : laidMet P r w := by
  obtain ⟨n, d⟩ := x
  obtain ⟨ps, ⟨g, t, cs, fuel, p, q, _, _, _, _, hq, rfl⟩, hn, hc⟩ := h
  exact ⟨q, hq, (List.nodup_append.1 hn).2.1, fun b off hm => hc b off (List.mem_append_right _ hm)⟩
theorem kn_of {W : World} (h : laidMetH Tryd.prog laid50 W) : Kn W := by
  rw [MakeChecks.laidMetH_plain _ _ _ (by kernel_rfl)] at h
  have h2 := lm_tail (lm_tail h)
  have h3 := Lib.tabIs_of_head (name := tabN) (zs := Lib.pow10Tab) (k := .u64) (g := 0) (t := 142) (e := 132) (n := 20) (by kernel_rfl) (by kernel_rfl) (by kernel_rfl) (by kernel_rfl) (by kernel_rfl) (by kernel_rfl) h2
  intro b hb
  obtain rfl : b = 0 := hb
  unfold Lib.TabIs World.var? at h3
  rw [show Tryd.prog.globalNamed tabN = some 0 from by kernel_rfl] at h3
  simp only [Option.bind_some] at h3
  split at h3
  · rename_i cs t z hh
    simp only [Option.some.injEq] at h3
    subst h3
    exact ⟨(Array.getElem?_eq_some_iff.1 hh).1, t, z, hh⟩
  · cases h3
theorem try_own : ownKnob Tryd.prog.godebug = none := by kernel_rfl
theorem try_laid : laidOutB Tryd.prog = true := by kernel_rfl
end Go.Proofs.Eng
