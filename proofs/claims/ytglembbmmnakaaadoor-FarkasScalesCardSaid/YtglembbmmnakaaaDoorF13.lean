/- One stage of the elimination: what it computes, and the program's. No conditions beyond those in the theorems. -/
import Derived.Test.YtglembbmmnakaaaDoorF12
set_option linter.all false
set_option linter.deprecated false
set_option linter.unnecessarySimpa false
set_option linter.unusedVariables false
set_option linter.unusedSimpArgs false
set_option linter.defProp false
namespace Go.Proofs.Eng
open Go Go.Proofs
set_option maxRecDepth 100000
set_option maxHeartbeats 16000000
/-- A combination is added. -/
def addR (j : Nat) (r s : Rw) (acc : List Rw) : Except Nat (List Rw) :=
  if longX (divX (combX r s j)) then .error 5
  else if hasR acc (divX (combX r s j)).A then .ok acc
  else if acc.length < 500 then .ok (acc ++ [divX (combX r s j)]) else .error 6
def crossI (j : Nat) (r : Rw) : List Rw → List Rw → Except Nat (List Rw)
  | acc, [] => .ok acc
  | acc, s :: ss => if s.A.getD j 0 < 0 then (addR j r s acc).bind fun a => crossI j r a ss else crossI j r acc ss
def crossO (j : Nat) (all : List Rw) : List Rw → List Rw → Except Nat (List Rw)
  | acc, [] => .ok acc
  | acc, r :: rs => if r.A.getD j 0 > 0 then (crossI j r acc all).bind fun a => crossO j all a rs else crossO j all acc rs
def keepZ (j : Nat) : List Rw → List Rw → List Rw
  | acc, [] => acc
  | acc, r :: rs => keepZ j (if r.A.getD j 0 = 0 then (if hasR acc r.A then acc else acc ++ [r]) else acc) rs
def stageR (j : Nat) (l : List Rw) : Except Nat (List Rw) := crossO j l (keepZ j [] l) l
theorem gcdF_dvd : ∀ (l : List Int) (g : Nat), gcdF g l ∣ g ∧ ∀ n ∈ l, gcdF g l ∣ n.natAbs
  | [], g => ⟨Nat.dvd_refl _, by simp⟩
  | n :: l, g => by
    obtain ⟨h1, h2⟩ := gcdF_dvd l (Nat.gcd g n.natAbs)
    rw [gcdF]
    refine ⟨Nat.dvd_trans h1 (Nat.gcd_dvd_left _ _), fun k hk => ?_⟩
    rcases List.mem_cons.1 hk with rfl | hk
    · exact Nat.dvd_trans h1 (Nat.gcd_dvd_right _ _)
    · exact h2 k hk
theorem divX_len (x : Rw) : (divX x).A.length = x.A.length ∧ (divX x).F.length = x.F.length := by
  unfold divX; split <;> simp
theorem divX_F0 {x : Rw} (h : ∀ n ∈ x.F, 0 ≤ n) : ∀ n ∈ (divX x).F, 0 ≤ n := by
  unfold divX
  split
  · intro n hn
    obtain ⟨k, hk, rfl⟩ := List.mem_map.1 hn
    exact Int.tdiv_nonneg (h k hk) (by omega)
  · exact h
theorem RowE.comb {r s : Rw} {j w m : Nat} (h : CombOK r s j) (hr : RowE w m r) (hs : RowE w m s) (hx : longX (divX (combX r s j)) = false) : RowE w m (divX (combX r s j)) := by
  obtain ⟨xA, xF, _, _⟩ := combX_bnd h hr hs
  have h0 := divX_F0 (combX_F0 h hr hs)
  obtain ⟨l1, l2⟩ := divX_len (combX r s j)
  have hx2 := hx
  rw [longX_app h0] at hx2
  rw [List.any_eq_false] at hx2
  refine ⟨by omega, by omega, fun n hn => ?_, fun n hn => ⟨h0 n hn, ?_⟩⟩
  · have := hx2 n (List.mem_append_left _ hn)
    unfold bigA at this
    simp only [decide_eq_true_eq] at this
    omega
  · have := hx2 n (List.mem_append_right _ hn)
    unfold bigA at this
    simp only [decide_eq_true_eq] at this
    have := h0 n hn
    omega
theorem RowE.ok {r s : Rw} {j w m : Nat} (hr : RowE w m r) (hs : RowE w m s) (hj : j < w) (h1 : r.A.getD j 0 > 0) (h2 : s.A.getD j 0 < 0) : CombOK r s j := by
  have e1 : r.A[j]? = some (r.A.getD j 0) := by rw [List.getD_eq_getElem?_getD, List.getElem?_eq_getElem (by rw [hr.lA]; exact hj)]; rfl
  have e2 : s.A[j]? = some (s.A.getD j 0) := by rw [List.getD_eq_getElem?_getD, List.getElem?_eq_getElem (by rw [hs.lA]; exact hj)]; rfl
  have b1 := hr.bA _ (List.mem_of_getElem? e1)
  have b2 := hs.bA _ (List.mem_of_getElem? e2)
  generalize r.A.getD j 0 = x at *
  generalize s.A.getD j 0 = y at *
  unfold limB at *
  exact ⟨⟨x.toNat, by rw [e1, Int.toNat_of_nonneg (by omega)], by omega, by unfold limB; omega⟩, ⟨(-y).toNat, by rw [e2, Int.toNat_of_nonneg (by omega), Int.neg_neg], by omega, by unfold limB; omega⟩⟩
theorem RowE.at {r : Rw} {j w m : Nat} (hr : RowE w m r) (hj : j < w) : (ints r.A)[j]? = some (.int (r.A.getD j 0)) := by
  have : r.A[j]? = some (r.A.getD j 0) := by rw [List.getD_eq_getElem?_getD, List.getElem?_eq_getElem (by rw [hr.lA]; exact hj)]; rfl
  rw [ints, List.getElem?_map, this]; rfl
theorem RowE.in64 {r : Rw} {w m : Nat} (hr : RowE w m r) : ∀ n ∈ r.A, Eng.in64 n := fun n hn => by
  have := hr.bA n hn
  unfold limB at this; unfold Eng.in64; omega
theorem KeptS.app {acc : List Rw} {H : List AObj} {T : List Nat} (h : KeptS acc H T) (Z : List AObj) : KeptS acc (H ++ Z) T := by
  obtain ⟨al, t, es, h0, h1, h2, h⟩ := h
  exact ⟨al, t, es, app_get_of h0 _, app_get_of h1 _, app_get_of h2 _, h⟩
theorem KeptS.len {acc : List Rw} {H : List AObj} {T : List Nat} (h : KeptS acc H T) : 3 ≤ H.length := by
  obtain ⟨al, t, es, h0, h1, h2, h⟩ := h
  have := lt_of_get h2; omega
theorem stage_ret {l : List Rw} {al : List AV} {t : Tl} {j w m : Nat} (h : LIs RwIs l al) (ht : t.pure = true) (hE : ∀ r ∈ l, RowE w m r) (hl : l.length ≤ 500) (hj : j < w) (hw : w ≤ 9) (hm : m ≤ 24) :
    Out md pfs 36 [.sl al t, .int (j : Nat)] (fun v => ∃ l' al' t', stageR j l = .ok l' ∧ v = .sl al' t' ∧ t'.pure = true ∧ LIs RwIs l' al' ∧ (∀ r ∈ l', RowE w m r) ∧ l'.length ≤ 500) fun v => ∃ e : Nat, stageR j l = .error e ∧ v = .iface 28 (.int e) := by
  have hln := h.len
  have hall := h.all rwAgg
  refine out_of pf36_is (Nat.le_of_ble_eq_true rfl) ?_
  simp only [pf36, ↓wpre, wset, wcore, ne_eq, if_true, if_false, exists_eq_left', true_implies, false_implies, exists_const, exists_eq_right, binA, intA, loadA, storeA, pickC, setAt, mapO, argsE, X.isC, resA, oneA, unA, boundA, eqiA, eqsA, fillA, fillE, ASt.fz, strA, Nat.reduceEqDiff, Nat.reduceLT, ↓reduceIte, reduceCtorEq, Nat.reduceAdd, Nat.reduceLeDiff, Int.reduceBEq, Int.reduceBNe, Int.reduceLT, Int.reduceLE, Int.reduceGT, Int.reduceGE, Nat.reduceDiv, Nat.reduceMul, Nat.reduceBEq, Nat.reduceMod, Nat.reduceSub]
  refine W_loopE (fun k => al.length - k) (fun k E H T => ∃ acc, E 0 = .sl al t ∧ E 1 = .int (j : Nat) ∧ E 5 = .ptr 0 0 ∧ E 7 = .fn 42 [.ptr 2 0, .ptr 0 0] ∧ E 16 = .sl al t ∧ E 17 = .int al.length ∧ E 18 = .int (k : Nat) ∧ k ≤ al.length ∧ KeptS acc H T ∧ keepZ j acc (l.drop k) = keepZ j [] l ∧ acc.length ≤ k ∧ ∀ r ∈ acc, RowE w m r) ?_ 0 ⟨[], rfl, rfl, rfl, rfl, rfl, rfl, rfl, Nat.zero_le _, ⟨[], .nil, [], rfl, rfl, rfl, trivial, app_start _, mapB_nil⟩, rfl, Nat.zero_le _, by simp⟩
  rintro k E H T ⟨acc, e0, e1, e5, e7, e16, e17, e18, hk, hK, hz, hac, haE⟩
  rcases Nat.lt_or_ge k al.length with hlt | hge
  · have hdec : decide ((k : Int) < (al.length : Int)) = true := by simpa using hlt
    obtain ⟨r, c, g1, g2, g3, g4, g5, g6, g7, g8⟩ := h.get rwAgg hlt
    have hrE := hE r g3
    obtain ⟨tr, ur, hc, hr1, hr2⟩ := g8
    cases hc
    have hat := hrE.at hj
    have hra := ints_all r.A
    rw [g2, keepZ] at hz
    by_cases h0 : r.A.getD j 0 = 0
    · have c0 : (r.A.getD j 0 == 0) = true := by simpa using h0
      rw [if_pos h0] at hz
      rcases (keep_sh (r := r) (a := .agg [.sl (ints r.A) tr, .sl (ints r.F) ur]) (hK.app [.cells false [.sl (ints r.A) tr, .sl (ints r.F) ur]]) ⟨tr, ur, rfl, hr1, hr2⟩ (fun r hr => (haE r hr).in64) hrE.in64 (by rw [hrE.lA]; omega) (by omega)).call rfl with ⟨v, s', hv, c42⟩ | ⟨v, s', ⟨_, hv, _⟩, _⟩
      · rcases hv with ⟨hh, H', T', rfl, hK', hR⟩ | ⟨hh, _, H', T', rfl, hK', hR⟩
        · rw [if_pos hh] at hz
          simp only [↓wpre, wset, wcore, ne_eq, if_true, if_false, exists_eq_left', true_implies, false_implies, exists_const, exists_eq_right, binA, intA, loadA, storeA, pickC, setAt, mapO, argsE, X.isC, resA, oneA, unA, boundA, eqiA, eqsA, fillA, fillE, ASt.fz, strA, Nat.reduceEqDiff, Nat.reduceLT, ↓reduceIte, reduceCtorEq, Nat.reduceAdd, Nat.reduceLeDiff, Int.reduceBEq, Int.reduceBNe, Int.reduceLT, Int.reduceLE, Int.reduceGT, Int.reduceGE, Nat.reduceDiv, Nat.reduceMul, Nat.reduceBEq, Nat.reduceMod, Nat.reduceSub, List.length_append, List.append_assoc, app_get_len, app_get_add, app_set_len, app_set_add, e0, e1, e5, e7, e16, e17, e18, hdec, g4, hall, hat, hra, c0, c42]
          exact EQ_in ⟨k + 1, by omega, acc, e0, e1, e5, e7, e16, e17, next_ixv (by unfold lenB; omega), by omega, hK', hz, by omega, haE⟩
        · rw [if_neg (by simp [hh])] at hz
          simp only [↓wpre, wset, wcore, ne_eq, if_true, if_false, exists_eq_left', true_implies, false_implies, exists_const, exists_eq_right, binA, intA, loadA, storeA, pickC, setAt, mapO, argsE, X.isC, resA, oneA, unA, boundA, eqiA, eqsA, fillA, fillE, ASt.fz, strA, Nat.reduceEqDiff, Nat.reduceLT, ↓reduceIte, reduceCtorEq, Nat.reduceAdd, Nat.reduceLeDiff, Int.reduceBEq, Int.reduceBNe, Int.reduceLT, Int.reduceLE, Int.reduceGT, Int.reduceGE, Nat.reduceDiv, Nat.reduceMul, Nat.reduceBEq, Nat.reduceMod, Nat.reduceSub, List.length_append, List.append_assoc, app_get_len, app_get_add, app_set_len, app_set_add, e0, e1, e5, e7, e16, e17, e18, hdec, g4, hall, hat, hra, c0, c42]
          exact EQ_in ⟨k + 1, by omega, acc ++ [r], e0, e1, e5, e7, e16, e17, next_ixv (by unfold lenB; omega), by omega, hK', hz, by simp; omega, fun x hx => by
            rcases List.mem_append.1 hx with hx | hx
            · exact haE x hx
            · rw [List.mem_singleton.1 hx]; exact hrE⟩
      · omega
    · have c0 : (r.A.getD j 0 == 0) = false := by simpa using h0
      rw [if_neg h0] at hz
      simp only [↓wpre, wset, wcore, ne_eq, if_true, if_false, exists_eq_left', true_implies, false_implies, exists_const, exists_eq_right, binA, intA, loadA, storeA, pickC, setAt, mapO, argsE, X.isC, resA, oneA, unA, boundA, eqiA, eqsA, fillA, fillE, ASt.fz, strA, Nat.reduceEqDiff, Nat.reduceLT, ↓reduceIte, reduceCtorEq, Nat.reduceAdd, Nat.reduceLeDiff, Int.reduceBEq, Int.reduceBNe, Int.reduceLT, Int.reduceLE, Int.reduceGT, Int.reduceGE, Nat.reduceDiv, Nat.reduceMul, Nat.reduceBEq, Nat.reduceMod, Nat.reduceSub, List.length_append, List.append_assoc, app_get_len, app_get_add, app_set_len, app_set_add, e0, e1, e5, e7, e16, e17, e18, hdec, g4, hall, hat, hra, c0]
      exact EQ_in ⟨k + 1, by omega, acc, e0, e1, e5, e7, e16, e17, next_ixv (by unfold lenB; omega), by omega, hK.app _, hz, by omega, haE⟩
  have hdec : decide ((k : Int) < (al.length : Int)) = false := by simpa using hge
  rw [List.drop_of_length_le (by omega), keepZ] at hz
  have hst : crossO j l acc (l.drop 0) = stageR j l := by rw [List.drop_zero, stageR, hz]
  replace hac : acc.length ≤ 500 := by omega
  clear hz
  simp only [↓wpre, wset, wcore, ne_eq, if_true, if_false, exists_eq_left', true_implies, false_implies, exists_const, exists_eq_right, binA, intA, loadA, storeA, pickC, setAt, mapO, argsE, X.isC, resA, oneA, unA, boundA, eqiA, eqsA, fillA, fillE, ASt.fz, strA, Nat.reduceEqDiff, Nat.reduceLT, ↓reduceIte, reduceCtorEq, Nat.reduceAdd, Nat.reduceLeDiff, Int.reduceBEq, Int.reduceBNe, Int.reduceLT, Int.reduceLE, Int.reduceGT, Int.reduceGE, Nat.reduceDiv, Nat.reduceMul, Nat.reduceBEq, Nat.reduceMod, Nat.reduceSub, e0, e1, e5, e7, e16, e17, e18, hdec]
  refine W_loopE (fun k => al.length - k) (fun i E H T => ∃ acc, E 0 = .sl al t ∧ E 1 = .int (j : Nat) ∧ E 5 = .ptr 0 0 ∧ E 7 = .fn 42 [.ptr 2 0, .ptr 0 0] ∧ E 32 = .sl al t ∧ E 33 = .int al.length ∧ E 34 = .int (i : Nat) ∧ i ≤ al.length ∧ KeptS acc H T ∧ crossO j l acc (l.drop i) = stageR j l ∧ acc.length ≤ 500 ∧ ∀ r ∈ acc, RowE w m r) ?_ 0 ⟨acc, e0, e1, e5, e7, rfl, rfl, rfl, Nat.zero_le _, hK, hst, hac, haE⟩
  clear e0 e1 e5 e7 e16 e17 e18 hdec hst hac haE hK hge hk k acc
  rintro i E H T ⟨acc, e0, e1, e5, e7, e32, e33, e34, hi, hK, hst, hac, haE⟩
  rcases Nat.lt_or_ge i al.length with hlt | hge
  · have hdec : decide ((i : Int) < (al.length : Int)) = true := by simpa using hlt
    obtain ⟨r, c, g1, g2, g3, g4, g5, g6, g7, g8⟩ := h.get rwAgg hlt
    have hrE := hE r g3
    obtain ⟨tr, ur, hc, hr1, hr2⟩ := g8
    cases hc
    have hat := hrE.at hj
    have hra := ints_all r.A
    rw [g2, crossO] at hst
    simp only [↓wpre, wset, wcore, ne_eq, if_true, if_false, exists_eq_left', true_implies, false_implies, exists_const, exists_eq_right, binA, intA, loadA, storeA, pickC, setAt, mapO, argsE, X.isC, resA, oneA, unA, boundA, eqiA, eqsA, fillA, fillE, ASt.fz, strA, Nat.reduceEqDiff, Nat.reduceLT, ↓reduceIte, reduceCtorEq, Nat.reduceAdd, Nat.reduceLeDiff, Int.reduceBEq, Int.reduceBNe, Int.reduceLT, Int.reduceLE, Int.reduceGT, Int.reduceGE, Nat.reduceDiv, Nat.reduceMul, Nat.reduceBEq, Nat.reduceMod, Nat.reduceSub, List.length_append, List.append_assoc, app_get_len, app_get_add, app_set_len, app_set_add, e0, e1, e5, e7, e32, e33, e34, hdec, g4, hall]
    refine W_loopE (fun k => al.length - k) (fun k E H T => ∃ acc i11, E 0 = .sl al t ∧ E 1 = .int (j : Nat) ∧ E 5 = .ptr 0 0 ∧ E 7 = .fn 42 [.ptr 2 0, .ptr 0 0] ∧ E 11 = .ptr i11 0 ∧ 3 ≤ i11 ∧ H[i11]? = some (.cells false [.sl (ints r.A) tr, .sl (ints r.F) ur]) ∧ E 32 = .sl al t ∧ E 33 = .int al.length ∧ E 34 = .int (i : Nat) ∧ E 38 = .sl al t ∧ E 39 = .int al.length ∧ E 40 = .int (k : Nat) ∧ k ≤ al.length ∧ KeptS acc H T ∧ (if r.A.getD j 0 > 0 then (crossI j r acc (l.drop k)).bind fun a => crossO j l a (l.drop (i + 1)) else crossO j l acc (l.drop (i + 1))) = stageR j l ∧ acc.length ≤ 500 ∧ ∀ r ∈ acc, RowE w m r) ?_ 0 ⟨acc, H.length, e0, e1, e5, e7, rfl, hK.len, app_get_len, e32, e33, e34, rfl, rfl, rfl, Nat.zero_le _, hK.app _, by rw [List.drop_zero]; exact hst, hac, haE⟩
    clear e0 e1 e5 e7 e32 e33 e34 hdec hst hac haE hK acc
    rintro k E H T ⟨acc, i11, e0, e1, e5, e7, e11, hi3, h11, e32, e33, e34, e38, e39, e40, hk, hK, hst, hac, haE⟩
    have h11' := fun Z => app_get_of h11 Z
    rcases Nat.lt_or_ge k al.length with hkl | hkg
    · have hdec : decide ((k : Int) < (al.length : Int)) = true := by simpa using hkl
      obtain ⟨s, c, b1, b2, b3, b4, b5, b6, b7, b8⟩ := h.get rwAgg hkl
      have hsE := hE s b3
      obtain ⟨ts, us, hc, hs1, hs2⟩ := b8
      cases hc
      have hat2 := hsE.at hj
      have hsa := ints_all s.A
      by_cases hp : r.A.getD j 0 > 0
      · have cp1 : decide (r.A.getD j 0 > 0) = true := decide_eq_true hp
        rw [if_pos hp, b2, crossI] at hst
        by_cases hn : s.A.getD j 0 < 0
        · have cn : decide (s.A.getD j 0 < 0) = true := decide_eq_true hn
          rw [if_pos hn, addR] at hst
          have hco := RowE.ok hrE hsE hj hp hn
          rcases (combined_ret (a := .agg [.sl (ints r.A) tr, .sl (ints r.F) ur]) (b := .agg [.sl (ints s.A) ts, .sl (ints s.F) us]) ⟨tr, ur, rfl, hr1, hr2⟩ ⟨ts, us, rfl, hs1, hs2⟩ hco hrE hsE hw hm).call2 rfl (by simp [pvs_cons, pvs_nil, pureAV, pureAVs, hr1, hr2, hs1, hs2, ints_pure]) with ⟨_, ⟨hlg, tx, ux, rfl, hx1, hx2⟩, c45⟩ | ⟨_, ⟨hlg, rfl⟩, c45⟩
          · have hxE := RowE.comb hco hrE hsE hlg
            rw [if_neg (by simp [hlg])] at hst
            generalize divX (combX r s j) = x at *
            rcases (keep_sh (r := x) (a := .agg [.sl (ints x.A) tx, .sl (ints x.F) ux]) (hK.app [.cells false [.sl (ints s.A) ts, .sl (ints s.F) us]]) ⟨tx, ux, rfl, hx1, hx2⟩ (fun r hr => (haE r hr).in64) hxE.in64 (by rw [hxE.lA]; omega) (by omega)).call rfl with ⟨v, s', hv, c42⟩ | ⟨v, s', ⟨hh, h5, rfl⟩, c42⟩
            · rcases hv with ⟨hh, H', T', rfl, hK', hR⟩ | ⟨hh, h5, H', T', rfl, hK', hR⟩
              · rw [if_pos hh] at hst
                simp only [↓wpre, wset, wcore, ne_eq, if_true, if_false, exists_eq_left', true_implies, false_implies, exists_const, exists_eq_right, binA, intA, loadA, storeA, pickC, setAt, mapO, argsE, X.isC, resA, oneA, unA, boundA, eqiA, eqsA, fillA, fillE, ASt.fz, strA, Nat.reduceEqDiff, Nat.reduceLT, ↓reduceIte, reduceCtorEq, Nat.reduceAdd, Nat.reduceLeDiff, Int.reduceBEq, Int.reduceBNe, Int.reduceLT, Int.reduceLE, Int.reduceGT, Int.reduceGE, Nat.reduceDiv, Nat.reduceMul, Nat.reduceBEq, Nat.reduceMod, Nat.reduceSub, List.length_append, List.append_assoc, app_get_len, app_get_add, app_set_len, app_set_add, e0, e1, e5, e7, e11, e32, e33, e34, e38, e39, e40, hdec, b4, hall, h11', hat, hra, hat2, hsa, cp1, cn, c45, c42]
                exact EQ_in ⟨k + 1, by omega, acc, i11, e0, e1, e5, e7, e11, hi3, hR.2 _ _ hi3 (h11' _), e32, e33, e34, e38, e39, next_ixv (by unfold lenB; omega), by omega, hK', by rw [if_pos hp]; exact hst, hac, haE⟩
              · rw [if_neg (by simp [hh]), if_pos h5] at hst
                simp only [↓wpre, wset, wcore, ne_eq, if_true, if_false, exists_eq_left', true_implies, false_implies, exists_const, exists_eq_right, binA, intA, loadA, storeA, pickC, setAt, mapO, argsE, X.isC, resA, oneA, unA, boundA, eqiA, eqsA, fillA, fillE, ASt.fz, strA, Nat.reduceEqDiff, Nat.reduceLT, ↓reduceIte, reduceCtorEq, Nat.reduceAdd, Nat.reduceLeDiff, Int.reduceBEq, Int.reduceBNe, Int.reduceLT, Int.reduceLE, Int.reduceGT, Int.reduceGE, Nat.reduceDiv, Nat.reduceMul, Nat.reduceBEq, Nat.reduceMod, Nat.reduceSub, List.length_append, List.append_assoc, app_get_len, app_get_add, app_set_len, app_set_add, e0, e1, e5, e7, e11, e32, e33, e34, e38, e39, e40, hdec, b4, hall, h11', hat, hra, hat2, hsa, cp1, cn, c45, c42]
                exact EQ_in ⟨k + 1, by omega, acc ++ [x], i11, e0, e1, e5, e7, e11, hi3, hR.2 _ _ hi3 (h11' _), e32, e33, e34, e38, e39, next_ixv (by unfold lenB; omega), by omega, hK', by rw [if_pos hp]; exact hst, by simp; omega, fun y hy => by
                  rcases List.mem_append.1 hy with hy | hy
                  · exact haE y hy
                  · rw [List.mem_singleton.1 hy]; exact hxE⟩
            · rw [if_neg (by simp [hh]), if_neg (by omega)] at hst
              simp only [↓wpre, wset, wcore, ne_eq, if_true, if_false, exists_eq_left', true_implies, false_implies, exists_const, exists_eq_right, binA, intA, loadA, storeA, pickC, setAt, mapO, argsE, X.isC, resA, oneA, unA, boundA, eqiA, eqsA, fillA, fillE, ASt.fz, strA, Nat.reduceEqDiff, Nat.reduceLT, ↓reduceIte, reduceCtorEq, Nat.reduceAdd, Nat.reduceLeDiff, Int.reduceBEq, Int.reduceBNe, Int.reduceLT, Int.reduceLE, Int.reduceGT, Int.reduceGE, Nat.reduceDiv, Nat.reduceMul, Nat.reduceBEq, Nat.reduceMod, Nat.reduceSub, List.length_append, List.append_assoc, app_get_len, app_get_add, app_set_len, app_set_add, e0, e1, e5, e7, e11, e32, e33, e34, e38, e39, e40, hdec, b4, hall, h11', hat, hra, hat2, hsa, cp1, cn, c45, c42]
              exact ⟨6, hst.symm, rfl⟩
          · rw [if_pos hlg] at hst
            simp only [↓wpre, wset, wcore, ne_eq, if_true, if_false, exists_eq_left', true_implies, false_implies, exists_const, exists_eq_right, binA, intA, loadA, storeA, pickC, setAt, mapO, argsE, X.isC, resA, oneA, unA, boundA, eqiA, eqsA, fillA, fillE, ASt.fz, strA, Nat.reduceEqDiff, Nat.reduceLT, ↓reduceIte, reduceCtorEq, Nat.reduceAdd, Nat.reduceLeDiff, Int.reduceBEq, Int.reduceBNe, Int.reduceLT, Int.reduceLE, Int.reduceGT, Int.reduceGE, Nat.reduceDiv, Nat.reduceMul, Nat.reduceBEq, Nat.reduceMod, Nat.reduceSub, List.length_append, List.append_assoc, app_get_len, app_get_add, app_set_len, app_set_add, e0, e1, e5, e7, e11, e32, e33, e34, e38, e39, e40, hdec, b4, hall, h11', hat, hra, hat2, hsa, cp1, cn, c45]
            exact ⟨5, hst.symm, rfl⟩
        · have cn : decide (s.A.getD j 0 < 0) = false := decide_eq_false hn
          rw [if_neg hn] at hst
          simp only [↓wpre, wset, wcore, ne_eq, if_true, if_false, exists_eq_left', true_implies, false_implies, exists_const, exists_eq_right, binA, intA, loadA, storeA, pickC, setAt, mapO, argsE, X.isC, resA, oneA, unA, boundA, eqiA, eqsA, fillA, fillE, ASt.fz, strA, Nat.reduceEqDiff, Nat.reduceLT, ↓reduceIte, reduceCtorEq, Nat.reduceAdd, Nat.reduceLeDiff, Int.reduceBEq, Int.reduceBNe, Int.reduceLT, Int.reduceLE, Int.reduceGT, Int.reduceGE, Nat.reduceDiv, Nat.reduceMul, Nat.reduceBEq, Nat.reduceMod, Nat.reduceSub, List.length_append, List.append_assoc, app_get_len, app_get_add, app_set_len, app_set_add, e0, e1, e5, e7, e11, e32, e33, e34, e38, e39, e40, hdec, b4, hall, h11', hat, hra, hat2, hsa, cp1, cn]
          exact EQ_in ⟨k + 1, by omega, acc, i11, e0, e1, e5, e7, e11, hi3, h11' _, e32, e33, e34, e38, e39, next_ixv (by unfold lenB; omega), by omega, hK.app _, by rw [if_pos hp]; exact hst, hac, haE⟩
      · have cp1 : decide (r.A.getD j 0 > 0) = false := decide_eq_false hp
        rw [if_neg hp] at hst
        simp only [↓wpre, wset, wcore, ne_eq, if_true, if_false, exists_eq_left', true_implies, false_implies, exists_const, exists_eq_right, binA, intA, loadA, storeA, pickC, setAt, mapO, argsE, X.isC, resA, oneA, unA, boundA, eqiA, eqsA, fillA, fillE, ASt.fz, strA, Nat.reduceEqDiff, Nat.reduceLT, ↓reduceIte, reduceCtorEq, Nat.reduceAdd, Nat.reduceLeDiff, Int.reduceBEq, Int.reduceBNe, Int.reduceLT, Int.reduceLE, Int.reduceGT, Int.reduceGE, Nat.reduceDiv, Nat.reduceMul, Nat.reduceBEq, Nat.reduceMod, Nat.reduceSub, List.length_append, List.append_assoc, app_get_len, app_get_add, app_set_len, app_set_add, e0, e1, e5, e7, e11, e32, e33, e34, e38, e39, e40, hdec, b4, hall, h11', hat, hra, hat2, hsa, cp1]
        exact EQ_in ⟨k + 1, by omega, acc, i11, e0, e1, e5, e7, e11, hi3, h11' _, e32, e33, e34, e38, e39, next_ixv (by unfold lenB; omega), by omega, hK.app _, by rw [if_neg hp]; exact hst, hac, haE⟩
    · have hdec : decide ((k : Int) < (al.length : Int)) = false := by simpa using hkg
      have hst' : crossO j l acc (l.drop (i + 1)) = stageR j l := by
        rw [List.drop_of_length_le (show l.length ≤ k by omega)] at hst
        split at hst <;> exact hst
      simp only [↓wpre, wset, wcore, ne_eq, if_true, if_false, exists_eq_left', true_implies, false_implies, exists_const, exists_eq_right, binA, intA, loadA, storeA, pickC, setAt, mapO, argsE, X.isC, resA, oneA, unA, boundA, eqiA, eqsA, fillA, fillE, ASt.fz, strA, Nat.reduceEqDiff, Nat.reduceLT, ↓reduceIte, reduceCtorEq, Nat.reduceAdd, Nat.reduceLeDiff, Int.reduceBEq, Int.reduceBNe, Int.reduceLT, Int.reduceLE, Int.reduceGT, Int.reduceGE, Nat.reduceDiv, Nat.reduceMul, Nat.reduceBEq, Nat.reduceMod, Nat.reduceSub, e0, e1, e5, e7, e11, e32, e33, e34, e38, e39, e40, hdec]
      exact EQ_in ⟨i + 1, by omega, acc, e0, e1, e5, e7, e32, e33, next_ixv (by unfold lenB; omega), by omega, hK, hst', hac, haE⟩
  have hdec : decide ((i : Int) < (al.length : Int)) = false := by simpa using hge
  rw [List.drop_of_length_le (by omega), crossO] at hst
  obtain ⟨bl, u, es, h0, h1, h2, hL, hA, hM⟩ := hK
  simp only [↓wpre, wset, wcore, ne_eq, if_true, if_false, exists_eq_left', true_implies, false_implies, exists_const, exists_eq_right, binA, intA, loadA, storeA, pickC, setAt, mapO, argsE, X.isC, resA, oneA, unA, boundA, eqiA, eqsA, fillA, fillE, ASt.fz, strA, Nat.reduceEqDiff, Nat.reduceLT, ↓reduceIte, reduceCtorEq, Nat.reduceAdd, Nat.reduceLeDiff, Int.reduceBEq, Int.reduceBNe, Int.reduceLT, Int.reduceLE, Int.reduceGT, Int.reduceGE, Nat.reduceDiv, Nat.reduceMul, Nat.reduceBEq, Nat.reduceMod, Nat.reduceSub, e0, e1, e5, e7, e32, e33, e34, hdec, h0]
  obtain ⟨t', p1, p2⟩ := app_purify (s := ⟨H, T⟩) (n := 20) hA (rwsPure hL) (by omega)
  exact ⟨_, p2, acc, bl, t', hst.symm, rfl, p1, hL, haE, hac⟩
end Go.Proofs.Eng
