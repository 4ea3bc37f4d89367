/- The reference's check of calls. No conditions beyond those in the theorems. -/
import Derived.Test.YtodnkbnbjhcikaaDoorH5
set_option linter.all false
set_option linter.deprecated false
set_option linter.unnecessarySimpa false
set_option linter.unusedVariables false
set_option linter.unusedSimpArgs false
set_option linter.defProp false
namespace Go.Proofs.Eng
open Go Go.Proofs
set_option maxRecDepth 100000
set_option maxHeartbeats 16000000
structure KnL (L ps : List (Int × Int)) : Prop where
  cons : consB ps = true
  mem : ∀ p, p ∈ L ↔ p ∈ ps
theorem KnL.old {L ps : List (Int × Int)} (h : KnL L ps) {p : Int × Int} (hp : p ∈ L) : KnL L (ps ++ [p]) := by
  refine ⟨?_, fun q => ?_⟩
  · rw [consB_snoc h.cons, List.all_eq_true]
    intro q hq
    by_cases e : q.1 = p.1
    · have := consB_iff.1 h.cons q hq p ((h.mem p).1 hp) e
      simp [this]
    · simp [e]
  · rw [List.mem_append, ← h.mem]
    simp only [List.mem_singleton]
    constructor
    · exact .inl
    · rintro (h' | rfl)
      · exact h'
      · exact hp
theorem KnL.new {L ps : List (Int × Int)} (h : KnL L ps) {p : Int × Int} (hp : ∀ q ∈ L, q.1 ≠ p.1) : KnL (L ++ [p]) (ps ++ [p]) := by
  refine ⟨?_, fun q => ?_⟩
  · rw [consB_snoc h.cons, List.all_eq_true]
    intro q hq
    have := hp q ((h.mem q).2 hq)
    simp [this]
  · rw [List.mem_append, List.mem_append, h.mem]
theorem KnL.bad {L ps qs : List (Int × Int)} (h : KnL L ps) {p q : Int × Int} (hq : q ∈ L) (h1 : q.1 = p.1) (h2 : q.2 ≠ p.2) : consB (ps ++ p :: qs) = false := by
  cases e : consB (ps ++ p :: qs) with
  | false => rfl
  | true => exact absurd (consB_iff.1 e q (List.mem_append_left _ ((h.mem q).1 hq)) p (by simp) h1) h2
theorem KnL.nil : KnL [] [] := ⟨rfl, fun _ => Iff.rfl⟩
def App2 (T : List Nat) (l : List AV) (t : Tl) (m : List AV) (u : Tl) : Prop := (l = [] ∧ t = .nil ∧ m = [] ∧ u = .nil) ∨ (l ≠ [] ∧ m ≠ [] ∧ ∃ i v j w, t = .tl i v ∧ T[i]? = some v ∧ u = .tl j w ∧ T[j]? = some w ∧ i ≠ j)
theorem app_two {T : List Nat} {l m : List Int} {t u : Tl} {x y : Int} (h : App2 T (ints l) t (ints m) u) (hl : l.length < capB) (hm : m.length < capB) :
    ∃ t' u' T' T'', (∀ H, appA ⟨H, T⟩ 1 none (ints l) t [.int x] = some (.sl (ints (l ++ [x])) t', ⟨H, T'⟩)) ∧ (∀ H, appA ⟨H, T'⟩ 1 none (ints m) u [.int y] = some (.sl (ints (m ++ [y])) u', ⟨H, T''⟩)) ∧ App2 T'' (ints (l ++ [x])) t' (ints (m ++ [y])) u' := by
  have hn1 : l.length + 1 ≤ 1073741824 := by unfold capB at hl; omega
  have hn2 : m.length + 1 ≤ 1073741824 := by unfold capB at hm; omega
  have ha := ints_all l
  have hb := ints_all m
  rcases h with ⟨h1, rfl, h2, rfl⟩ | ⟨h1, h2, i, v, j, w, rfl, hT, rfl, hU, hij⟩
  · obtain rfl : l = [] := by cases l with | nil => rfl | cons _ _ => simp [ints] at h1
    obtain rfl : m = [] := by cases m with | nil => rfl | cons _ _ => simp [ints] at h2
    refine ⟨.tl T.length 0, .tl (T ++ [0]).length 0, T ++ [0], T ++ [0] ++ [0], fun H => ?_, fun H => ?_, .inr ⟨by simp [ints], by simp [ints], _, _, _, _, rfl, by simp, rfl, by simp, by simp⟩⟩
    · simp [appA, ints, AV.cells, oneCell]
    · simp [appA, ints, AV.cells, oneCell]
  · have i1 := (List.getElem?_eq_some_iff.1 hT).1
    have j1 := (List.getElem?_eq_some_iff.1 hU).1
    refine ⟨.tl i (v + 1), .tl j (w + 1), T.set i (v + 1), (T.set i (v + 1)).set j (w + 1), fun H => ?_, fun H => ?_, .inr ⟨by simp [ints], by simp [ints], i, v + 1, j, w + 1, rfl, ?_, rfl, ?_, hij⟩⟩
    · rw [ints_app]
      simp only [appA, List.length_cons, List.length_nil, ints_len, hT, ha]
      simp [hn1, ints, AV.cells, oneCell]
      exact fun e => h1 (by rw [e]; rfl)
    · have hU2 : (T.set i (v + 1))[j]? = some w := by rw [List.getElem?_set, if_neg hij]; exact hU
      rw [ints_app]
      simp only [appA, List.length_cons, List.length_nil, ints_len, hU2, hb]
      simp [hn2, ints, AV.cells, oneCell]
      exact fun e => h2 (by rw [e]; rfl)
    · rw [List.getElem?_set, if_neg (fun e => hij e.symm), List.getElem?_set, if_pos rfl, if_pos i1]
    · rw [List.getElem?_set, if_pos rfl, if_pos (by rw [List.length_set]; exact j1)]
theorem any_snoc {α : Type} {l : List α} {j : Nat} {x : α} {P : α → Bool} (hx : l[j]? = some x) : (l.take (j + 1)).any P = ((l.take j).any P || P x) := by
  rw [List.take_add_one, hx]; simp [List.any_append]
theorem two_all {a b : Int} : ([AV.int a, AV.int b].all fun x => x.cells.length == 1) = true := rfl
theorem dl2 {k : Nat} (h : k < 2) : decide ((k : Int) < 2) = true := decide_eq_true (by omega)
theorem dl2' {k : Nat} (h : 2 ≤ k) : decide ((k : Int) < 2) = false := decide_eq_false (by omega)
theorem rcheck_ret {l : List Cl} {al : List AV} {t : Tl} (h : LIs ClIs l al) (hl : 2 * al.length < capB) : Out md pfs 31 [.sl al t] (· = .int (checkR l)) fun _ => False := by
  have hall := h.all clAgg
  have hln := h.len
  have hlb : al.length < lenB := by unfold lenB; unfold capB at hl; omega
  refine out_of pf31_is (Nat.le_of_ble_eq_true rfl) ?_
  simp only [pf31, ↓wpre, wset, wcore, wext, ne_eq, if_true, if_false, exists_eq_left', true_implies, false_implies, exists_const, exists_eq_right, binA, intA, loadA, storeA, pickC, setAt, mapO, argsE, X.isC, resA, oneA, unA, boundA, eqiA, eqsA, fillA, fillE, ASt.fz, strA, simprocAttr]
  refine W_loopE (fun j => al.length - j) (fun j E H T => E 0 = .sl al t ∧ E 3 = .int (j : Nat) ∧ j ≤ al.length ∧ (l.take j).any (fun c => !formB c) = false) ?_ 0 ⟨rfl, rfl, Nat.zero_le _, rfl⟩
  rintro j E H T ⟨e0, e3, hj, hany⟩
  rcases Nat.lt_or_ge j al.length with hlt | hge
  · have q1 := dlt hlt
    obtain ⟨c, a, g1, g2, g3, g4⟩ := cl_get h hlt
    obtain ⟨_, rfl, cc⟩ := (form_ret g4).call rfl (by simp [pvs_cons, pvs_nil, g4.pure])
    obtain ⟨bl, u, rfl, _⟩ := g4.of
    cases hf : formB c
    · rw [hf] at cc
      have dd := check_form (any_hit (P := fun c => !formB c) g1 (by simp [hf]))
      have q2 : ((3 : Int) != 0) = true := rfl
      simp only [Bool.false_eq_true, if_false] at cc
      simp only [↓wpre, wset, wcore, wext, ne_eq, if_true, if_false, exists_eq_left', true_implies, false_implies, exists_const, exists_eq_right, binA, intA, loadA, storeA, pickC, setAt, mapO, argsE, X.isC, resA, oneA, unA, boundA, eqiA, eqsA, fillA, fillE, ASt.fz, strA, simprocAttr, e0, e3, q1, hall, g3, cc, q2, dd]
    · rw [hf] at cc
      have q2 : ((0 : Int) != 0) = false := rfl
      simp only [if_true] at cc
      simp only [↓wpre, wset, wcore, wext, ne_eq, if_true, if_false, exists_eq_left', true_implies, false_implies, exists_const, exists_eq_right, binA, intA, loadA, storeA, pickC, setAt, mapO, argsE, X.isC, resA, oneA, unA, boundA, eqiA, eqsA, fillA, fillE, ASt.fz, strA, simprocAttr, e0, e3, q1, hall, g3, cc, q2]
      exact EQ_in ⟨j + 1, by omega, e0, next_ixv (by omega), by omega, any_step hany g1 (by simp [hf])⟩
  have q1 := dltf hge
  rw [List.take_of_length_le (by omega)] at hany
  have dd := check_two hany
  simp only [↓wpre, wset, wcore, wext, ne_eq, if_true, if_false, exists_eq_left', true_implies, false_implies, exists_const, exists_eq_right, binA, intA, loadA, storeA, pickC, setAt, mapO, argsE, X.isC, resA, oneA, unA, boundA, eqiA, eqsA, fillA, fillE, ASt.fz, strA, simprocAttr, e0, e3, q1]
  clear q1 hge hj e3
  refine W_loopE (fun j => al.length - j) (fun j E H T => E 0 = .sl al t ∧ E 7 = .int (j : Nat) ∧ j ≤ al.length ∧ ∃ L t5 t6, E 5 = .sl (ints (L.map (·.1))) t5 ∧ E 6 = .sl (ints (L.map (·.2))) t6 ∧ App2 T (ints (L.map (·.1))) t5 (ints (L.map (·.2))) t6 ∧ L.length ≤ 2 * j ∧ KnL L (prs (l.take j))) ?_ 0 ⟨e0, rfl, Nat.zero_le _, [], .nil, .nil, rfl, rfl, .inl ⟨rfl, rfl, rfl, rfl⟩, Nat.zero_le _, .nil⟩
  clear e0 E H T j
  rintro j E H T ⟨e0, e7, hj, L, t5, t6, e5, e6, hA, hLj, hK⟩
  rcases Nat.lt_or_ge j al.length with hlt | hge
  · have q1 := dlt hlt
    obtain ⟨c, a, g1, g2, g3, g4⟩ := cl_get h hlt
    have hcf : formB c = true := by
      have := List.any_eq_false.1 hany c g2
      simpa using this
    obtain ⟨bl, u, rfl, k1, k2, k3, k4, k5⟩ := g4.of
    have hbl := rows_all k1
    have hlb := k1.len
    have hff := formB_iff.1 hcf
    obtain ⟨x0, tx0, y1, y2, y3, y4⟩ := head_is k1 (by omega)
    have p1 : prsC c = [(c.f, ((colN c : Nat) : Int)), (c.t, ((c.m.length : Nat) : Int))] := rfl
    have hsplit := prs_split g1
    simp only [↓wpre, wset, wcore, wext, ne_eq, if_true, if_false, exists_eq_left', true_implies, false_implies, exists_const, exists_eq_right, binA, intA, loadA, storeA, pickC, setAt, mapO, argsE, X.isC, resA, oneA, unA, boundA, eqiA, eqsA, fillA, fillE, ASt.fz, strA, simprocAttr, e0, e7, e5, e6, q1, hall, g3, y1, hbl, ints_len]
    refine W_loopE (fun k => 2 - k) (fun k E H T => E 0 = .sl al t ∧ E 7 = .int (j : Nat) ∧ E 10 = .int (k : Nat) ∧ k ≤ 2 ∧ E 8 = .sl [.int c.f, .int c.t] (.cap 2) ∧ E 9 = .sl [.int x0.length, .int bl.length] (.cap 2) ∧ ∃ L t5 t6, E 5 = .sl (ints (L.map (·.1))) t5 ∧ E 6 = .sl (ints (L.map (·.2))) t6 ∧ App2 T (ints (L.map (·.1))) t5 (ints (L.map (·.2))) t6 ∧ L.length ≤ 2 * j + k ∧ KnL L (prs (l.take j) ++ (prsC c).take k)) ?_ 0 ⟨e0, e7, rfl, Nat.zero_le _, rfl, rfl, L, t5, t6, e5, e6, hA, hLj, by simpa using hK⟩
    clear e0 e7 e5 e6 hA hLj hK E H T L t5 t6
    rintro k E H T ⟨e0, e7, e10, hk, e8, e9, L, t5, t6, e5, e6, hA, hLj, hK⟩
    rcases Nat.lt_or_ge k 2 with hk2 | hk2
    · have q2 := dl2 hk2
      obtain ⟨p, hp, n1, n2, hpp⟩ : ∃ p : Int × Int, (prsC c)[k]? = some p ∧ [AV.int c.f, AV.int c.t][k]? = some (.int p.1) ∧ [AV.int x0.length, AV.int bl.length][k]? = some (.int p.2) ∧ prsC c = (prsC c).take k ++ p :: (prsC c).drop (k + 1) := by
        match k, hk2 with
        | 0, _ => exact ⟨_, rfl, rfl, by rw [← y3]; rfl, rfl⟩
        | 1, _ => exact ⟨_, rfl, rfl, by rw [hlb]; rfl, rfl⟩
      simp only [↓wpre, wset, wcore, wext, ne_eq, if_true, if_false, exists_eq_left', true_implies, false_implies, exists_const, exists_eq_right, binA, intA, loadA, storeA, pickC, setAt, mapO, argsE, X.isC, resA, oneA, unA, boundA, eqiA, eqsA, fillA, fillE, ASt.fz, strA, simprocAttr, e0, e7, e5, e6, e8, e9, e10, q2]
      refine W_loopE (fun i => L.length - i) (fun i E H T => E 0 = .sl al t ∧ E 7 = .int (j : Nat) ∧ E 10 = .int (k : Nat) ∧ E 8 = .sl [.int c.f, .int c.t] (.cap 2) ∧ E 9 = .sl [.int x0.length, .int bl.length] (.cap 2) ∧ E 5 = .sl (ints (L.map (·.1))) t5 ∧ E 6 = .sl (ints (L.map (·.2))) t6 ∧ App2 T (ints (L.map (·.1))) t5 (ints (L.map (·.2))) t6 ∧ E 12 = .int (i : Nat) ∧ i ≤ L.length ∧ E 11 = .bool ((L.take i).any fun q => q.1 == p.1) ∧ ∀ q ∈ L.take i, q.1 = p.1 → q.2 = p.2) ?_ 0 ⟨e0, e7, e10, e8, e9, e5, e6, hA, rfl, Nat.zero_le _, rfl, by simp⟩
      clear e0 e7 e5 e6 e8 e9 e10 hA E H T
      rintro i E H T ⟨e0, e7, e10, e8, e9, e5, e6, hA, e12, hi, e11, hq⟩
      have m1 : (L.map (·.1)).length = L.length := by simp
      have m2 : (L.map (·.2)).length = L.length := by simp
      rcases Nat.lt_or_ge i L.length with hiL | hiL
      · have q3 := dlt hiL
        have hg : L[i]? = some L[i] := List.getElem?_eq_getElem hiL
        generalize L[i] = q at hg
        have b1 : (ints (L.map (·.1)))[i]? = some (.int q.1) := by simp [ints, hg]
        have b2 : (ints (L.map (·.2)))[i]? = some (.int q.2) := by simp [ints, hg]
        have a1 := ints_all (L.map (·.1))
        have a2 := ints_all (L.map (·.2))
        by_cases hqp : q.1 = p.1
        · have q4 := ibne' hqp
          by_cases hq2 : q.2 = p.2
          · have q5 := ibne' hq2
            simp only [↓wpre, wset, wcore, wext, ne_eq, if_true, if_false, exists_eq_left', true_implies, false_implies, exists_const, exists_eq_right, binA, intA, loadA, storeA, pickC, setAt, mapO, argsE, X.isC, resA, oneA, unA, boundA, eqiA, eqsA, fillA, fillE, ASt.fz, strA, simprocAttr, e0, e7, e5, e6, e8, e9, e10, e11, e12, ints_len, m1, m2, q3, b1, b2, n1, n2, a1, a2, two_all, q4, q5]
            exact EQ_in ⟨i + 1, by omega, e0, e7, e10, e8, e9, e5, e6, hA, next_ixv (by unfold lenB; unfold capB at hl; omega), by omega, by rw [any_snoc hg, show (q.1 == p.1) = true by simp [hqp], Bool.or_true]; rfl, all_snoc hq hg fun _ => hq2⟩
          · have q5 := ibne hq2
            have hno := hK.bad (qs := (prsC c).drop (k + 1) ++ prs (l.drop (j + 1))) (List.mem_of_getElem? hg) hqp hq2
            have he : prs l = prs (l.take j) ++ (prsC c).take k ++ p :: ((prsC c).drop (k + 1) ++ prs (l.drop (j + 1))) := by
              rw [hsplit]
              conv => lhs; rw [hpp]
              simp
            rw [he, if_neg (by rw [hno]; simp)] at dd
            simp only [↓wpre, wset, wcore, wext, ne_eq, if_true, if_false, exists_eq_left', true_implies, false_implies, exists_const, exists_eq_right, binA, intA, loadA, storeA, pickC, setAt, mapO, argsE, X.isC, resA, oneA, unA, boundA, eqiA, eqsA, fillA, fillE, ASt.fz, strA, simprocAttr, e0, e7, e5, e6, e8, e9, e10, e11, e12, ints_len, m1, m2, q3, b1, b2, n1, n2, a1, a2, two_all, q4, q5, dd]
        · have q4 := ibne hqp
          simp only [↓wpre, wset, wcore, wext, ne_eq, if_true, if_false, exists_eq_left', true_implies, false_implies, exists_const, exists_eq_right, binA, intA, loadA, storeA, pickC, setAt, mapO, argsE, X.isC, resA, oneA, unA, boundA, eqiA, eqsA, fillA, fillE, ASt.fz, strA, simprocAttr, e0, e7, e5, e6, e8, e9, e10, e11, e12, ints_len, m1, m2, q3, b1, b2, n1, n2, a1, a2, two_all, q4]
          exact EQ_in ⟨i + 1, by omega, e0, e7, e10, e8, e9, e5, e6, hA, next_ixv (by unfold lenB; unfold capB at hl; omega), by omega, e11.trans (by rw [any_snoc hg, show (q.1 == p.1) = false by simp [hqp], Bool.or_false]), all_snoc hq hg fun h => absurd h hqp⟩
      · have q3 := dltf hiL
        rw [List.take_of_length_le (by omega)] at hq e11
        have hpt : prs (l.take j) ++ (prsC c).take (k + 1) = prs (l.take j) ++ (prsC c).take k ++ [p] := by
          rw [List.take_add_one, hp]; simp
        cases hkn : L.any fun q => q.1 == p.1
        · rw [hkn] at e11
          obtain ⟨t', u', T', T'', ap1, ap2, hA'⟩ := app_two (x := p.1) (y := p.2) hA (by simp; omega) (by simp; omega)
          rw [show L.map (·.1) ++ [p.1] = (L ++ [p]).map (·.1) by simp] at ap1 hA'
          rw [show L.map (·.2) ++ [p.2] = (L ++ [p]).map (·.2) by simp] at ap2 hA'
          simp only [↓wpre, wset, wcore, wext, ne_eq, if_true, if_false, exists_eq_left', true_implies, false_implies, exists_const, exists_eq_right, binA, intA, loadA, storeA, pickC, setAt, mapO, argsE, X.isC, resA, oneA, unA, boundA, eqiA, eqsA, fillA, fillE, ASt.fz, strA, simprocAttr, e0, e7, e5, e6, e8, e9, e10, e11, e12, ints_len, m1, m2, q3, n1, n2, two_all, ap1, ap2]
          refine EQ_in ⟨k + 1, by omega, e0, e7, next_ixv (by unfold lenB; omega), by omega, e8, e9, L ++ [p], _, _, rfl, rfl, hA', by simp; omega, ?_⟩
          rw [hpt]
          refine hK.new fun q hq' => ?_
          have := List.any_eq_false.1 hkn q hq'
          simpa using this
        · rw [hkn] at e11
          simp only [↓wpre, wset, wcore, wext, ne_eq, if_true, if_false, exists_eq_left', true_implies, false_implies, exists_const, exists_eq_right, binA, intA, loadA, storeA, pickC, setAt, mapO, argsE, X.isC, resA, oneA, unA, boundA, eqiA, eqsA, fillA, fillE, ASt.fz, strA, simprocAttr, e0, e7, e5, e6, e8, e9, e10, e11, e12, ints_len, m1, m2, q3]
          refine EQ_in ⟨k + 1, by omega, e0, e7, next_ixv (by unfold lenB; omega), by omega, e8, e9, L, _, _, e5, e6, hA, by omega, ?_⟩
          rw [hpt]
          refine hK.old ?_
          obtain ⟨q, hq1, hq2⟩ := List.any_eq_true.1 hkn
          simp only [beq_iff_eq] at hq2
          have := hq q hq1 hq2
          have e : q = p := Prod.ext hq2 this
          rw [← e]; exact hq1
    · have q2 := dl2' hk2
      obtain rfl : k = 2 := by omega
      simp only [↓wpre, wset, wcore, wext, ne_eq, if_true, if_false, exists_eq_left', true_implies, false_implies, exists_const, exists_eq_right, binA, intA, loadA, storeA, pickC, setAt, mapO, argsE, X.isC, resA, oneA, unA, boundA, eqiA, eqsA, fillA, fillE, ASt.fz, strA, simprocAttr, e0, e7, e5, e6, e8, e9, e10, q2]
      refine EQ_in ⟨j + 1, by omega, e0, next_ixv (by unfold lenB; unfold capB at hl; omega), by omega, L, _, _, e5, e6, hA, by omega, ?_⟩
      rw [prs_take g1]
      exact hK
  · have q1 := dltf hge
    rw [List.take_of_length_le (by omega)] at hK
    rw [if_pos hK.cons] at dd
    simp only [↓wpre, wset, wcore, wext, ne_eq, if_true, if_false, exists_eq_left', true_implies, false_implies, exists_const, exists_eq_right, binA, intA, loadA, storeA, pickC, setAt, mapO, argsE, X.isC, resA, oneA, unA, boundA, eqiA, eqsA, fillA, fillE, ASt.fz, strA, simprocAttr, e0, e7, e5, e6, q1, dd]
end Go.Proofs.Eng
