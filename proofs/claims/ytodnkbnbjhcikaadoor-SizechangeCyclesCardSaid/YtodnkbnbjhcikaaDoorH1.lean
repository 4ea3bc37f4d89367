/- Short calls, few calls; whether two calls, two lists of calls are the same. No conditions beyond those in the theorems. -/
import Derived.Test.YtodnkbnbjhcikaaDoorPf22
import Derived.Test.YtodnkbnbjhcikaaDoorE1
import Derived.Test.YtodnkbnbjhcikaaDoorE2
set_option linter.all false
set_option linter.deprecated false
set_option linter.unnecessarySimpa false
set_option linter.unusedVariables false
set_option linter.unusedSimpArgs false
set_option linter.defProp false
namespace Go.Proofs.Eng
open Go Go.Proofs
set_option maxRecDepth 100000
set_option maxHeartbeats 16000000
def ShortP (c : Cl) (k : Nat) : Prop := c.m.length ≤ k ∧ ∀ r ∈ c.m, r.length ≤ k
theorem all_snoc {α : Type} {l : List α} {j : Nat} {x : α} {p : α → Prop} (h : ∀ r ∈ l.take j, p r) (hx : l[j]? = some x) (hp : p x) : ∀ r ∈ l.take (j + 1), p r := by
  intro r hr
  rw [List.take_add_one, hx] at hr
  simp only [Option.toList_some, List.mem_append, List.mem_singleton] at hr
  rcases hr with hr | rfl
  · exact h r hr
  · exact hp
theorem dlt {i n : Nat} (h : i < n) : decide ((i : Int) < (n : Int)) = true := by simpa using h
theorem dltf {i n : Nat} (h : n ≤ i) : decide ((i : Int) < (n : Int)) = false := by simpa using h
theorem dle {i n : Nat} (h : i ≤ n) : decide ((i : Int) ≤ (n : Int)) = true := by simpa using h
theorem dlef {i n : Nat} (h : n < i) : decide ((i : Int) ≤ (n : Int)) = false := by simpa using h
theorem dgt {i n : Nat} (h : n < i) : decide ((i : Int) > (n : Int)) = true := by simpa using h
theorem dgtf {i n : Nat} (h : i ≤ n) : decide ((i : Int) > (n : Int)) = false := by simpa using h
theorem short_ret {c : Cl} {a : AV} {k : Nat} (h : ClIs c a) (hk : k ≤ 20) : Out md pfs 20 [a, .int (k : Nat)] (fun v => ∃ b, v = .bool b ∧ (b = true → ShortP c k)) fun _ => False := by
  obtain ⟨al, t, rfl, h1, h2, h3, h4, h5⟩ := h.of
  have hall := rows_all h1
  have hln := h1.len
  refine out_of pf20_is (Nat.le_of_ble_eq_true rfl) ?_
  simp only [pf20, ↓wpre, wset, wcore, wext, ne_eq, if_true, if_false, exists_eq_left', true_implies, false_implies, exists_const, exists_eq_right, binA, intA, loadA, storeA, pickC, setAt, mapO, argsE, X.isC, resA, oneA, unA, boundA, eqiA, eqsA, fillA, fillE, ASt.fz, strA, simprocAttr]
  refine W_loopE (fun j => al.length - j) (fun j E H T => E 1 = .int (k : Nat) ∧ E 2 = .ptr 0 0 ∧ H[0]? = some (.cells false [.int c.f, .int c.t, .sl al t]) ∧ E 4 = .bool false ∧ E 5 = .int (j : Nat) ∧ j ≤ al.length ∧ ∀ r ∈ c.m.take j, r.length ≤ k) ?_ 0 ⟨rfl, rfl, rfl, rfl, rfl, Nat.zero_le _, by simp⟩
  rintro j E H T ⟨e1, e2, h0, e4, e5, hj, hr⟩
  rcases Nat.lt_or_ge j al.length with hlt | hge
  · have d1 := dlt hlt
    rcases Nat.lt_or_ge k j with hk1 | hk1
    · have d2 := dlef hk1
      have d3 := dlef (show k < al.length by omega)
      simp only [↓wpre, wset, wcore, wext, ne_eq, if_true, if_false, exists_eq_left', true_implies, false_implies, exists_const, exists_eq_right, binA, intA, loadA, storeA, pickC, setAt, mapO, argsE, X.isC, resA, oneA, unA, boundA, eqiA, eqsA, fillA, fillE, ASt.fz, strA, simprocAttr, h0, e1, e2, e4, e5, d1, d2, d3]
      exact ⟨_, rfl, fun h => absurd h (by simp)⟩
    · have d2 := dle hk1
      obtain ⟨x, tx, g1, g2, g3, g4, g5, g6⟩ := row_get h1 hlt
      rcases Nat.lt_or_ge k x.length with hx | hx
      · have d3 := dgt hx
        simp only [↓wpre, wset, wcore, wext, ne_eq, if_true, if_false, exists_eq_left', true_implies, false_implies, exists_const, exists_eq_right, binA, intA, loadA, storeA, pickC, setAt, mapO, argsE, X.isC, resA, oneA, unA, boundA, eqiA, eqsA, fillA, fillE, ASt.fz, strA, simprocAttr, h0, e1, e2, e4, e5, d1, d2, g3, hall, ints_len, d3]
        exact ⟨_, rfl, fun h => absurd h (by simp)⟩
      · have d3 := dgtf hx
        simp only [↓wpre, wset, wcore, wext, ne_eq, if_true, if_false, exists_eq_left', true_implies, false_implies, exists_const, exists_eq_right, binA, intA, loadA, storeA, pickC, setAt, mapO, argsE, X.isC, resA, oneA, unA, boundA, eqiA, eqsA, fillA, fillE, ASt.fz, strA, simprocAttr, h0, e1, e2, e4, e5, d1, d2, g3, hall, ints_len, d3]
        exact EQ_in ⟨j + 1, by omega, e1, e2, h0, e4, next_ixv (by omega), by omega, all_snoc hr g1 hx⟩
  · have d1 := dltf hge
    rw [List.take_of_length_le (by omega)] at hr
    rcases Nat.lt_or_ge k al.length with hk1 | hk1
    · have d3 := dlef hk1
      simp only [↓wpre, wset, wcore, wext, ne_eq, if_true, if_false, exists_eq_left', true_implies, false_implies, exists_const, exists_eq_right, binA, intA, loadA, storeA, pickC, setAt, mapO, argsE, X.isC, resA, oneA, unA, boundA, eqiA, eqsA, fillA, fillE, ASt.fz, strA, simprocAttr, h0, e1, e2, e4, e5, d1, d3]
      exact ⟨_, rfl, fun h => absurd h (by simp)⟩
    · have d3 := dle hk1
      simp only [↓wpre, wset, wcore, wext, ne_eq, if_true, if_false, exists_eq_left', true_implies, false_implies, exists_const, exists_eq_right, binA, intA, loadA, storeA, pickC, setAt, mapO, argsE, X.isC, resA, oneA, unA, boundA, eqiA, eqsA, fillA, fillE, ASt.fz, strA, simprocAttr, h0, e1, e2, e4, e5, d1, d3]
      exact ⟨_, rfl, fun _ => ⟨by omega, hr⟩⟩
theorem few_ret {l : List Cl} {al : List AV} {t : Tl} (h : LIs ClIs l al) (hl : al.length ≤ lenB) : Out md pfs 12 [.sl al t] (fun v => ∃ b, v = .bool b ∧ (b = true → l.length ≤ 6 ∧ ∀ c ∈ l, ShortP c 3)) fun _ => False := by
  have hall := h.all clAgg
  have hln := h.len
  refine out_of pf12_is (Nat.le_of_ble_eq_true rfl) ?_
  simp only [pf12, ↓wpre, wset, wcore, wext, ne_eq, if_true, if_false, exists_eq_left', true_implies, false_implies, exists_const, exists_eq_right, binA, intA, loadA, storeA, pickC, setAt, mapO, argsE, X.isC, resA, oneA, unA, boundA, eqiA, eqsA, fillA, fillE, ASt.fz, strA, simprocAttr]
  refine W_loopE (fun j => al.length - j) (fun j E H T => E 0 = .sl al t ∧ E 2 = .bool false ∧ E 3 = .int (j : Nat) ∧ j ≤ al.length ∧ ∀ c ∈ l.take j, ShortP c 3) ?_ 0 ⟨rfl, rfl, rfl, Nat.zero_le _, by simp⟩
  rintro j E H T ⟨e0, e2, e3, hj, hr⟩
  rcases Nat.lt_or_ge j al.length with hlt | hge
  · have d1 := dlt hlt
    rcases Nat.lt_or_ge j 8 with hk1 | hk1
    · have d2 : decide ((j : Int) < 8) = true := by simp only [decide_eq_true_eq]; omega
      obtain ⟨c, a, m1, m2, m3, m4⟩ := cl_get h hlt
      obtain ⟨_, ⟨b, rfl, hb⟩, cc⟩ := (short_ret (k := 3) m4 (by omega)).call rfl (by simp [pvs_cons, pvs_nil, pv_v, m4.pure])
      rw [show ((3 : Nat) : Int) = 3 from rfl] at cc
      obtain ⟨bl, u, rfl, _⟩ := m4.of
      cases b
      · simp only [↓wpre, wset, wcore, wext, ne_eq, if_true, if_false, exists_eq_left', true_implies, false_implies, exists_const, exists_eq_right, binA, intA, loadA, storeA, pickC, setAt, mapO, argsE, X.isC, resA, oneA, unA, boundA, eqiA, eqsA, fillA, fillE, ASt.fz, strA, simprocAttr, e0, e2, e3, d1, d2, hall, m3, cc]
        exact ⟨_, rfl, fun h => absurd h (by simp)⟩
      · simp only [↓wpre, wset, wcore, wext, ne_eq, if_true, if_false, exists_eq_left', true_implies, false_implies, exists_const, exists_eq_right, binA, intA, loadA, storeA, pickC, setAt, mapO, argsE, X.isC, resA, oneA, unA, boundA, eqiA, eqsA, fillA, fillE, ASt.fz, strA, simprocAttr, e0, e2, e3, d1, d2, hall, m3, cc]
        exact EQ_in ⟨j + 1, by omega, e0, e2, next_ixv (by omega), by omega, all_snoc hr m1 (hb rfl)⟩
    · have d2 : decide ((j : Int) < 8) = false := by simp only [decide_eq_false_iff_not]; omega
      have d3 : decide ((al.length : Int) ≤ 6) = false := by simp only [decide_eq_false_iff_not]; omega
      simp only [↓wpre, wset, wcore, wext, ne_eq, if_true, if_false, exists_eq_left', true_implies, false_implies, exists_const, exists_eq_right, binA, intA, loadA, storeA, pickC, setAt, mapO, argsE, X.isC, resA, oneA, unA, boundA, eqiA, eqsA, fillA, fillE, ASt.fz, strA, simprocAttr, e0, e2, e3, d1, d2, d3]
      exact ⟨_, rfl, fun h => absurd h (by simp)⟩
  · have d1 := dltf hge
    rw [List.take_of_length_le (by omega)] at hr
    rcases Nat.lt_or_ge 6 al.length with hk1 | hk1
    · have d3 : decide ((al.length : Int) ≤ 6) = false := by simp only [decide_eq_false_iff_not]; omega
      simp only [↓wpre, wset, wcore, wext, ne_eq, if_true, if_false, exists_eq_left', true_implies, false_implies, exists_const, exists_eq_right, binA, intA, loadA, storeA, pickC, setAt, mapO, argsE, X.isC, resA, oneA, unA, boundA, eqiA, eqsA, fillA, fillE, ASt.fz, strA, simprocAttr, e0, e2, e3, d1, d3]
      exact ⟨_, rfl, fun h => absurd h (by simp)⟩
    · have d3 : decide ((al.length : Int) ≤ 6) = true := by simp only [decide_eq_true_eq]; omega
      simp only [↓wpre, wset, wcore, wext, ne_eq, if_true, if_false, exists_eq_left', true_implies, false_implies, exists_const, exists_eq_right, binA, intA, loadA, storeA, pickC, setAt, mapO, argsE, X.isC, resA, oneA, unA, boundA, eqiA, eqsA, fillA, fillE, ASt.fz, strA, simprocAttr, e0, e2, e3, d1, d3]
      exact ⟨_, rfl, fun _ => ⟨by omega, hr⟩⟩
theorem take_eq {α : Type} {l m : List α} {j : Nat} {x : α} (h : l.take j = m.take j) (h1 : l[j]? = some x) (h2 : m[j]? = some x) : l.take (j + 1) = m.take (j + 1) := by rw [List.take_add_one, List.take_add_one, h, h1, h2]
theorem get_ne {α : Type} {l m : List α} {j : Nat} {x y : α} (h1 : l[j]? = some x) (h2 : m[j]? = some y) (h : x ≠ y) : l ≠ m := by rintro rfl; rw [h1] at h2; cases h2; exact h rfl
theorem take_all {α : Type} {l m : List α} {j : Nat} (h : l.take j = m.take j) (h1 : l.length ≤ j) (h2 : m.length ≤ j) : l = m := by rwa [List.take_of_length_le h1, List.take_of_length_le h2] at h
theorem ibne {x y : Int} (h : x ≠ y) : (x != y) = true := by simpa using h
theorem ibne' {x y : Int} (h : x = y) : (x != y) = false := by simpa using h
theorem same_ret {c d : Cl} {a b : AV} (h : ClIs c a) (k : ClIs d b) : Out md pfs 19 [a, b] (· = .bool (decide (c = d))) fun _ => False := by
  obtain ⟨al, t, rfl, h1, h2, h3, h4, h5⟩ := h.of
  obtain ⟨bl, u, rfl, k1, k2, k3, k4, k5⟩ := k.of
  have hal := rows_all h1
  have hbl := rows_all k1
  have hla := h1.len
  have hlb := k1.len
  refine out_of pf19_is (Nat.le_of_ble_eq_true rfl) ?_
  by_cases hf : c.f = d.f
  case neg =>
    have d1 := ibne hf
    have dd : decide (c = d) = false := decide_eq_false fun e => hf (by rw [e])
    simp only [pf19, ↓wpre, wset, wcore, wext, ne_eq, if_true, if_false, exists_eq_left', true_implies, false_implies, exists_const, exists_eq_right, binA, intA, loadA, storeA, pickC, setAt, mapO, argsE, X.isC, resA, oneA, unA, boundA, eqiA, eqsA, fillA, fillE, ASt.fz, strA, simprocAttr, d1, dd]
  have d1 := ibne' hf
  by_cases ht : c.t = d.t
  case neg =>
    have d2 := ibne ht
    have dd : decide (c = d) = false := decide_eq_false fun e => ht (by rw [e])
    simp only [pf19, ↓wpre, wset, wcore, wext, ne_eq, if_true, if_false, exists_eq_left', true_implies, false_implies, exists_const, exists_eq_right, binA, intA, loadA, storeA, pickC, setAt, mapO, argsE, X.isC, resA, oneA, unA, boundA, eqiA, eqsA, fillA, fillE, ASt.fz, strA, simprocAttr, d1, d2, dd]
  have d2 := ibne' ht
  by_cases hl : al.length = bl.length
  case neg =>
    have d3 : ((al.length : Int) != bl.length) = true := ibne (by omega)
    have dd : decide (c = d) = false := decide_eq_false fun e => hl (by rw [e] at hla; omega)
    simp only [pf19, ↓wpre, wset, wcore, wext, ne_eq, if_true, if_false, exists_eq_left', true_implies, false_implies, exists_const, exists_eq_right, binA, intA, loadA, storeA, pickC, setAt, mapO, argsE, X.isC, resA, oneA, unA, boundA, eqiA, eqsA, fillA, fillE, ASt.fz, strA, simprocAttr, d1, d2, d3, dd]
  have d3 : ((al.length : Int) != bl.length) = false := ibne' (by omega)
  simp only [pf19, ↓wpre, wset, wcore, wext, ne_eq, if_true, if_false, exists_eq_left', true_implies, false_implies, exists_const, exists_eq_right, binA, intA, loadA, storeA, pickC, setAt, mapO, argsE, X.isC, resA, oneA, unA, boundA, eqiA, eqsA, fillA, fillE, ASt.fz, strA, simprocAttr, d1, d2, d3]
  refine W_loopE (fun j => al.length - j) (fun j E H T => E 2 = .ptr 0 0 ∧ H[0]? = some (.cells false [.int c.f, .int c.t, .sl al t]) ∧ E 3 = .ptr 1 0 ∧ H[1]? = some (.cells false [.int d.f, .int d.t, .sl bl u]) ∧ E 5 = .int (j : Nat) ∧ j ≤ al.length ∧ c.m.take j = d.m.take j) ?_ 0 ⟨rfl, rfl, rfl, rfl, rfl, Nat.zero_le _, by simp⟩
  rintro j E H T ⟨e2, h0, e3, h1', e5, hj, hr⟩
  rcases Nat.lt_or_ge j al.length with hlt | hge
  · have q1 := dlt hlt
    obtain ⟨x, tx, g1, g2, g3, g4, g5, g6⟩ := row_get h1 hlt
    obtain ⟨y, ty, f1, f2, f3, f4, f5, f6⟩ := row_get k1 (show j < bl.length by omega)
    have xal := ints_all x
    have yal := ints_all y
    by_cases hxy : x.length = y.length
    case neg =>
      have d4 : ((x.length : Int) != y.length) = true := ibne (by omega)
      have dd : decide (c = d) = false := decide_eq_false fun e => get_ne g1 f1 (fun e => hxy (by rw [e])) (by rw [e])
      simp only [↓wpre, wset, wcore, wext, ne_eq, if_true, if_false, exists_eq_left', true_implies, false_implies, exists_const, exists_eq_right, binA, intA, loadA, storeA, pickC, setAt, mapO, argsE, X.isC, resA, oneA, unA, boundA, eqiA, eqsA, fillA, fillE, ASt.fz, strA, simprocAttr, e2, h0, e3, h1', e5, q1, g3, f3, hal, hbl, ints_len, d4, dd]
    have d4 : ((x.length : Int) != y.length) = false := ibne' (by omega)
    simp only [↓wpre, wset, wcore, wext, ne_eq, if_true, if_false, exists_eq_left', true_implies, false_implies, exists_const, exists_eq_right, binA, intA, loadA, storeA, pickC, setAt, mapO, argsE, X.isC, resA, oneA, unA, boundA, eqiA, eqsA, fillA, fillE, ASt.fz, strA, simprocAttr, e2, h0, e3, h1', e5, q1, g3, f3, hal, hbl, ints_len, d4]
    refine W_loopE (fun j => x.length - j) (fun k E H T => E 2 = .ptr 0 0 ∧ H[0]? = some (.cells false [.int c.f, .int c.t, .sl al t]) ∧ E 3 = .ptr 1 0 ∧ H[1]? = some (.cells false [.int d.f, .int d.t, .sl bl u]) ∧ E 5 = .int (j : Nat) ∧ E 6 = .int (k : Nat) ∧ k ≤ x.length ∧ x.take k = y.take k) ?_ 0 ⟨e2, h0, e3, h1', e5, rfl, Nat.zero_le _, by simp⟩
    clear e2 h0 e3 h1' e5
    rintro k E H T ⟨e2, h0, e3, h1', e5, e6, hk, hr2⟩
    rcases Nat.lt_or_ge k x.length with hlt2 | hge2
    · have q2 := dlt hlt2
      obtain ⟨m, m1, m2, m3⟩ := ints_get hlt2
      obtain ⟨n, n1, n2, n3⟩ := ints_get (show k < y.length by omega)
      by_cases hmn : m = n
      · have d5 := ibne' hmn
        simp only [↓wpre, wset, wcore, wext, ne_eq, if_true, if_false, exists_eq_left', true_implies, false_implies, exists_const, exists_eq_right, binA, intA, loadA, storeA, pickC, setAt, mapO, argsE, X.isC, resA, oneA, unA, boundA, eqiA, eqsA, fillA, fillE, ASt.fz, strA, simprocAttr, e2, h0, e3, h1', e5, e6, q2, g3, f3, hal, hbl, xal, yal, ints_len, m3, n3, d5]
        exact EQ_in ⟨k + 1, by omega, e2, h0, e3, h1', e5, next_ixv (by omega), by omega, take_eq hr2 m1 (by rw [n1, hmn])⟩
      · have d5 := ibne hmn
        have dd : decide (c = d) = false := decide_eq_false fun e => get_ne g1 f1 (get_ne m1 n1 hmn) (by rw [e])
        simp only [↓wpre, wset, wcore, wext, ne_eq, if_true, if_false, exists_eq_left', true_implies, false_implies, exists_const, exists_eq_right, binA, intA, loadA, storeA, pickC, setAt, mapO, argsE, X.isC, resA, oneA, unA, boundA, eqiA, eqsA, fillA, fillE, ASt.fz, strA, simprocAttr, e2, h0, e3, h1', e5, e6, q2, g3, f3, hal, hbl, xal, yal, ints_len, m3, n3, d5, dd]
    · have q2 := dltf hge2
      have hxe := take_all hr2 hge2 (by omega)
      simp only [↓wpre, wset, wcore, wext, ne_eq, if_true, if_false, exists_eq_left', true_implies, false_implies, exists_const, exists_eq_right, binA, intA, loadA, storeA, pickC, setAt, mapO, argsE, X.isC, resA, oneA, unA, boundA, eqiA, eqsA, fillA, fillE, ASt.fz, strA, simprocAttr, e2, h0, e3, h1', e5, e6, q2, g3, hal, ints_len]
      exact EQ_in ⟨j + 1, by omega, e2, h0, e3, h1', next_ixv (by omega), by omega, take_eq hr g1 (by rw [f1, hxe])⟩
  · have q1 := dltf hge
    have hme := take_all hr (by omega) (by omega)
    have dd : decide (c = d) = true := decide_eq_true (by cases c; cases d; simp only at hf ht hme; rw [hf, ht, hme])
    simp only [↓wpre, wset, wcore, wext, ne_eq, if_true, if_false, exists_eq_left', true_implies, false_implies, exists_const, exists_eq_right, binA, intA, loadA, storeA, pickC, setAt, mapO, argsE, X.isC, resA, oneA, unA, boundA, eqiA, eqsA, fillA, fillE, ASt.fz, strA, simprocAttr, e2, h0, e3, h1', e5, q1, dd]
end Go.Proofs.Eng
