/- F1: what functions of the program return. No conditions beyond those in the theorems. -/
import Derived.Test.YtfopdknkbnhlkaaD55
set_option linter.all false
set_option linter.deprecated false
set_option linter.unnecessarySimpa false
set_option linter.unusedVariables false
set_option linter.unusedSimpArgs false
set_option linter.defProp false
namespace Go.Proofs.Eng
open Go Go.Proofs
set_option maxRecDepth 100000
set_option maxHeartbeats 4000000
theorem same_ret (e : Ex) : ∀ {a b}, e.Is a → e.Is b → Out md pfs 17 [a, b] (· = .bool true) fun _ => False := by
  induction e using Ex.ind with
  | h k i n s kids ih =>
  intro a b h h'
  obtain ⟨t1, t2, kas, rfl, g1, g2, g3, g4, g5, g6⟩ := h.opn
  obtain ⟨u1, u2, kbs, rfl, q1, q2, q3, q4, q5, q6⟩ := h'.opn
  have hlen : kbs.length = kas.length := by rw [g6.len, q6.len]
  refine out_of pf17_is (Nat.le_of_ble_eq_true rfl) ?_
  simp only [pf17, ↓wpre, wset, wcore, ne_eq, if_true, if_false, exists_eq_left', true_implies, false_implies, exists_const, exists_eq_right, binA, intA, loadA, storeA, pickC, setAt, mapO, argsE, X.isC, resA, oneA, unA, boundA, eqiA, eqsA, fillA, fillE, ASt.fz, strA, Nat.reduceEqDiff, Nat.reduceLT, ↓reduceIte, reduceCtorEq, Nat.reduceAdd, Nat.reduceLeDiff, Int.reduceBEq, Int.reduceBNe, Int.reduceLT, Int.reduceLE, Int.reduceGT, Int.reduceGE, Nat.reduceDiv, Nat.reduceMul, ints_len, hlen]
  refine W_loopE (fun j => s.length - j) (fun j E H T => H = [.cells false [.int k, .int i, .str n, .sl (ints s) t1, .sl kas t2], .cells false [.int k, .int i, .str n, .sl (ints s) u1, .sl kbs u2]] ∧ E 2 = .ptr 0 0 ∧ E 3 = .ptr 1 0 ∧ E 5 = .int j ∧ j ≤ s.length) ?_ 0 ⟨rfl, rfl, rfl, rfl, Nat.zero_le _⟩
  rintro j E H T ⟨rfl, e2, e3, e5, hj⟩
  rcases Nat.lt_or_ge j s.length with hlt | hge
  · obtain ⟨x, d0, d1, d2⟩ := ints_get hlt
    have hdec : decide ((j : Int) < s.length) = true := by simpa using hlt
    simp only [↓wpre, wset, wcore, ne_eq, if_true, if_false, exists_eq_left', true_implies, false_implies, exists_const, exists_eq_right, binA, intA, loadA, storeA, pickC, setAt, mapO, argsE, X.isC, resA, oneA, unA, boundA, eqiA, eqsA, fillA, fillE, ASt.fz, strA, Nat.reduceEqDiff, Nat.reduceLT, ↓reduceIte, reduceCtorEq, Nat.reduceAdd, Nat.reduceLeDiff, Int.reduceBEq, Int.reduceBNe, Int.reduceLT, Int.reduceLE, Int.reduceGT, Int.reduceGE, Nat.reduceDiv, Nat.reduceMul, e2, e3, e5, hdec, ints_len, ints_all, d2]
    exact EQ_in ⟨j + 1, by omega, rfl, e2, e3, next_ixv (by omega), by omega⟩
  · have hdec : decide ((j : Int) < s.length) = false := by simpa using hge
    simp only [↓wpre, wset, wcore, ne_eq, if_true, if_false, exists_eq_left', true_implies, false_implies, exists_const, exists_eq_right, binA, intA, loadA, storeA, pickC, setAt, mapO, argsE, X.isC, resA, oneA, unA, boundA, eqiA, eqsA, fillA, fillE, ASt.fz, strA, Nat.reduceEqDiff, Nat.reduceLT, ↓reduceIte, reduceCtorEq, Nat.reduceAdd, Nat.reduceLeDiff, Int.reduceBEq, Int.reduceBNe, Int.reduceLT, Int.reduceLE, Int.reduceGT, Int.reduceGE, Nat.reduceDiv, Nat.reduceMul, e2, e3, e5, hdec, ints_len]
    clear e5 hj hge hdec
    refine W_loopE (fun j => kas.length - j) (fun j E H T => H = [.cells false [.int k, .int i, .str n, .sl (ints s) t1, .sl kas t2], .cells false [.int k, .int i, .str n, .sl (ints s) u1, .sl kbs u2]] ∧ E 2 = .ptr 0 0 ∧ E 3 = .ptr 1 0 ∧ E 6 = .int j ∧ j ≤ kas.length) ?_ 0 ⟨rfl, e2, e3, rfl, Nat.zero_le _⟩
    clear e2 e3 E T j
    rintro j E H T ⟨rfl, e2, e3, e6, hj⟩
    rcases Nat.lt_or_ge j kas.length with hlt | hge
    · obtain ⟨x, c, d0, d1, d3, d4, d5, d6, d7, d8⟩ := g6.get exAgg hlt
      obtain ⟨y, c', f0, f1, f3, f4, f5, f6, f7, f8⟩ := q6.get exAgg (i := j) (by omega)
      rw [d0] at f0; cases f0
      have hdec : decide ((j : Int) < kas.length) = true := by simpa using hlt
      have hall := g6.all exAgg
      have hall2 := q6.all exAgg
      obtain ⟨_, rfl, cr⟩ := (ih x d3 d8 f8).call rfl (by simp [pvs_cons, pvs_nil, exPure _ d8, exPure _ f8])
      simp only [↓wpre, wset, wcore, ne_eq, if_true, if_false, exists_eq_left', true_implies, false_implies, exists_const, exists_eq_right, binA, intA, loadA, storeA, pickC, setAt, mapO, argsE, X.isC, resA, oneA, unA, boundA, eqiA, eqsA, fillA, fillE, ASt.fz, strA, Nat.reduceEqDiff, Nat.reduceLT, ↓reduceIte, reduceCtorEq, Nat.reduceAdd, Nat.reduceLeDiff, Int.reduceBEq, Int.reduceBNe, Int.reduceLT, Int.reduceLE, Int.reduceGT, Int.reduceGE, Nat.reduceDiv, Nat.reduceMul, e2, e3, e6, hdec, d4, d5, d6, f4, f5, f6, hall, hall2, cr]
      exact EQ_in ⟨j + 1, by omega, rfl, e2, e3, next_ixv (by omega), by omega⟩
    · have hdec : decide ((j : Int) < kas.length) = false := by simpa using hge
      simp only [↓wpre, wset, wcore, ne_eq, if_true, if_false, exists_eq_left', true_implies, false_implies, exists_const, exists_eq_right, binA, intA, loadA, storeA, pickC, setAt, mapO, argsE, X.isC, resA, oneA, unA, boundA, eqiA, eqsA, fillA, fillE, ASt.fz, strA, Nat.reduceEqDiff, Nat.reduceLT, ↓reduceIte, reduceCtorEq, Nat.reduceAdd, Nat.reduceLeDiff, Int.reduceBEq, Int.reduceBNe, Int.reduceLT, Int.reduceLE, Int.reduceGT, Int.reduceGE, Nat.reduceDiv, Nat.reduceMul, e2, e3, e6, hdec]
theorem node_ret (k : Int) {kids : List Ex} {kas : List AV} {t : Tl} (hk : LIs Ex.Is kids kas) (ht : t.pure = true) (hl : kas.length ≤ lenB) : Out md pfs 33 [.int k, .sl kas t] (fun v => (Ex.mk k 0 ⟨#[]⟩ [] kids).Is v) fun _ => False := by
  refine out_of pf33_is (Nat.le_of_ble_eq_true rfl) ?_
  simp only [pf33, ↓wpre, wset, wcore, ne_eq, if_true, if_false, exists_eq_left', true_implies, false_implies, exists_const, exists_eq_right, binA, intA, loadA, storeA, pickC, setAt, mapO, argsE, X.isC, resA, oneA, unA, boundA, eqiA, eqsA, fillA, fillE, ASt.fz, strA, Nat.reduceEqDiff, Nat.reduceLT, ↓reduceIte, reduceCtorEq, Nat.reduceAdd, Nat.reduceLeDiff, Int.reduceBEq, Int.reduceBNe, Int.reduceLT, Int.reduceLE, Int.reduceGT, Int.reduceGE, Nat.reduceDiv, Nat.reduceMul, exsPure hk, ht]
  exact Ex.Is.mk (s := []) rfl ht ⟨by unfold in64; omega, Nat.zero_le _⟩ (by simp) hl hk
theorem lvar_ret {i : Int} (h : in64 i) : Out md pfs 34 [.int i] (fun v => (Ex.var i).Is v) fun _ => False := by
  refine out_of pf34_is (Nat.le_of_ble_eq_true rfl) ?_
  simp only [pf34, ↓wpre, wset, wcore, ne_eq, if_true, if_false, exists_eq_left', true_implies, false_implies, exists_const, exists_eq_right, binA, intA, loadA, storeA, pickC, setAt, mapO, argsE, X.isC, resA, oneA, unA, boundA, eqiA, eqsA, fillA, fillE, ASt.fz, strA, Nat.reduceEqDiff, Nat.reduceLT, ↓reduceIte, reduceCtorEq, Nat.reduceAdd, Nat.reduceLeDiff, Int.reduceBEq, Int.reduceBNe, Int.reduceLT, Int.reduceLE, Int.reduceGT, Int.reduceGE, Nat.reduceDiv, Nat.reduceMul]
  exact varIs h
theorem ctor_ret {nm : ByteArray} {i : Int} (hn : nm.size ≤ lenB) (hi : in64 i) {kids : List Ex} {kas : List AV} {t : Tl} (hk : LIs Ex.Is kids kas) (ht : t.pure = true) (hl : kas.length ≤ lenB) : Out md pfs 58 [.str nm, .int i, .sl kas t] (fun v => (Ex.mk 3 i nm [] kids).Is v) fun _ => False := by
  refine out_of pf58_is (Nat.le_of_ble_eq_true rfl) ?_
  simp only [pf58, ↓wpre, wset, wcore, ne_eq, if_true, if_false, exists_eq_left', true_implies, false_implies, exists_const, exists_eq_right, binA, intA, loadA, storeA, pickC, setAt, mapO, argsE, X.isC, resA, oneA, unA, boundA, eqiA, eqsA, fillA, fillE, ASt.fz, strA, Nat.reduceEqDiff, Nat.reduceLT, ↓reduceIte, reduceCtorEq, Nat.reduceAdd, Nat.reduceLeDiff, Int.reduceBEq, Int.reduceBNe, Int.reduceLT, Int.reduceLE, Int.reduceGT, Int.reduceGE, Nat.reduceDiv, Nat.reduceMul, exsPure hk, ht]
  exact Ex.Is.mk (s := []) rfl ht ⟨hi, hn⟩ (by simp) hl hk
def zeroN : ByteArray := ⟨#[122, 101, 114, 111]⟩
def succN : ByteArray := ⟨#[115, 117, 99, 99]⟩
def plusN : ByteArray := ⟨#[112, 108, 117, 115]⟩
def Ex.num : Nat → Ex
  | 0 => .mk 3 0 zeroN [] []
  | n + 1 => .mk 3 1 succN [] [Ex.num n]
theorem num_ret {n : Nat} (hn : n ≤ 1000000) : Out md pfs 26 [.int n] (fun v => (Ex.num n).Is v) fun _ => False := by
  refine out_of pf26_is (Nat.le_of_ble_eq_true rfl) ?_
  obtain ⟨v, hv, hc⟩ := (ctor_ret (nm := zeroN) (i := 0) (by decide) (by unfold in64; omega) (kids := []) (kas := []) (t := .nil) trivial rfl (by simp)).call rfl (by simp [pvs_cons, pvs_nil, pv_v, pv_sl, tp_nil])
  obtain ⟨c, rfl, l1, l2⟩ := exAgg.cells hv
  rw [show zeroN = ⟨#[122, 101, 114, 111]⟩ from rfl] at hc
  simp only [pf26, ↓wpre, wset, wcore, ne_eq, if_true, if_false, exists_eq_left', true_implies, false_implies, exists_const, exists_eq_right, binA, intA, loadA, storeA, pickC, setAt, mapO, argsE, X.isC, resA, oneA, unA, boundA, eqiA, eqsA, fillA, fillE, ASt.fz, strA, Nat.reduceEqDiff, Nat.reduceLT, ↓reduceIte, reduceCtorEq, Nat.reduceAdd, Nat.reduceLeDiff, Int.reduceBEq, Int.reduceBNe, Int.reduceLT, Int.reduceLE, Int.reduceGT, Int.reduceGE, Nat.reduceDiv, Nat.reduceMul, hc, l1, l2]
  refine W_loopE (fun j => n - j) (fun j E H T => ∃ c, H = [.cells false [.int 0, .int 0, .str ⟨#[]⟩, .sl [] .nil, .sl [] .nil], .cells false c] ∧ E 2 = .ptr 0 0 ∧ E 3 = .ptr 1 0 ∧ E 5 = .int n ∧ E 6 = .int j ∧ j ≤ n ∧ (Ex.num j).Is (.agg c)) ?_ 0 ⟨c, rfl, rfl, rfl, rfl, rfl, Nat.zero_le _, hv⟩
  clear hc hv l1 l2 c
  rintro j E H T ⟨c, rfl, e2, e3, e5, e6, hj, hv⟩
  obtain ⟨c', e, l1, l2⟩ := exAgg.cells hv
  cases e
  have l3 : c.take 5 = c := List.take_of_length_le (by omega)
  rcases Nat.lt_or_ge j n with hlt | hge
  · have hdec : decide ((j : Int) < n) = true := by simpa using hlt
    obtain ⟨w, hw, hc⟩ := (ctor_ret (nm := succN) (i := 1) (by decide) (by unfold in64; omega) (kids := [Ex.num j]) (kas := [.agg c]) (t := .cap 1) ⟨hv, trivial⟩ rfl (by unfold lenB; simp)).call rfl (by simp [pvs_cons, pvs_nil, pv_v, pv_sl, tp_cap, exPure _ hv])
    obtain ⟨cw, rfl, w1, w2⟩ := exAgg.cells hw
    rw [show succN = ⟨#[115, 117, 99, 99]⟩ from rfl] at hc
    simp only [↓wpre, wset, wcore, ne_eq, if_true, if_false, exists_eq_left', true_implies, false_implies, exists_const, exists_eq_right, binA, intA, loadA, storeA, pickC, setAt, mapO, argsE, X.isC, resA, oneA, unA, boundA, eqiA, eqsA, fillA, fillE, ASt.fz, strA, Nat.reduceEqDiff, Nat.reduceLT, ↓reduceIte, reduceCtorEq, Nat.reduceAdd, Nat.reduceLeDiff, Int.reduceBEq, Int.reduceBNe, Int.reduceLT, Int.reduceLE, Int.reduceGT, Int.reduceGE, Nat.reduceDiv, Nat.reduceMul, e2, e3, e5, e6, hdec, l1, l3, hc, w1, w2]
    exact EQ_in ⟨j + 1, by omega, cw, by rw [List.drop_of_length_le (by omega), List.append_nil], e2, e3, e5, next_ixv (by unfold lenB; omega), by omega, hw⟩
  · have hdec : decide ((j : Int) < n) = false := by simpa using hge
    have : j = n := by omega
    subst this
    simp only [↓wpre, wset, wcore, ne_eq, if_true, if_false, exists_eq_left', true_implies, false_implies, exists_const, exists_eq_right, binA, intA, loadA, storeA, pickC, setAt, mapO, argsE, X.isC, resA, oneA, unA, boundA, eqiA, eqsA, fillA, fillE, ASt.fz, strA, Nat.reduceEqDiff, Nat.reduceLT, ↓reduceIte, reduceCtorEq, Nat.reduceAdd, Nat.reduceLeDiff, Int.reduceBEq, Int.reduceBNe, Int.reduceLT, Int.reduceLE, Int.reduceGT, Int.reduceGE, Nat.reduceDiv, Nat.reduceMul, e2, e3, e5, e6, hdec, l1, l2, l3, exPure _ hv]
    exact hv
end Go.Proofs.Eng
