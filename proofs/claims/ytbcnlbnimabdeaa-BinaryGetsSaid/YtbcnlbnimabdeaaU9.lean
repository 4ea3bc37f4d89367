/- The reference reads an entry: parts. No conditions beyond those in the theorems. -/
import Derived.Test.YtbcnlbnimabdeaaU8
import Derived.Test.YtbcnlbnimabdeaaU4
import Derived.Test.YtbcnlbnimabdeaaT5
set_option linter.all false
set_option linter.deprecated false
set_option linter.unnecessarySimpa false
set_option linter.unusedVariables false
set_option linter.unusedSimpArgs false
set_option linter.defProp false
namespace Go.Proofs.Eng
open Go Go.Proofs
set_option maxRecDepth 100000
set_option maxHeartbeats 8000000
theorem Fl.comp {a b c : Bool} {G N G2 N2 G3 N3 : Prop} (h1 : Fl a b G N) (h2 : Fl b c G2 N2) (hg : G → G2 → G3) (hn : N → N3) (hn2 : G → N2 → N3) : Fl a c G3 N3 := by
  rcases h1 with ⟨rfl, rfl, g⟩ | ⟨rfl, h⟩
  · rcases h2 with ⟨_, rfl, g2⟩ | ⟨rfl, h2⟩
    · exact Or.inl ⟨rfl, rfl, hg g g2⟩
    · rcases h2 with h2 | h2
      · cases h2
      · exact Or.inr ⟨rfl, Or.inr (hn2 g h2)⟩
  · rcases h2 with ⟨h2, _⟩ | ⟨rfl, _⟩
    · cases h2
    · rcases h with h | h
      · exact Or.inr ⟨rfl, Or.inl h⟩
      · exact Or.inr ⟨rfl, Or.inr (hn h)⟩
theorem Fl.mono {a b : Bool} {G N G2 N2 : Prop} (h : Fl a b G N) (hg : G → G2) (hn : N → N2) : Fl a b G2 N2 := by
  rcases h with ⟨h1, h2, g⟩ | ⟨h1, h2⟩
  · exact Or.inl ⟨h1, h2, hg g⟩
  · exact Or.inr ⟨h1, h2.imp id hn⟩
theorem rtext_bad {i : Nat} {s : ByteArray} {p : Nat} {H : List AObj} {T : List Nat} (hi : H[i]? = some (rrd s p true)) : Sh md pfs 50 [.ptr i 0] ⟨H, T⟩ (fun v s' => v = .str ⟨#[]⟩ ∧ s' = ⟨H, T⟩) fun _ _ => False := by
  refine sh_of pf50_is (Nat.le_of_ble_eq_true rfl) ?_
  obtain ⟨_, _, ⟨rfl, rfl⟩, hc⟩ := (rnumber_bad (T := T) hi).callRet rfl
  have hs2 := set_self hi
  unfold rrd at hi hs2
  simp only [pf50, ↓wpre, wset, wcore, ne_eq, if_true, if_false, exists_eq_left', true_implies, false_implies, exists_const, exists_eq_right, binA, intA, loadA, storeA, pickC, setAt, mapO, argsE, X.isC, resA, oneA, unA, boundA, eqiA, eqsA, fillA, fillE, ASt.fz, strA, Nat.reduceEqDiff, Nat.reduceLT, ↓reduceIte, reduceCtorEq, Nat.reduceAdd, Nat.reduceLeDiff, Int.reduceBEq, Int.reduceBNe, Int.reduceLT, Int.reduceLE, Int.reduceGT, Int.reduceGE, Nat.reduceDiv, Nat.reduceMul, Nat.reduceBEq, Nat.reduceMod, Nat.reduceSub, hc, hi, hs2]
theorem rtext_u {i : Nat} {s : ByteArray} {p : Nat} {fl : Bool} {B H : List AObj} (hB : BR B H i (rrd s p fl)) (hp : p ≤ s.size) (hs : s.size ≤ capB) (Z : List AObj) (T : List Nat) :
    ∃ (a : List UInt8) (B' : List AObj) (q : Nat) (fl' : Bool), (∀ K KP, CW (run md pfs) md false ⟨B ++ Z, T⟩ 50 [.ptr i 0] K KP () = K (.str (strOf a)) ⟨B' ++ Z, T⟩) ∧ a.length ≤ s.size ∧ q ≤ s.size ∧ BR B' H i (rrd s q fl') ∧ Fl fl fl' (rText (s.toList.drop p) = some (a, s.toList.drop q) ∧ p ≤ q) (rText (s.toList.drop p) = none) := by
  cases fl with
  | true =>
    obtain ⟨_, _, ⟨rfl, rfl⟩, hc⟩ := (rtext_bad (T := T) (app_get_of hB.get Z)).callRet rfl
    exact ⟨[], B, p, true, hc, Nat.zero_le _, hp, hB, Or.inr ⟨rfl, Or.inl rfl⟩⟩
  | false =>
    obtain ⟨_, _, hq, hc⟩ := (rtext_sh (T := T) (app_get_of hB.get Z) hp hs).callRet rfl
    rcases hq with ⟨a, k, h1, h2, rfl, rfl⟩ | ⟨h1, k, rfl, rfl, hk⟩
    · rw [hB.app] at hc
      refine ⟨a, _, p + k, false, hc, ?_, h2, hB.up _, Or.inl ⟨rfl, rfl, by rw [getS_rText, h1]; simp, by omega⟩⟩
      unfold getS at h1
      obtain ⟨x, hx, h3⟩ := Option.bind_eq_some_iff.1 h1
      split at h3
      · cases h3
      · simp only [Option.some.injEq, Prod.mk.injEq] at h3
        rw [← h3.1, List.length_take, List.length_drop, List.length_drop, toList_len]; omega
    · rw [hB.app] at hc
      exact ⟨[], _, k, true, hc, Nat.zero_le _, hk, hB.up _, Or.inr ⟨rfl, Or.inr (by rw [getS_rText, h1]; rfl)⟩⟩
theorem rlevel_u {i : Nat} {s : ByteArray} {p : Nat} {fl : Bool} {B H : List AObj} (hB : BR B H i (rrd s p fl)) (hp : p ≤ s.size) (hs : s.size + 1 < capB) (Z : List AObj) (T : List Nat) :
    ∃ (l : Lv) (c : Int) (al : List AV) (t : Tl) (B' : List AObj) (q : Nat) (G : List AObj) (T' : List Nat) (fl' : Bool), (∀ K KP, CW (run md pfs) md false ⟨B ++ Z, T⟩ 63 [.ptr i 0] K KP () = K (.agg [.int c, .sl al t]) ⟨B' ++ (Z ++ G), T'⟩) ∧ l.Is (.agg [.int c, .sl al t]) ∧ q ≤ s.size ∧ BR B' H i (rrd s q fl') ∧ Keep T.length T T' ∧ Fl fl fl' (rLv (s.toList.drop p) = some (l, s.toList.drop q) ∧ p < q) (rLv (s.toList.drop p) = none) := by
  obtain ⟨v, _, ⟨l, B2, q, G, T', fl', h1, rfl, h3, h4, h5, h6⟩, hc⟩ := (rlevel_sh (T := T) (app_get_of hB.get Z) hp hs).callRet rfl
  obtain ⟨t, al, rfl, _⟩ := id h1
  rw [h4.eq, hB.app, List.append_assoc] at hc
  exact ⟨l, _, al, t, _, q, G, T', fl', hc, h1, h3, hB.up _, h5, h6⟩
theorem rsize_big (e : Tm) {a : AV} (h : e.Is a) (hk : ∀ x ∈ e.kids, x.sz ≤ 4096) (hb : 4096 < e.sz) : Out md pfs 55 [a, .int 4096] (fun v => ∃ n : Nat, v = .int n ∧ 4096 < n) fun _ => False := by
  obtain ⟨k, i, n, ls, kids⟩ := e
  obtain ⟨t1, t2, las, kas, rfl, g1, g2, g3, g4, g5, g6, g7, g8, g9⟩ := h.opn
  have hl2 := g9.len
  rw [Tm.sz] at hb
  simp only [Tm.kids] at hk
  refine out_of pf55_is (Nat.le_of_ble_eq_true rfl) ?_
  simp only [pf55, ↓wpre, wset, wcore, ne_eq, if_true, if_false, exists_eq_left', true_implies, false_implies, exists_const, exists_eq_right, binA, intA, loadA, storeA, pickC, setAt, mapO, argsE, X.isC, resA, oneA, unA, boundA, eqiA, eqsA, fillA, fillE, ASt.fz, strA, Nat.reduceEqDiff, Nat.reduceLT, ↓reduceIte, reduceCtorEq, Nat.reduceAdd, Nat.reduceLeDiff, Int.reduceBEq, Int.reduceBNe, Int.reduceLT, Int.reduceLE, Int.reduceGT, Int.reduceGE, Nat.reduceDiv, Nat.reduceMul, Nat.reduceBEq, Nat.reduceMod, Nat.reduceSub]
  refine W_loopE (fun j => kas.length - j) (fun j E H T => H = [.cells false [.int k, .int i, .str n, .sl las t1, .sl kas t2]] ∧ E 1 = .int 4096 ∧ E 2 = .ptr 0 0 ∧ E 6 = .int (j : Nat) ∧ j ≤ kas.length ∧ 1 + tszL (kids.take j) ≤ 8192 ∧ E 5 = .int ((1 + tszL (kids.take j) : Nat) : Int)) ?_ 0 ⟨rfl, rfl, rfl, rfl, Nat.zero_le _, by simp [tszL], rfl⟩
  rintro j E H T ⟨rfl, e1, e2, e6, hj, hle, e5⟩
  rcases Nat.lt_or_ge j kas.length with hlt | hge
  · have hdec : decide ((j : Int) < kas.length) = true := by simpa using hlt
    obtain ⟨x, c, d0, d1, d3, d4, d5, d6, d7, d8⟩ := g9.get tmAgg hlt
    obtain ⟨s1, s2⟩ := tsz_split d0
    have hall := g9.all tmAgg
    have hx := hk x d3
    cases b1 : decide (((1 + tszL (kids.take j) : Nat) : Int) ≤ 4096)
    · simp only [↓wpre, wset, wcore, ne_eq, if_true, if_false, exists_eq_left', true_implies, false_implies, exists_const, exists_eq_right, binA, intA, loadA, storeA, pickC, setAt, mapO, argsE, X.isC, resA, oneA, unA, boundA, eqiA, eqsA, fillA, fillE, ASt.fz, strA, Nat.reduceEqDiff, Nat.reduceLT, ↓reduceIte, reduceCtorEq, Nat.reduceAdd, Nat.reduceLeDiff, Int.reduceBEq, Int.reduceBNe, Int.reduceLT, Int.reduceLE, Int.reduceGT, Int.reduceGE, Nat.reduceDiv, Nat.reduceMul, Nat.reduceBEq, Nat.reduceMod, Nat.reduceSub, e1, e2, e5, e6, hdec, b1]
      exact ⟨_, rfl, by simp only [decide_eq_false_iff_not] at b1; omega⟩
    · have b1' : 1 + tszL (kids.take j) ≤ 4096 := by simp only [decide_eq_true_eq] at b1; omega
      obtain ⟨_, rfl, cv⟩ := (rsize_ret x (lim := 4096) d8 (by omega) (by omega)).call rfl (by simp [pvs_cons, pvs_nil, pv_v, tmPure _ d8])
      have w3 : IntKind.i64.wrap (((1 + tszL (kids.take j) : Nat) : Int) + (x.sz : Int)) = ((1 + tszL (kids.take (j + 1)) : Nat) : Int) := by rw [s1, wrap_in (by unfold in64; omega)]; omega
      simp only [↓wpre, wset, wcore, ne_eq, if_true, if_false, exists_eq_left', true_implies, false_implies, exists_const, exists_eq_right, binA, intA, loadA, storeA, pickC, setAt, mapO, argsE, X.isC, resA, oneA, unA, boundA, eqiA, eqsA, fillA, fillE, ASt.fz, strA, Nat.reduceEqDiff, Nat.reduceLT, ↓reduceIte, reduceCtorEq, Nat.reduceAdd, Nat.reduceLeDiff, Int.reduceBEq, Int.reduceBNe, Int.reduceLT, Int.reduceLE, Int.reduceGT, Int.reduceGE, Nat.reduceDiv, Nat.reduceMul, Nat.reduceBEq, Nat.reduceMod, Nat.reduceSub, e1, e2, e5, e6, hdec, d4, d5, d6, d7, hall, b1, cv, w3]
      exact EQ_in ⟨j + 1, by omega, rfl, e1, e2, next_ixv (by unfold lenB at *; omega), by omega, by rw [s1]; omega, rfl⟩
  · have hdec : decide ((j : Int) < kas.length) = false := by simpa using hge
    rw [List.take_of_length_le (by omega)] at e5
    simp only [↓wpre, wset, wcore, ne_eq, if_true, if_false, exists_eq_left', true_implies, false_implies, exists_const, exists_eq_right, binA, intA, loadA, storeA, pickC, setAt, mapO, argsE, X.isC, resA, oneA, unA, boundA, eqiA, eqsA, fillA, fillE, ASt.fz, strA, Nat.reduceEqDiff, Nat.reduceLT, ↓reduceIte, reduceCtorEq, Nat.reduceAdd, Nat.reduceLeDiff, Int.reduceBEq, Int.reduceBNe, Int.reduceLT, Int.reduceLE, Int.reduceGT, Int.reduceGE, Nat.reduceDiv, Nat.reduceMul, Nat.reduceBEq, Nat.reduceMod, Nat.reduceSub, e1, e2, e5, e6, hdec]
    exact ⟨_, rfl, hb⟩
theorem call_tm2 {f : FuncId} {k i n y : Value} {las kas : List AV} {t1 t2 : Tl} {PR : AV → Prop} (h : Out md pfs f [.agg [.v k, .v i, .v n, .sl las t1.strip, .sl kas t2.strip], .v y] PR fun _ => False) (hm : md f = .pure) (h1 : pureAVs las = true) (h2 : pureAVs kas = true) (s : ASt) : ∃ v, PR v ∧ ∀ K KP, CW (run md pfs) md false s f [.agg [.v k, .v i, .v n, .sl las t1, .sl kas t2], .v y] K KP () = K v s := by
  obtain ⟨v, hv, hc⟩ := h.callP (s := s) (args := [.agg [.v k, .v i, .v n, .sl las t1, .sl kas t2], .v y]) hm (by simp only [mapO, pz_tm h1 h2, purify_pure (n := 19) (pv_v (x := y))])
  refine ⟨v, hv, fun K KP => ?_⟩
  rw [hc, List.foldl_cons, List.foldl_cons, List.foldl_nil, fr_tm h1 h2, fr_pure pv_v]
end Go.Proofs.Eng
