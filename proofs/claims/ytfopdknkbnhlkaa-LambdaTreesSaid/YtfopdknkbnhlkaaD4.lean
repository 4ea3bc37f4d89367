/- D4: what functions of the program return. No conditions beyond those in the theorems. -/
import Derived.Test.YtfopdknkbnhlkaaD3
import Derived.Test.YtfopdknkbnhlkaaA8
set_option linter.all false
set_option linter.deprecated false
set_option linter.unnecessarySimpa false
set_option linter.unusedVariables false
set_option linter.unusedSimpArgs false
set_option linter.defProp false
namespace Go.Proofs.Eng
open Go Go.Proofs
set_option maxRecDepth 100000
set_option maxHeartbeats 4000000
theorem AppF.keep {n : Nat} {T T' : List Nat} {l : List AV} {t : Tl} (h : AppF n T l t) (hk : Keep T.length T T') : AppF n T' l t := by
  rcases h with h | ⟨hne, id, ver, h1, h2, h3⟩
  · exact .inl h
  · refine .inr ⟨hne, id, ver, h1, h2, ?_⟩
    rw [hk.2 id (List.getElem?_eq_some_iff.1 h3).1]; exact h3
theorem Keep.trans {n m : Nat} {T T' T'' : List Nat} (h : Keep n T T') (h' : Keep m T' T'') (hm : n ≤ m) : Keep n T T'' :=
  ⟨by have := h'.1; omega, fun i hi => by rw [h'.2 i (by omega), h.2 i hi]⟩
theorem Keep.refl (T : List Nat) : Keep T.length T T := ⟨Nat.le_refl _, fun _ _ => rfl⟩
def More2 (H : List AObj) (T : List Nat) (s : ASt) : Prop := ∃ G T', s = ⟨H ++ G, T'⟩ ∧ Keep T.length T T'
theorem data1_sh (ci fi : Nat) (fz fz' : Bool) (e : Ex) : ∀ {a H0 T0}, e.Is a → H0[ci]? = some (.cells fz tabL) → H0[fi]? = some (.cells fz' [.fn 59 [.ptr ci 0, .ptr fi 0]]) →
    Sh md pfs 59 [a, .ptr ci 0, .ptr fi 0] ⟨H0, T0⟩ (fun v s' => DatR e.data v ∧ More2 H0 T0 s') (fun _ _ => False) := by
  induction e using Ex.ind with
  | h k i n s kids ih =>
  intro a H0 T0 h hc0 hf0
  have hep := exPure _ h
  have tlp : pureAVs tabL = true := by decide
  obtain ⟨_, rfl, cf⟩ := (formed_ret h).call rfl (by simp [pvs_cons, pvs_nil, pv_agg, tlp, hep])
  obtain ⟨t1, t2, kas, rfl, g1, g2, g3, g4, g5, g6⟩ := h.opn
  obtain ⟨_, rfl, cn⟩ := (name_ret n g3.2).call rfl (by simp [pvs_cons, pvs_nil, pv_v])
  rw [show Ex.fm (.mk k i n s kids) = fmB k i n s kids.length from rfl] at cf
  have hc := app_get_of hc0
  have hf' := app_get_of hf0
  have tl1 : tabL.length = 12 := rfl
  have tl2 : tabL.take 12 = tabL := rfl
  refine sh_of pf59_is (Nat.le_of_ble_eq_true rfl) ?_
  have hno : ∀ G, ¬ (k = 3 ∧ fmB k i n s kids.length = true ∧ isName n = true) → DatR (Ex.data (.mk k i n s kids)) (.tup [.agg [.str ⟨#[]⟩, .sl [] .nil], .bool false]) ∧ More2 H0 T0 ⟨H0 ++ G, T0⟩ := fun G q => by
    rw [Ex.data, if_neg q]; exact ⟨⟨_, rfl, zeroDt⟩, _, _, rfl, Keep.refl _⟩
  cases k3 : (k != 3)
  case true =>
    simp only [pf59, ↓wpre, wset, wcore, ne_eq, if_true, if_false, exists_eq_left', true_implies, false_implies, exists_const, exists_eq_right, binA, intA, loadA, storeA, pickC, setAt, mapO, argsE, X.isC, resA, oneA, unA, boundA, eqiA, eqsA, fillA, fillE, ASt.fz, strA, Nat.reduceEqDiff, Nat.reduceLT, ↓reduceIte, reduceCtorEq, Nat.reduceAdd, Nat.reduceLeDiff, Int.reduceBEq, Int.reduceBNe, Int.reduceLT, Int.reduceLE, Int.reduceGT, Int.reduceGE, Nat.reduceDiv, Nat.reduceMul, List.length_append, List.append_assoc, app_get_len, app_get_add, app_set_len, app_set_add, hc, hf', k3]
    exact hno _ (by rintro ⟨q, _⟩; simp [q] at k3)
  cases hf : fmB k i n s kids.length
  · simp only [pf59, ↓wpre, wset, wcore, ne_eq, if_true, if_false, exists_eq_left', true_implies, false_implies, exists_const, exists_eq_right, binA, intA, loadA, storeA, pickC, setAt, mapO, argsE, X.isC, resA, oneA, unA, boundA, eqiA, eqsA, fillA, fillE, ASt.fz, strA, Nat.reduceEqDiff, Nat.reduceLT, ↓reduceIte, reduceCtorEq, Nat.reduceAdd, Nat.reduceLeDiff, Int.reduceBEq, Int.reduceBNe, Int.reduceLT, Int.reduceLE, Int.reduceGT, Int.reduceGE, Nat.reduceDiv, Nat.reduceMul, List.length_append, List.append_assoc, app_get_len, app_get_add, app_set_len, app_set_add, hc, hf', tl1, tl2, k3, cf, hf]
    exact hno _ (by rw [hf]; rintro ⟨_, q, _⟩; cases q)
  cases hn : isName n
  · simp only [pf59, ↓wpre, wset, wcore, ne_eq, if_true, if_false, exists_eq_left', true_implies, false_implies, exists_const, exists_eq_right, binA, intA, loadA, storeA, pickC, setAt, mapO, argsE, X.isC, resA, oneA, unA, boundA, eqiA, eqsA, fillA, fillE, ASt.fz, strA, Nat.reduceEqDiff, Nat.reduceLT, ↓reduceIte, reduceCtorEq, Nat.reduceAdd, Nat.reduceLeDiff, Int.reduceBEq, Int.reduceBNe, Int.reduceLT, Int.reduceLE, Int.reduceGT, Int.reduceGE, Nat.reduceDiv, Nat.reduceMul, List.length_append, List.append_assoc, app_get_len, app_get_add, app_set_len, app_set_add, hc, hf', tl1, tl2, k3, cf, hf, cn, hn]
    exact hno _ (by rw [hn]; rintro ⟨_, _, q⟩; cases q)
  have hyes : Ex.data (.mk k i n s kids) = (dataL kids).map (Dt.mk n) := by rw [Ex.data, if_pos ⟨by simpa using k3, hf, hn⟩]
  have hff := fm_facts hf
  have hkl : kids.length ≤ 4096 := hff.2.2.2.2.1
  have hkl2 := g6.len
  rw [hyes]
  simp only [pf59, ↓wpre, wset, wcore, ne_eq, if_true, if_false, exists_eq_left', true_implies, false_implies, exists_const, exists_eq_right, binA, intA, loadA, storeA, pickC, setAt, mapO, argsE, X.isC, resA, oneA, unA, boundA, eqiA, eqsA, fillA, fillE, ASt.fz, strA, Nat.reduceEqDiff, Nat.reduceLT, ↓reduceIte, reduceCtorEq, Nat.reduceAdd, Nat.reduceLeDiff, Int.reduceBEq, Int.reduceBNe, Int.reduceLT, Int.reduceLE, Int.reduceGT, Int.reduceGE, Nat.reduceDiv, Nat.reduceMul, List.length_append, List.append_assoc, app_get_len, app_get_add, app_set_len, app_set_add, hc, hf', tl1, tl2, k3, cf, hf, cn, hn]
  refine W_loopE (fun j => kas.length - j) (fun j E H T => ∃ G ds das t, H = H0 ++ (.cells false [.int k, .int i, .str n, .sl (ints s) t1, .sl kas t2] :: .cells false [.str ⟨#[]⟩, .sl [] .nil] :: .cells false [.str n, .sl das t] :: G) ∧
    E 1 = .ptr ci 0 ∧ E 2 = .ptr fi 0 ∧ E 3 = .ptr H0.length 0 ∧ E 4 = .ptr (H0.length + 1) 0 ∧ E 6 = .ptr (H0.length + 2) 0 ∧ E 31 = .sl kas t2 ∧ E 32 = .int kas.length ∧ E 33 = .int j ∧ j ≤ kas.length ∧ AppF T0.length T das t ∧ das.length = j ∧ LIs Dt.Is ds das ∧ dataL kids = datGo ds (kids.drop j) ∧ Keep T0.length T0 T) ?_ 0 ⟨[], [], [], .nil, rfl, rfl, rfl, rfl, rfl, rfl, rfl, rfl, rfl, Nat.zero_le _, .inl ⟨rfl, rfl⟩, rfl, trivial, by simp [datGo], Keep.refl _⟩
  rintro j E H T ⟨G, ds, das, t, rfl, e1, e2, e3, e4, e6, e31, e32, e33, hj, hA, hdl, hds, hgo, hk⟩
  rcases Nat.lt_or_ge j kas.length with hlt | hge
  · obtain ⟨y, c, d0, d1, d3, d4, d5, d6, d7, d8⟩ := g6.get exAgg hlt
    have hdec : decide ((j : Int) < kas.length) = true := by simpa using hlt
    have hall := g6.all exAgg
    rw [d1] at hgo
    rcases (ih y d3 (H0 := H0 ++ (.cells false [.int k, .int i, .str n, .sl (ints s) t1, .sl kas t2] :: .cells false [.str ⟨#[]⟩, .sl [] .nil] :: .cells false [.str n, .sl das t] :: (G ++ [.cells false c]))) (T0 := T) d8 (app_get_of hc0 _) (app_get_of hf0 _)).call rfl with ⟨_, _, ⟨⟨ad, rfl, hd⟩, G2, T2, rfl, hk2⟩, cr⟩ | ⟨_, _, hF, _⟩
    · obtain ⟨cd, rfl, q1, q2⟩ := dtAgg.cells hd
      have q3 : cd.take 2 = cd := List.take_of_length_le (by omega)
      cases hy : y.data with
      | none =>
        rw [hy] at cr
        simp only [Option.isSome_none, List.append_assoc, List.cons_append] at cr
        simp only [↓wpre, wset, wcore, ne_eq, if_true, if_false, exists_eq_left', true_implies, false_implies, exists_const, exists_eq_right, binA, intA, loadA, storeA, pickC, setAt, mapO, argsE, X.isC, resA, oneA, unA, boundA, eqiA, eqsA, fillA, fillE, ASt.fz, strA, Nat.reduceEqDiff, Nat.reduceLT, ↓reduceIte, reduceCtorEq, Nat.reduceAdd, Nat.reduceLeDiff, Int.reduceBEq, Int.reduceBNe, Int.reduceLT, Int.reduceLE, Int.reduceGT, Int.reduceGE, Nat.reduceDiv, Nat.reduceMul, List.length_append, List.append_assoc, app_get_len, app_get_add, app_set_len, app_set_add, e1, e2, e3, e4, e6, e31, e32, e33, hc, hf', hdec, d4, d5, d6, d7, hall, cr, q1, q2]
        rw [hgo, datGo_none hy]
        exact ⟨⟨_, rfl, zeroDt⟩, _, _, rfl, hk.trans hk2 hk.1⟩
      | some d =>
        rw [hy] at cr hd
        simp only [Option.isSome_some, List.append_assoc, List.cons_append] at cr
        simp only [Option.getD_some] at hd
        obtain ⟨t', T', hap, hA', hk3⟩ := app_oneF (n := T0.length) (by have := hk.1; have := hk2.1; omega) (hA.keep hk2) (by unfold capB; omega) (hds.all dtAgg) (x := .agg cd) q1 q2
        simp only [↓wpre, wset, wcore, ne_eq, if_true, if_false, exists_eq_left', true_implies, false_implies, exists_const, exists_eq_right, binA, intA, loadA, storeA, pickC, setAt, mapO, argsE, X.isC, resA, oneA, unA, boundA, eqiA, eqsA, fillA, fillE, ASt.fz, strA, Nat.reduceEqDiff, Nat.reduceLT, ↓reduceIte, reduceCtorEq, Nat.reduceAdd, Nat.reduceLeDiff, Int.reduceBEq, Int.reduceBNe, Int.reduceLT, Int.reduceLE, Int.reduceGT, Int.reduceGE, Nat.reduceDiv, Nat.reduceMul, List.length_append, List.append_assoc, app_get_len, app_get_add, app_set_len, app_set_add, e1, e2, e3, e4, e6, e31, e32, e33, hc, hf', hdec, d4, d5, d6, d7, hall, cr, q1, q2, q3, hap]
        exact EQ_in ⟨j + 1, by omega, _, ds ++ [d], das ++ [.agg cd], t', rfl, e1, e2, e3, e4, e6, e31, e32, next_ixv (by omega), by omega, hA', by simp [hdl], hds.append (LIs.one hd), by rw [hgo, datGo_cons hy], (hk.trans hk2 hk.1).trans hk3 (Nat.le_refl _)⟩
    · exact hF.elim
  · have hdec : decide ((j : Int) < kas.length) = false := by simpa using hge
    rw [List.drop_eq_nil_of_le (by omega), datGo_nil] at hgo
    obtain ⟨t', ht', hap⟩ := app_purify (s := ⟨H0 ++ (.cells false [.int k, .int i, .str n, .sl (ints s) t1, .sl kas t2] :: .cells false [.str n, .sl das t] :: .cells false [.str n, .sl das t] :: G), T⟩) hA.app (dtsPure hds) (n := 18) (by omega)
    simp only [↓wpre, wset, wcore, ne_eq, if_true, if_false, exists_eq_left', true_implies, false_implies, exists_const, exists_eq_right, binA, intA, loadA, storeA, pickC, setAt, mapO, argsE, X.isC, resA, oneA, unA, boundA, eqiA, eqsA, fillA, fillE, ASt.fz, strA, Nat.reduceEqDiff, Nat.reduceLT, ↓reduceIte, reduceCtorEq, Nat.reduceAdd, Nat.reduceLeDiff, Int.reduceBEq, Int.reduceBNe, Int.reduceLT, Int.reduceLE, Int.reduceGT, Int.reduceGE, Nat.reduceDiv, Nat.reduceMul, List.length_append, List.append_assoc, app_get_len, app_get_add, app_set_len, app_set_add, e1, e2, e3, e4, e6, e31, e32, e33, hdec, pz_dt hap]
    rw [hgo]
    rw [fr_sl (dtsPure hds), ite_self, ite_self]
    exact ⟨⟨_, rfl, Dt.Is.mk ht' g3.2 (by omega) hds⟩, _, T, rfl, hk⟩
theorem Data_ret {e : Ex} {a : AV} (h : e.Is a) : Out md pfs 28 [a] (DatR e.data) fun _ => False := by
  have hep := exPure _ h
  obtain ⟨_, rfl, ct⟩ := checks_ret.call rfl (by simp [pvs_nil])
  obtain ⟨ce, rfl, l1, l2⟩ := exAgg.cells h
  have l3 : ce.take 5 = ce := List.take_of_length_le (by omega)
  have tl1 : tabL.length = 12 := rfl
  have tl2 : tabL.take 12 = tabL := rfl
  have tl3 : (tabL.all oneCell) = true := rfl
  refine out_of pf28_is (Nat.le_of_ble_eq_true rfl) ?_
  rcases (data1_sh 2 3 false false e (H0 := [.cells false ce, .cells false [.str ⟨#[]⟩, .sl [] .nil], .cells false tabL, .cells false [.fn 59 [.ptr 2 0, .ptr 3 0]]]) (T0 := []) h rfl rfl).call rfl with ⟨_, _, ⟨⟨ad, rfl, hd⟩, G2, T2, rfl, hk2⟩, cr⟩ | ⟨_, _, hF, _⟩
  · obtain ⟨cd, rfl, q1, q2⟩ := dtAgg.cells hd
    have q3 : cd.take 2 = cd := List.take_of_length_le (by omega)
    simp only [pf28, ↓wpre, wset, wcore, ne_eq, if_true, if_false, exists_eq_left', true_implies, false_implies, exists_const, exists_eq_right, binA, intA, loadA, storeA, pickC, setAt, mapO, argsE, X.isC, resA, oneA, unA, boundA, eqiA, eqsA, fillA, fillE, ASt.fz, strA, Nat.reduceEqDiff, Nat.reduceLT, ↓reduceIte, reduceCtorEq, Nat.reduceAdd, Nat.reduceLeDiff, Int.reduceBEq, Int.reduceBNe, Int.reduceLT, Int.reduceLE, Int.reduceGT, Int.reduceGE, Nat.reduceDiv, Nat.reduceMul, List.length_append, List.append_assoc, app_get_len, app_get_add, app_set_len, app_set_add, ct, tl1, tl2, tl3, l1, l2, l3, cr, q1, q2, q3, dtPure _ hd]
    exact ⟨_, rfl, hd⟩
  · exact hF.elim
mutual
def Dt.flat : Int → Dt → Option Int
  | m, .mk c l => if decide (m ≤ 0) = true then none else if decide ((c.size : Int) > 80) = true then none else flatL (w64 (m - 1)) l
def flatL : Int → List Dt → Option Int
  | m, [] => some m
  | m, d :: ds => match Dt.flat m d with
    | none => none
    | some m' => flatL m' ds
end
theorem flat_ret (e : Dt) : ∀ {a nodes}, e.Is a → Out md pfs 31 [a, .int nodes] (· = smallAV (e.flat nodes)) fun _ => False := by
  induction e using Dt.ind with
  | h n kids ih =>
  intro a nodes h
  obtain ⟨t2, kas, rfl, g2, g3, g5, g6⟩ := h.opn
  refine out_of pf31_is (Nat.le_of_ble_eq_true rfl) ?_
  simp only [Dt.flat]
  cases c1 : decide (nodes ≤ 0)
  · cases c3 : decide ((n.size : Int) > 80)
    · simp only [pf31, ↓wpre, wset, wcore, ne_eq, if_true, if_false, exists_eq_left', true_implies, false_implies, exists_const, exists_eq_right, binA, intA, loadA, storeA, pickC, setAt, mapO, argsE, X.isC, resA, oneA, unA, boundA, eqiA, eqsA, fillA, fillE, ASt.fz, strA, Nat.reduceEqDiff, Nat.reduceLT, ↓reduceIte, reduceCtorEq, Nat.reduceAdd, Nat.reduceLeDiff, Int.reduceBEq, Int.reduceBNe, Int.reduceLT, Int.reduceLE, Int.reduceGT, Int.reduceGE, Nat.reduceDiv, Nat.reduceMul, c1, c3]
      refine W_loopE (fun j => kas.length - j) (fun j E H T => ∃ G nd, H = .cells false [.str n, .sl kas t2] :: G ∧ E 1 = .int nd ∧ E 21 = .sl kas t2 ∧ E 22 = .int kas.length ∧ E 23 = .int j ∧ j ≤ kas.length ∧ flatL nd (kids.drop j) = flatL (w64 (nodes - 1)) kids) ?_ 0 ⟨_, _, rfl, rfl, rfl, rfl, rfl, Nat.zero_le _, rfl⟩
      rintro j E H T ⟨G, nd, rfl, e1, e33, e34, e35, hj, hn⟩
      rcases Nat.lt_or_ge j kas.length with hlt | hge
      · obtain ⟨y, c, d0, d1, d3, d4, d5, d6, d7, d8⟩ := g6.get dtAgg hlt
        have hdec : decide ((j : Int) < kas.length) = true := by simpa using hlt
        have hall := g6.all dtAgg
        obtain ⟨_, rfl, cr⟩ := (ih y d3 (nodes := nd) d8).call rfl (by simp [pvs_cons, pvs_nil, pv_v, dtPure _ d8])
        rw [d1, flatL] at hn
        cases hs : Dt.flat nd y with
        | none =>
          rw [hs] at cr hn
          simp only [smallAV] at cr
          simp only [↓wpre, wset, wcore, ne_eq, if_true, if_false, exists_eq_left', true_implies, false_implies, exists_const, exists_eq_right, binA, intA, loadA, storeA, pickC, setAt, mapO, argsE, X.isC, resA, oneA, unA, boundA, eqiA, eqsA, fillA, fillE, ASt.fz, strA, Nat.reduceEqDiff, Nat.reduceLT, ↓reduceIte, reduceCtorEq, Nat.reduceAdd, Nat.reduceLeDiff, Int.reduceBEq, Int.reduceBNe, Int.reduceLT, Int.reduceLE, Int.reduceGT, Int.reduceGE, Nat.reduceDiv, Nat.reduceMul, e1, e33, e34, e35, hdec, d4, d5, d6, d7, hall, cr]
          rw [← hn]; rfl
        | some m =>
          rw [hs] at cr hn
          simp only [smallAV] at cr
          simp only [↓wpre, wset, wcore, ne_eq, if_true, if_false, exists_eq_left', true_implies, false_implies, exists_const, exists_eq_right, binA, intA, loadA, storeA, pickC, setAt, mapO, argsE, X.isC, resA, oneA, unA, boundA, eqiA, eqsA, fillA, fillE, ASt.fz, strA, Nat.reduceEqDiff, Nat.reduceLT, ↓reduceIte, reduceCtorEq, Nat.reduceAdd, Nat.reduceLeDiff, Int.reduceBEq, Int.reduceBNe, Int.reduceLT, Int.reduceLE, Int.reduceGT, Int.reduceGE, Nat.reduceDiv, Nat.reduceMul, e1, e33, e34, e35, hdec, d4, d5, d6, d7, hall, cr]
          exact EQ_in ⟨j + 1, by omega, _, m, rfl, rfl, e33, e34, next_ixv (by omega), by omega, hn⟩
      · have hdec : decide ((j : Int) < kas.length) = false := by simpa using hge
        rw [List.drop_eq_nil_of_le (by rw [← g6.len]; omega), flatL] at hn
        simp only [↓wpre, wset, wcore, ne_eq, if_true, if_false, exists_eq_left', true_implies, false_implies, exists_const, exists_eq_right, binA, intA, loadA, storeA, pickC, setAt, mapO, argsE, X.isC, resA, oneA, unA, boundA, eqiA, eqsA, fillA, fillE, ASt.fz, strA, Nat.reduceEqDiff, Nat.reduceLT, ↓reduceIte, reduceCtorEq, Nat.reduceAdd, Nat.reduceLeDiff, Int.reduceBEq, Int.reduceBNe, Int.reduceLT, Int.reduceLE, Int.reduceGT, Int.reduceGE, Nat.reduceDiv, Nat.reduceMul, e1, e33, e34, e35, hdec]
        rw [← hn]; rfl
    · simp only [pf31, ↓wpre, wset, wcore, ne_eq, if_true, if_false, exists_eq_left', true_implies, false_implies, exists_const, exists_eq_right, binA, intA, loadA, storeA, pickC, setAt, mapO, argsE, X.isC, resA, oneA, unA, boundA, eqiA, eqsA, fillA, fillE, ASt.fz, strA, Nat.reduceEqDiff, Nat.reduceLT, ↓reduceIte, reduceCtorEq, Nat.reduceAdd, Nat.reduceLeDiff, Int.reduceBEq, Int.reduceBNe, Int.reduceLT, Int.reduceLE, Int.reduceGT, Int.reduceGE, Nat.reduceDiv, Nat.reduceMul, c1, c3]; rfl
  · simp only [pf31, ↓wpre, wset, wcore, ne_eq, if_true, if_false, exists_eq_left', true_implies, false_implies, exists_const, exists_eq_right, binA, intA, loadA, storeA, pickC, setAt, mapO, argsE, X.isC, resA, oneA, unA, boundA, eqiA, eqsA, fillA, fillE, ASt.fz, strA, Nat.reduceEqDiff, Nat.reduceLT, ↓reduceIte, reduceCtorEq, Nat.reduceAdd, Nat.reduceLeDiff, Int.reduceBEq, Int.reduceBNe, Int.reduceLT, Int.reduceLE, Int.reduceGT, Int.reduceGE, Nat.reduceDiv, Nat.reduceMul, c1]; rfl
mutual
def Dt.sz : Dt → Nat
  | .mk _ l => 1 + dszL l
def dszL : List Dt → Nat
  | [] => 0
  | d :: ds => d.sz + dszL ds
end
theorem dsz_kid {l : List Dt} {e : Dt} (h : e ∈ l) : e.sz ≤ dszL l := by
  induction l with
  | nil => simp at h
  | cons x l ih =>
    simp only [dszL]
    simp at h
    rcases h with rfl | h
    · omega
    · have := ih h; omega
theorem dsz_pos (d : Dt) : 1 ≤ d.sz := by cases d; simp [Dt.sz]
theorem dsz_len : ∀ l : List Dt, l.length ≤ dszL l
  | [] => by simp
  | d :: ds => by have := dsz_len ds; have := dsz_pos d; simp [dszL]; omega
theorem flat_sz (e : Dt) : ∀ {nodes m : Int}, e.flat nodes = some m → nodes ≤ 4611686018427387904 → m = nodes - e.sz ∧ 0 ≤ m := by
  induction e using Dt.ind with
  | h n kids ih =>
    intro nodes m h hN
    simp only [Dt.flat] at h
    split at h
    · cases h
    · rename_i c1
      split at h
      · cases h
      · have c1 : 0 < nodes := by simp at c1; omega
        have key : ∀ (l : List Dt) (a b : Int), (∀ x ∈ l, x ∈ kids) → flatL a l = some b → 0 ≤ a → a ≤ 4611686018427387904 → b = a - dszL l ∧ 0 ≤ b := by
          intro l
          induction l with
          | nil => intro a b _ h h0 _; simp [flatL] at h; subst h; simp [dszL]; omega
          | cons x l ihl =>
            intro a b hl h h0 h1
            simp only [flatL] at h
            cases hx : Dt.flat a x with
            | none => rw [hx] at h; cases h
            | some c =>
              rw [hx] at h
              have h2 := ih x (hl x (by simp)) hx h1
              have h3 := ihl c b (fun y hy => hl y (by simp [hy])) h h2.2 (by omega)
              simp only [dszL]
              omega
        rw [show w64 (nodes - 1) = nodes - 1 from wrap_small (by omega) (by omega)] at h
        have := key kids _ _ (fun _ h => h) h (by omega) (by omega)
        simp only [Dt.sz]
        omega
mutual
def Dt.tree : Dt → Ex
  | .mk c l => .mk 3 0 c [] (treeL l)
def treeL : List Dt → List Ex
  | [] => []
  | d :: ds => d.tree :: treeL ds
end
theorem treeL_map : ∀ l, treeL l = l.map Dt.tree
  | [] => by simp [treeL]
  | d :: ds => by simp [treeL, treeL_map ds]
end Go.Proofs.Eng
