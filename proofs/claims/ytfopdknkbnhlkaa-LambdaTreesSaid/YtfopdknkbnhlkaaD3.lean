/- D3: what functions of the program return. No conditions beyond those in the theorems. -/
import Derived.Test.YtfopdknkbnhlkaaD2
import Derived.Test.YtfopdknkbnhlkaaA9
import Derived.Test.YtfopdknkbnhlkaaP1
set_option linter.all false
set_option linter.deprecated false
set_option linter.unnecessarySimpa false
set_option linter.unusedVariables false
set_option linter.unusedSimpArgs false
set_option linter.defProp false
namespace Go.Proofs.Eng
open Go Go.Proofs
set_option maxRecDepth 100000
set_option maxHeartbeats 4000000
theorem pz_dt {s : ASt} {n : ByteArray} {das : List AV} {t t' : Tl} (h : purify 18 s (.sl das t) = some (.sl das t')) : purify 19 s (.agg [.str n, .sl das t]) = some (.agg [.str n, .sl das t']) := by
  rw [pz_agg]
  simp only [mapO, h, purify_pure (n := 17) pv_v, Option.map_some]
mutual
/-- The tree of constructors of an expression. -/
def Ex.data : Ex → Option Dt
  | .mk k i n s kids => if k = 3 ∧ fmB k i n s kids.length = true ∧ isName n = true then (dataL kids).map (Dt.mk n) else none
def dataL : List Ex → Option (List Dt)
  | [] => some []
  | e :: es => match e.data with
    | none => none
    | some d => (dataL es).map (d :: ·)
end
def DatR (r : Option Dt) (v : AV) : Prop := ∃ ad, v = .tup [ad, .bool r.isSome] ∧ (r.getD .zero).Is ad
/-- Of the trees so far and those that are still to come. -/
def datGo (ds : List Dt) (es : List Ex) : Option (List Dt) := (dataL es).map (ds ++ ·)
theorem datGo_cons {ds : List Dt} {e : Ex} {es : List Ex} {d : Dt} (h : e.data = some d) : datGo ds (e :: es) = datGo (ds ++ [d]) es := by
  unfold datGo
  rw [dataL, h]
  cases dataL es <;> simp
theorem datGo_none {ds : List Dt} {e : Ex} {es : List Ex} (h : e.data = none) : datGo ds (e :: es) = none := by
  unfold datGo
  rw [dataL, h]; rfl
theorem datGo_nil {ds : List Dt} : datGo ds [] = some ds := by unfold datGo; rw [dataL]; simp
theorem rData_ret (e : Ex) : ∀ {a}, e.Is a → Out md pfs 29 [a] (DatR e.data) fun _ => False := by
  induction e using Ex.ind with
  | h k i n s kids ih =>
  intro a h
  have hep := exPure _ h
  obtain ⟨_, rfl, cf⟩ := (rformed_ret h).call rfl (by simp [pvs_cons, pvs_nil, hep])
  obtain ⟨t1, t2, kas, rfl, g1, g2, g3, g4, g5, g6⟩ := h.opn
  obtain ⟨_, rfl, cn⟩ := (refName_ret n g3.2).call rfl (by simp [pvs_cons, pvs_nil, pv_v])
  rw [show Ex.fm (.mk k i n s kids) = fmB k i n s kids.length from rfl] at cf
  refine out_of pf29_is (Nat.le_of_ble_eq_true rfl) ?_
  have hno : ¬ (k = 3 ∧ fmB k i n s kids.length = true ∧ isName n = true) → DatR (Ex.data (.mk k i n s kids)) (.tup [.agg [.str ⟨#[]⟩, .sl [] .nil], .bool false]) := fun q => by
    rw [Ex.data, if_neg q]; exact ⟨_, rfl, zeroDt⟩
  cases k3 : (k != 3)
  case true =>
    simp only [pf29, ↓wpre, wset, wcore, ne_eq, if_true, if_false, exists_eq_left', true_implies, false_implies, exists_const, exists_eq_right, binA, intA, loadA, storeA, pickC, setAt, mapO, argsE, X.isC, resA, oneA, unA, boundA, eqiA, eqsA, fillA, fillE, ASt.fz, strA, Nat.reduceEqDiff, Nat.reduceLT, ↓reduceIte, reduceCtorEq, Nat.reduceAdd, Nat.reduceLeDiff, Int.reduceBEq, Int.reduceBNe, Int.reduceLT, Int.reduceLE, Int.reduceGT, Int.reduceGE, Nat.reduceDiv, Nat.reduceMul, k3]
    exact hno (by rintro ⟨q, _⟩; simp [q] at k3)
  cases hf : fmB k i n s kids.length
  · simp only [pf29, ↓wpre, wset, wcore, ne_eq, if_true, if_false, exists_eq_left', true_implies, false_implies, exists_const, exists_eq_right, binA, intA, loadA, storeA, pickC, setAt, mapO, argsE, X.isC, resA, oneA, unA, boundA, eqiA, eqsA, fillA, fillE, ASt.fz, strA, Nat.reduceEqDiff, Nat.reduceLT, ↓reduceIte, reduceCtorEq, Nat.reduceAdd, Nat.reduceLeDiff, Int.reduceBEq, Int.reduceBNe, Int.reduceLT, Int.reduceLE, Int.reduceGT, Int.reduceGE, Nat.reduceDiv, Nat.reduceMul, k3, cf, hf]
    exact hno (by rw [hf]; rintro ⟨_, q, _⟩; cases q)
  cases hn : isName n
  · simp only [pf29, ↓wpre, wset, wcore, ne_eq, if_true, if_false, exists_eq_left', true_implies, false_implies, exists_const, exists_eq_right, binA, intA, loadA, storeA, pickC, setAt, mapO, argsE, X.isC, resA, oneA, unA, boundA, eqiA, eqsA, fillA, fillE, ASt.fz, strA, Nat.reduceEqDiff, Nat.reduceLT, ↓reduceIte, reduceCtorEq, Nat.reduceAdd, Nat.reduceLeDiff, Int.reduceBEq, Int.reduceBNe, Int.reduceLT, Int.reduceLE, Int.reduceGT, Int.reduceGE, Nat.reduceDiv, Nat.reduceMul, k3, cf, hf, cn, hn]
    exact hno (by rw [hn]; rintro ⟨_, _, q⟩; cases q)
  have hyes : Ex.data (.mk k i n s kids) = (dataL kids).map (Dt.mk n) := by rw [Ex.data, if_pos ⟨by simpa using k3, hf, hn⟩]
  have hff := fm_facts hf
  have hkl : kids.length ≤ 4096 := hff.2.2.2.2.1
  have hkl2 := g6.len
  rw [hyes]
  simp only [pf29, ↓wpre, wset, wcore, ne_eq, if_true, if_false, exists_eq_left', true_implies, false_implies, exists_const, exists_eq_right, binA, intA, loadA, storeA, pickC, setAt, mapO, argsE, X.isC, resA, oneA, unA, boundA, eqiA, eqsA, fillA, fillE, ASt.fz, strA, Nat.reduceEqDiff, Nat.reduceLT, ↓reduceIte, reduceCtorEq, Nat.reduceAdd, Nat.reduceLeDiff, Int.reduceBEq, Int.reduceBNe, Int.reduceLT, Int.reduceLE, Int.reduceGT, Int.reduceGE, Nat.reduceDiv, Nat.reduceMul, k3, cf, hf, cn, hn]
  refine W_loopE (fun j => kas.length - j) (fun j E H T => ∃ G ds das t, H = .cells false [.int k, .int i, .str n, .sl (ints s) t1, .sl kas t2] :: .cells false [.str ⟨#[]⟩, .sl [] .nil] :: .cells false [.str n, .sl das t] :: G ∧
    E 1 = .ptr 0 0 ∧ E 2 = .ptr 1 0 ∧ E 4 = .ptr 2 0 ∧ E 5 = .int j ∧ j ≤ kas.length ∧ App T das t ∧ das.length = j ∧ LIs Dt.Is ds das ∧ dataL kids = datGo ds (kids.drop j)) ?_ 0 ⟨[], [], [], .nil, rfl, rfl, rfl, rfl, rfl, Nat.zero_le _, app_start _, rfl, trivial, by simp [datGo]⟩
  rintro j E H T ⟨G, ds, das, t, rfl, e1, e2, e4, e5, hj, hA, hdl, hds, hgo⟩
  rcases Nat.lt_or_ge j kas.length with hlt | hge
  · obtain ⟨y, c, d0, d1, d3, d4, d5, d6, d7, d8⟩ := g6.get exAgg hlt
    have hdec : decide ((j : Int) < kas.length) = true := by simpa using hlt
    have hall := g6.all exAgg
    obtain ⟨_, ⟨ad, rfl, hd⟩, cr⟩ := (ih y d3 d8).call rfl (by simp [pvs_cons, pvs_nil, exPure _ d8])
    obtain ⟨cd, rfl, q1, q2⟩ := dtAgg.cells hd
    have q3 : cd.take 2 = cd := List.take_of_length_le (by omega)
    rw [d1] at hgo
    cases hy : y.data with
    | none =>
      rw [hy] at cr
      simp only [Option.isSome_none] at cr
      simp only [↓wpre, wset, wcore, ne_eq, if_true, if_false, exists_eq_left', true_implies, false_implies, exists_const, exists_eq_right, binA, intA, loadA, storeA, pickC, setAt, mapO, argsE, X.isC, resA, oneA, unA, boundA, eqiA, eqsA, fillA, fillE, ASt.fz, strA, Nat.reduceEqDiff, Nat.reduceLT, ↓reduceIte, reduceCtorEq, Nat.reduceAdd, Nat.reduceLeDiff, Int.reduceBEq, Int.reduceBNe, Int.reduceLT, Int.reduceLE, Int.reduceGT, Int.reduceGE, Nat.reduceDiv, Nat.reduceMul, List.length_append, List.append_assoc, app_get_len, app_get_add, app_set_len, app_set_add, e1, e2, e4, e5, hdec, d4, d5, d6, d7, hall, cr, q1, q2]
      rw [hgo, datGo_none hy]
      exact ⟨_, rfl, zeroDt⟩
    | some d =>
      rw [hy] at cr hd
      simp only [Option.isSome_some] at cr
      simp only [Option.getD_some] at hd
      obtain ⟨t', T', hap, hA', _⟩ := app_one hA (by unfold capB; omega) (hds.all dtAgg) (x := .agg cd) q1 q2
      simp only [↓wpre, wset, wcore, ne_eq, if_true, if_false, exists_eq_left', true_implies, false_implies, exists_const, exists_eq_right, binA, intA, loadA, storeA, pickC, setAt, mapO, argsE, X.isC, resA, oneA, unA, boundA, eqiA, eqsA, fillA, fillE, ASt.fz, strA, Nat.reduceEqDiff, Nat.reduceLT, ↓reduceIte, reduceCtorEq, Nat.reduceAdd, Nat.reduceLeDiff, Int.reduceBEq, Int.reduceBNe, Int.reduceLT, Int.reduceLE, Int.reduceGT, Int.reduceGE, Nat.reduceDiv, Nat.reduceMul, List.length_append, List.append_assoc, app_get_len, app_get_add, app_set_len, app_set_add, e1, e2, e4, e5, hdec, d4, d5, d6, d7, hall, cr, q1, q2, q3, hap]
      exact EQ_in ⟨j + 1, by omega, _, ds ++ [d], das ++ [.agg cd], t', rfl, e1, e2, e4, next_ixv (by omega), by omega, hA', by simp [hdl], hds.append (LIs.one hd), by rw [hgo, datGo_cons hy]⟩
  · have hdec : decide ((j : Int) < kas.length) = false := by simpa using hge
    rw [List.drop_eq_nil_of_le (by omega), datGo_nil] at hgo
    obtain ⟨t', ht', hap⟩ := app_purify (s := ⟨.cells false [.int k, .int i, .str n, .sl (ints s) t1, .sl kas t2] :: .cells false [.str n, .sl das t] :: .cells false [.str n, .sl das t] :: G, T⟩) hA (dtsPure hds) (n := 18) (by omega)
    simp only [↓wpre, wset, wcore, ne_eq, if_true, if_false, exists_eq_left', true_implies, false_implies, exists_const, exists_eq_right, binA, intA, loadA, storeA, pickC, setAt, mapO, argsE, X.isC, resA, oneA, unA, boundA, eqiA, eqsA, fillA, fillE, ASt.fz, strA, Nat.reduceEqDiff, Nat.reduceLT, ↓reduceIte, reduceCtorEq, Nat.reduceAdd, Nat.reduceLeDiff, Int.reduceBEq, Int.reduceBNe, Int.reduceLT, Int.reduceLE, Int.reduceGT, Int.reduceGE, Nat.reduceDiv, Nat.reduceMul, List.length_append, List.append_assoc, app_get_len, app_get_add, app_set_len, app_set_add, e1, e2, e4, e5, hdec, pz_dt hap]
    rw [hgo]
    exact ⟨_, rfl, Dt.Is.mk ht' g3.2 (by omega) hds⟩
theorem sameData_ret (e : Dt) : ∀ {a b}, e.Is a → e.Is b → Out md pfs 30 [a, b] (· = .bool true) fun _ => False := by
  induction e using Dt.ind with
  | h n kids ih =>
  intro a b h h'
  obtain ⟨t2, kas, rfl, g2, g3, g5, g6⟩ := h.opn
  obtain ⟨u2, kbs, rfl, q2, q3, q5, q6⟩ := h'.opn
  have hlen : kbs.length = kas.length := by rw [g6.len, q6.len]
  refine out_of pf30_is (Nat.le_of_ble_eq_true rfl) ?_
  simp only [pf30, ↓wpre, wset, wcore, ne_eq, if_true, if_false, exists_eq_left', true_implies, false_implies, exists_const, exists_eq_right, binA, intA, loadA, storeA, pickC, setAt, mapO, argsE, X.isC, resA, oneA, unA, boundA, eqiA, eqsA, fillA, fillE, ASt.fz, strA, Nat.reduceEqDiff, Nat.reduceLT, ↓reduceIte, reduceCtorEq, Nat.reduceAdd, Nat.reduceLeDiff, Int.reduceBEq, Int.reduceBNe, Int.reduceLT, Int.reduceLE, Int.reduceGT, Int.reduceGE, Nat.reduceDiv, Nat.reduceMul, hlen]
  refine W_loopE (fun j => kas.length - j) (fun j E H T => H = [.cells false [.str n, .sl kas t2], .cells false [.str n, .sl kbs u2]] ∧ E 2 = .ptr 0 0 ∧ E 3 = .ptr 1 0 ∧ E 5 = .int j ∧ j ≤ kas.length) ?_ 0 ⟨rfl, rfl, rfl, rfl, Nat.zero_le _⟩
  rintro j E H T ⟨rfl, e2, e3, e5, hj⟩
  rcases Nat.lt_or_ge j kas.length with hlt | hge
  · obtain ⟨x, c, d0, d1, d3, d4, d5, d6, d7, d8⟩ := g6.get dtAgg hlt
    obtain ⟨y, c', f0, f1, f3, f4, f5, f6, f7, f8⟩ := q6.get dtAgg (i := j) (by omega)
    rw [d0] at f0; cases f0
    have hdec : decide ((j : Int) < kas.length) = true := by simpa using hlt
    have hall := g6.all dtAgg
    have hall2 := q6.all dtAgg
    obtain ⟨_, rfl, cr⟩ := (ih x d3 d8 f8).call rfl (by simp [pvs_cons, pvs_nil, dtPure _ d8, dtPure _ f8])
    simp only [↓wpre, wset, wcore, ne_eq, if_true, if_false, exists_eq_left', true_implies, false_implies, exists_const, exists_eq_right, binA, intA, loadA, storeA, pickC, setAt, mapO, argsE, X.isC, resA, oneA, unA, boundA, eqiA, eqsA, fillA, fillE, ASt.fz, strA, Nat.reduceEqDiff, Nat.reduceLT, ↓reduceIte, reduceCtorEq, Nat.reduceAdd, Nat.reduceLeDiff, Int.reduceBEq, Int.reduceBNe, Int.reduceLT, Int.reduceLE, Int.reduceGT, Int.reduceGE, Nat.reduceDiv, Nat.reduceMul, e2, e3, e5, hdec, d4, d5, d6, f4, f5, f6, hall, hall2, cr]
    exact EQ_in ⟨j + 1, by omega, rfl, e2, e3, next_ixv (by omega), by omega⟩
  · have hdec : decide ((j : Int) < kas.length) = false := by simpa using hge
    simp only [↓wpre, wset, wcore, ne_eq, if_true, if_false, exists_eq_left', true_implies, false_implies, exists_const, exists_eq_right, binA, intA, loadA, storeA, pickC, setAt, mapO, argsE, X.isC, resA, oneA, unA, boundA, eqiA, eqsA, fillA, fillE, ASt.fz, strA, Nat.reduceEqDiff, Nat.reduceLT, ↓reduceIte, reduceCtorEq, Nat.reduceAdd, Nat.reduceLeDiff, Int.reduceBEq, Int.reduceBNe, Int.reduceLT, Int.reduceLE, Int.reduceGT, Int.reduceGE, Nat.reduceDiv, Nat.reduceMul, e2, e3, e5, hdec]
/-- A slice that is appended to, and is newer than the first n. -/
def AppF (n : Nat) (T : List Nat) (l : List AV) (t : Tl) : Prop := (l = [] ∧ t = .nil) ∨ (l ≠ [] ∧ ∃ id ver, t = .tl id ver ∧ n ≤ id ∧ T[id]? = some ver)
theorem AppF.app {n : Nat} {T : List Nat} {l : List AV} {t : Tl} (h : AppF n T l t) : App T l t := by
  rcases h with h | ⟨h, id, ver, h1, _, h2⟩
  · exact .inl h
  · exact .inr ⟨h, id, ver, h1, h2⟩
/-- The first n are as they were. -/
def Keep (n : Nat) (T T' : List Nat) : Prop := n ≤ T'.length ∧ ∀ i, i < n → T'[i]? = T[i]?
theorem app_oneF {n : Nat} {T : List Nat} {es : Nat} {l : List AV} {t : Tl} {x : AV} (hn : n ≤ T.length) (h : AppF n T l t) (hl : l.length < capB) (ha : (l.all fun x => x.cells.length == es) = true) (hx : x.cells.length = es) (ho : x.cells.all oneCell = true) :
    ∃ t' T', (∀ H, appA ⟨H, T⟩ es none l t [x] = some (.sl (l ++ [x]) t', ⟨H, T'⟩)) ∧ AppF n T' (l ++ [x]) t' ∧ Keep n T T' := by
  have hn' : l.length + 1 ≤ 1073741824 := by unfold capB at hl; omega
  rcases h with ⟨rfl, rfl⟩ | ⟨hne, id, ver, rfl, hid, hT⟩
  · refine ⟨.tl T.length 0, T ++ [0], fun H => ?_, .inr ⟨by simp, _, _, rfl, hn, by simp⟩, by simp; omega, fun i hi => by rw [List.getElem?_append_left (by omega)]⟩
    simp [appA, hx]
    simpa using ho
  · refine ⟨.tl id (ver + 1), T.set id (ver + 1), fun H => ?_, .inr ⟨by simp, _, _, rfl, hid, ?_⟩, by simp; omega, fun i hi => by rw [List.getElem?_set_ne (by omega)]⟩
    · simp only [appA, List.length_cons, List.length_nil, hT, ha, hx, List.all_cons, List.all_nil, ho, beq_self_eq_true, Bool.and_self]
      simp [hn', hne]
    · have : id < T.length := by
        rcases Nat.lt_or_ge id T.length with h | h
        · exact h
        · rw [List.getElem?_eq_none h] at hT; cases hT
      simp [List.getElem?_set, this]
end Go.Proofs.Eng
