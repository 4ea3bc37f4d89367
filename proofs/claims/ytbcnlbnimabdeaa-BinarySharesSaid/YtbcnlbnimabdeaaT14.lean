/- The program's PutTerms; BinaryTerms. No conditions beyond those in the theorems. -/
import Derived.Test.YtbcnlbnimabdeaaT13
import Derived.Test.YtbcnlbnimabdeaaQA
import Derived.Test.YtbcnlbnimabdeaaL0
set_option linter.all false
set_option linter.deprecated false
set_option linter.unnecessarySimpa false
set_option linter.unusedVariables false
set_option linter.unusedSimpArgs false
set_option linter.defProp false
namespace Go.Proofs.Eng
open Go Go.Proofs
set_option maxRecDepth 100000
set_option maxHeartbeats 16000000
theorem PutTerms_ret {l : List Tm} {al : List AV} {t : Tl} (h : LIs Tm.Is l al) (ht : t.pure = true) (hl : al.length ≤ 65536) (hs : ∀ e ∈ l, e.sz ≤ 4096 ∧ e.dp ≤ 200) (hp : allRL l = true → (putT l).length ≤ entB) (hp2 : allRL l = true → (enterL [] l).length ≤ entB) : Out md pfs 17 [.sl al t] (· = .tup [.str (strOf (putR l).1), .int (putR l).2]) fun _ => False := by
  have hl2 := h.len
  have hall := h.all tmAgg
  have d1 : decide ((al.length : Int) > 65536) = false := by simp only [decide_eq_false_iff_not]; omega
  refine out_of pf17_is (Nat.le_of_ble_eq_true rfl) ?_
  simp only [pf17, ↓wpre, wset, wcore, ne_eq, if_true, if_false, exists_eq_left', true_implies, false_implies, exists_const, exists_eq_right, binA, intA, loadA, storeA, pickC, setAt, mapO, argsE, X.isC, resA, oneA, unA, boundA, eqiA, eqsA, fillA, fillE, ASt.fz, strA, Nat.reduceEqDiff, Nat.reduceLT, ↓reduceIte, reduceCtorEq, Nat.reduceAdd, Nat.reduceLeDiff, Int.reduceBEq, Int.reduceBNe, Int.reduceLT, Int.reduceLE, Int.reduceGT, Int.reduceGE, Nat.reduceDiv, Nat.reduceMul, Nat.reduceBEq, Nat.reduceMod, Nat.reduceSub, d1]
  refine W_loopE (fun j => al.length - j) (fun j E H T => E 0 = .sl al t ∧ E 15 = .sl al t ∧ E 16 = .int al.length ∧ E 17 = .int (j : Nat) ∧ j ≤ al.length ∧ allRL (l.take j) = true) ?_ 0 ⟨rfl, rfl, rfl, rfl, Nat.zero_le _, by simp [allRL]⟩
  rintro j E H T ⟨e0, e15, e16, e17, hj, har⟩
  rcases Nat.lt_or_ge j al.length with hlt | hge
  · have hdec : decide ((j : Int) < al.length) = true := by simpa using hlt
    obtain ⟨x, c, d0, d2, d3, d4, d5, d6, d7, d8⟩ := h.get tmAgg hlt
    obtain ⟨_, rfl, c1⟩ := (encodable_ret d8 (hs x d3).1 (hs x d3).2).call rfl (by simp [pvs_cons, pvs_nil, tmPure _ d8])
    cases hx : x.allR
    · have he : encErr x = 3 := by simp [encErr, hx]
      rw [he] at c1
      have n3 : ((3 : Int) != 0) = true := rfl
      simp only [↓wpre, wset, wcore, ne_eq, if_true, if_false, exists_eq_left', true_implies, false_implies, exists_const, exists_eq_right, binA, intA, loadA, storeA, pickC, setAt, mapO, argsE, X.isC, resA, oneA, unA, boundA, eqiA, eqsA, fillA, fillE, ASt.fz, strA, Nat.reduceEqDiff, Nat.reduceLT, ↓reduceIte, reduceCtorEq, Nat.reduceAdd, Nat.reduceLeDiff, Int.reduceBEq, Int.reduceBNe, Int.reduceLT, Int.reduceLE, Int.reduceGT, Int.reduceGE, Nat.reduceDiv, Nat.reduceMul, Nat.reduceBEq, Nat.reduceMod, Nat.reduceSub, List.length_append, List.append_assoc, app_get_len, app_get_add, app_set_len, app_set_add, e0, e15, e16, e17, hdec, d4, d5, d6, d7, hall, c1, n3]
      have : putR l = ([], 3) := by
        rw [putR, if_neg]
        intro ha
        have := (allRL_iff l).1 ha x d3
        rw [hx] at this; cases this
      rw [this]; rfl
    · have he : encErr x = 0 := by simp [encErr, hx]
      rw [he] at c1
      have n3 : ((0 : Int) != 0) = false := rfl
      simp only [↓wpre, wset, wcore, ne_eq, if_true, if_false, exists_eq_left', true_implies, false_implies, exists_const, exists_eq_right, binA, intA, loadA, storeA, pickC, setAt, mapO, argsE, X.isC, resA, oneA, unA, boundA, eqiA, eqsA, fillA, fillE, ASt.fz, strA, Nat.reduceEqDiff, Nat.reduceLT, ↓reduceIte, reduceCtorEq, Nat.reduceAdd, Nat.reduceLeDiff, Int.reduceBEq, Int.reduceBNe, Int.reduceLT, Int.reduceLE, Int.reduceGT, Int.reduceGE, Nat.reduceDiv, Nat.reduceMul, Nat.reduceBEq, Nat.reduceMod, Nat.reduceSub, List.length_append, List.append_assoc, app_get_len, app_get_add, app_set_len, app_set_add, e0, e15, e16, e17, hdec, d4, d5, d6, d7, hall, c1, n3]
      exact EQ_in ⟨j + 1, by omega, e0, e15, e16, next_ixv (by unfold lenB; omega), by omega, allRL_take har d0 hx⟩
  · have hdec : decide ((j : Int) < al.length) = false := by simpa using hge
    rw [List.take_of_length_le (by omega)] at har
    have hR : putR l = (putT l, 0) := by rw [putR, if_pos har]
    obtain ⟨ok, hent⟩ := table_ok har
    have hp := hp har
    have hp2 := hp2 har
    have hPP : putP l = putT l := put_eq fun x hx => (right_facts (allRL_subs har x hx)).1
    have hPl : (putP l).length = (encN (entL [] l).2.length).length + ((entL [] l).2.flatten.length + ((encN l.length).length + ((entL [] l).1.flatMap encN).length)) := by unfold putP; simp only [List.length_append]
    rw [hPP] at hPl
    have hLlen : (entL [] l).2.length ≤ entB := by rw [hent]; simp only [textT, List.length_map]; exact hp2
    rw [hR]
    simp only [↓wpre, wset, wcore, ne_eq, if_true, if_false, exists_eq_left', true_implies, false_implies, exists_const, exists_eq_right, binA, intA, loadA, storeA, pickC, setAt, mapO, argsE, X.isC, resA, oneA, unA, boundA, eqiA, eqsA, fillA, fillE, ASt.fz, strA, Nat.reduceEqDiff, Nat.reduceLT, ↓reduceIte, reduceCtorEq, Nat.reduceAdd, Nat.reduceLeDiff, Int.reduceBEq, Int.reduceBNe, Int.reduceLT, Int.reduceLE, Int.reduceGT, Int.reduceGE, Nat.reduceDiv, Nat.reduceMul, Nat.reduceBEq, Nat.reduceMod, Nat.reduceSub, List.length_append, List.append_assoc, app_get_len, app_get_add, app_set_len, app_set_add, e0, e15, e16, e17, hdec]
    refine W_loopE (fun j => al.length - j) (fun j E H' T' => ∃ B Z b tb tt' es', H' = B ++ Z ∧ E 0 = .sl al t ∧ E 7 = .ptr (H.length + 1) 0 ∧ E 8 = .sl (bytes b) tb ∧ E 30 = .sl al t ∧ E 31 = .int al.length ∧ E 32 = .int (j : Nat) ∧ j ≤ al.length ∧ BaseOK B (H ++ [.map [], tabX H.length [] .nil]) (H.length + 1) H.length (tabX H.length (entL [] (l.take j)).2.flatten tt') (.map es') ∧ MapT es' (entL [] (l.take j)).2 ∧ Two T .nil T' b tb (entL [] (l.take j)).2.flatten tt' ∧ b = (entL [] (l.take j)).1.flatMap encN) ?_ 0 ⟨H ++ [.map [], tabX H.length [] .nil], [], [], .nil, .nil, [], by simp [tabX, bytes], e0, rfl, rfl, rfl, rfl, rfl, Nat.zero_le _, by rw [List.take_zero, entL]; exact BaseOK.start (by rw [List.getElem?_append_right (by omega)]; simp [tabX]) (by rw [List.getElem?_append_right (by omega)]; simp), by rw [List.take_zero, entL]; exact mapT_nil, by rw [List.take_zero, entL]; exact Two.start (app_start T), by rw [List.take_zero, entL]; rfl⟩
    clear e0 e15 e16 e17 hj hge hdec E j
    rintro j E H' T' ⟨B, Z, b, tb, tt', es', rfl, e0, e7, e8, e30, e31, e32, hj, hB, hM, h2, hb⟩
    have hxm : H.length + 1 ≠ H.length := by omega
    rcases Nat.lt_or_ge j al.length with hlt | hge
    · have hdec : decide ((j : Int) < al.length) = true := by simpa using hlt
      obtain ⟨y, c, d0, d2, d3, d4, d5, d6, d7, d8⟩ := h.get tmAgg hlt
      have htk := entL_take (tab := []) d0
      obtain ⟨mm, hmm⟩ := entL_pre_take (tab := []) (l := l) (j + 1)
      have hyB : (y.ent (entL [] (l.take j)).2).2.flatten.length ≤ entB ∧ (y.ent (entL [] (l.take j)).2).2.length ≤ entB := by
        rw [htk] at hmm
        rw [hmm] at hLlen hPl
        rw [List.flatten_append] at hPl
        rw [List.length_append] at hLlen
        simp only [List.length_append] at hLlen hPl
        omega
      have hpos := ent_lt y (entL [] (l.take j)).2
      obtain ⟨_, _, ⟨tt2, es2, T2, G2, rfl, rfl, q1, q2, q3⟩, cv⟩ := (enter_sh (H.length + 1) H.length hxm y (H := B ++ (Z ++ [.cells false c])) (T := T') d8 ((allRL_iff l).1 har y d3) hyB.1 hyB.2 (app_get_of hB.2.1 _) (app_get_of hB.2.2.1 _) hM h2.appt).callRet rfl
      have hsx : (B ++ (Z ++ [AObj.cells false c])).set (H.length + 1) (tabX H.length (y.ent (entL [] (l.take j)).2).2.flatten tt2) = B.set (H.length + 1) (tabX H.length (y.ent (entL [] (l.take j)).2).2.flatten tt2) ++ (Z ++ [AObj.cells false c]) := set_app hB.2.1
      have hsm : (B.set (H.length + 1) (tabX H.length (y.ent (entL [] (l.take j)).2).2.flatten tt2) ++ (Z ++ [AObj.cells false c])).set H.length (.map es2) = (B.set (H.length + 1) (tabX H.length (y.ent (entL [] (l.take j)).2).2.flatten tt2)).set H.length (.map es2) ++ (Z ++ [AObj.cells false c]) := set_app (y := .map es') (by rw [List.getElem?_set_ne hxm]; exact hB.2.2.1)
      rw [hsx, hsm, List.append_assoc] at cv
      have hB' := hB.step hxm (tabX H.length (y.ent (entL [] (l.take j)).2).2.flatten tt2) (.map es2)
      generalize hBn : (B.set (H.length + 1) (tabX H.length (y.ent (entL [] (l.take j)).2).2.flatten tt2)).set H.length (.map es2) = B' at cv hB'
      generalize hZn : Z ++ [AObj.cells false c] ++ G2 = Z' at cv
      have h3 := h2.t q2 q3
      generalize hpn : (y.ent (entL [] (l.take j)).2).1 = pos at cv hpos
      have hbl : b.length + 9 ≤ capB := by
        obtain ⟨pm, hpm⟩ := entL_pos_take (tab := []) (l := l) j
        rw [hpm, List.flatMap_append, List.length_append] at hPl
        rw [hb]
        unfold capB; unfold entB at hp; omega
      obtain ⟨_, _, ⟨tb3, T3, rfl, rfl, a3, o3⟩, k3⟩ := (appendNumber_rw (n := pos) (H := B' ++ Z') (T := T2) (by unfold bigN; have := hyB.2; unfold entB at this; omega) hbl h3.appb).call rfl
      have hnb : b ++ encN pos = (entL [] (l.take (j + 1))).1.flatMap encN := by
        rw [htk, hb, ← hpn]; simp only [List.flatMap_append, List.flatMap_cons, List.flatMap_nil, List.append_nil]
      generalize hbn : b ++ encN pos = b' at a3 k3 hnb
      simp only [↓wpre, wset, wcore, ne_eq, if_true, if_false, exists_eq_left', true_implies, false_implies, exists_const, exists_eq_right, binA, intA, loadA, storeA, pickC, setAt, mapO, argsE, X.isC, resA, oneA, unA, boundA, eqiA, eqsA, fillA, fillE, ASt.fz, strA, Nat.reduceEqDiff, Nat.reduceLT, ↓reduceIte, reduceCtorEq, Nat.reduceAdd, Nat.reduceLeDiff, Int.reduceBEq, Int.reduceBNe, Int.reduceLT, Int.reduceLE, Int.reduceGT, Int.reduceGE, Nat.reduceDiv, Nat.reduceMul, Nat.reduceBEq, Nat.reduceMod, Nat.reduceSub, List.length_append, List.append_assoc, app_get_len, app_get_add, app_set_len, app_set_add, e0, e7, e8, e30, e31, e32, hdec, d4, d5, d6, d7, hall, cv, k3]
      exact EQ_in ⟨j + 1, by omega, B', Z', b', tb3, tt2, es2, rfl, e0, e7, rfl, e30, e31, next_ixv (by unfold lenB at *; omega), by omega, by rw [htk]; exact hB', by rw [htk]; exact q1, by rw [htk]; exact h3.b a3 o3, hnb⟩
    · have hdec : decide ((j : Int) < al.length) = false := by simpa using hge
      rw [List.take_of_length_le (by omega)] at hB hM h2 hb
      have hgx : ∀ Z, (B ++ Z)[H.length + 1]? = some (.cells false [.mp H.length, .sl (bytes (entL [] l).2.flatten) tt']) := fun Z => app_get_of hB.2.1 Z
      have hgm : ∀ Z, (B ++ Z)[H.length]? = some (.map es') := fun Z => app_get_of hB.2.2.1 Z
      have hesl := hM.1
      obtain ⟨_, _, ⟨u1, T1, rfl, rfl, a1, o1⟩, k1⟩ := (appendNumber_rw (l := []) (n := es'.length) (H := B ++ Z) (T := T') (by unfold bigN; unfold entB at hLlen; omega) (by unfold capB; simp) (app_start T')).call rfl
      rw [List.nil_append] at a1 k1
      rw [show bytes [] = [] from rfl] at k1
      have hn9 := encN_big (n := es'.length) (by unfold bigN; unfold entB at hLlen; omega)
      obtain ⟨u2, T2, f1, f2, f3⟩ := app_many (es := 1) (xs := bytes (entL [] l).2.flatten) a1 (by rw [bytes_len, bytes_len]; unfold capB; unfold entB at hp; omega) (bytes_all _) (bytes_all2 _)
      rw [← bytes_app] at f1 f2
      generalize hc1 : encN es'.length ++ (entL [] l).2.flatten = x1 at f1 f2
      have hx1 : x1.length = (encN es'.length).length + (entL [] l).2.flatten.length := by rw [← hc1, List.length_append]
      obtain ⟨_, _, ⟨u3, T3, rfl, rfl, a3, o3⟩, k3⟩ := (appendNumber_rw (n := al.length) (H := B ++ Z) (T := T2) (by unfold bigN; omega) (by unfold capB; unfold entB at hp; omega) f2).call rfl
      generalize hc2 : x1 ++ encN al.length = x2 at a3 k3
      have hx2 : x2.length = x1.length + (encN al.length).length := by rw [← hc2, List.length_append]
      have ha9 := encN_big (n := al.length) (by unfold bigN; omega)
      have hbl : b.length = ((entL [] l).1.flatMap encN).length := by rw [hb]
      obtain ⟨u4, T4, f4, f5, f6⟩ := app_many (es := 1) (xs := bytes b) a3 (by rw [bytes_len, bytes_len]; unfold capB; unfold entB at hp; omega) (bytes_all _) (bytes_all2 _)
      rw [← bytes_app] at f4 f5
      simp only [↓wpre, wset, wcore, ne_eq, if_true, if_false, exists_eq_left', true_implies, false_implies, exists_const, exists_eq_right, binA, intA, loadA, storeA, pickC, setAt, mapO, argsE, X.isC, resA, oneA, unA, boundA, eqiA, eqsA, fillA, fillE, ASt.fz, strA, Nat.reduceEqDiff, Nat.reduceLT, ↓reduceIte, reduceCtorEq, Nat.reduceAdd, Nat.reduceLeDiff, Int.reduceBEq, Int.reduceBNe, Int.reduceLT, Int.reduceLE, Int.reduceGT, Int.reduceGE, Nat.reduceDiv, Nat.reduceMul, Nat.reduceBEq, Nat.reduceMod, Nat.reduceSub, List.length_append, List.append_assoc, app_get_len, app_get_add, app_set_len, app_set_add, e0, e7, e8, e30, e31, e32, hdec, hgx, hgm, k1, srcA_sl, f1, k3, f4, elemsA_sl, bytesA_bytes, bytes_str]
      rw [← hPP, ← hc2, ← hc1, hb, hesl]
      unfold putP
      rw [hl2]
      simp only [List.append_assoc]
end Go.Proofs.Eng
