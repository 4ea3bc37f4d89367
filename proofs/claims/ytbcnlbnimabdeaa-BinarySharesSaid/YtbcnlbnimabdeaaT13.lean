/- The program enters a term. No conditions beyond those in the theorems. -/
import Derived.Test.YtbcnlbnimabdeaaT12
set_option linter.all false
set_option linter.deprecated false
set_option linter.unnecessarySimpa false
set_option linter.unusedVariables false
set_option linter.unusedSimpArgs false
set_option linter.defProp false
namespace Go.Proofs.Eng
open Go Go.Proofs
set_option maxRecDepth 100000
set_option maxHeartbeats 16000000
abbrev entB : Nat := 268435456
def tabX (m : Nat) (txt : List UInt8) (tt : Tl) : AObj := .cells false [.mp m, .sl (bytes txt) tt]
def EnterP (x m : Nat) (H : List AObj) (T : List Nat) (tt : Tl) (tab : List (List UInt8)) (e : Tm) (v : AV) (s' : ASt) : Prop :=
  ∃ tt' es' T' G, v = .int ((e.ent tab).1 : Nat) ∧ s' = ⟨(H.set x (tabX m (e.ent tab).2.flatten tt')).set m (.map es') ++ G, T'⟩ ∧ MapT es' (e.ent tab).2 ∧ App T' (bytes (e.ent tab).2.flatten) tt' ∧ Oth T tt T' tt'
theorem bytes_str (l : List UInt8) : ({ data := l.toArray } : ByteArray) = strOf l := rfl
def kl37 : PC := match pf37.body with | .seq _ (.seq _ (.seq _ (.seq (.seq _ (.block _ l)) _))) => l | _ => .skip
def rest37 : PC := match pf37.body with | .seq _ (.seq _ (.seq _ (.seq _ r))) => r | _ => .skip
theorem set_app {α : Type} {B Z : List α} {i : Nat} {y x : α} (h : B[i]? = some y) : (B ++ Z).set i x = B.set i x ++ Z := List.set_append_left _ _ (List.getElem?_eq_some_iff.1 h).1
theorem enter_sh (x m : Nat) (hxm : x ≠ m) (e : Tm) : ∀ {tab : List (List UInt8)} {es : List (AV × AV)} {tt : Tl} {a : AV} {H : List AObj} {T : List Nat}, e.Is a → e.allR = true → (e.ent tab).2.flatten.length ≤ entB → (e.ent tab).2.length ≤ entB →
    H[x]? = some (tabX m tab.flatten tt) → H[m]? = some (.map es) → MapT es tab → App T (bytes tab.flatten) tt →
    Sh md pfs 37 [.ptr x 0, a] ⟨H, T⟩ (EnterP x m H T tt tab e) fun _ _ => False := by
  induction e using Tm.ind with
  | h k i n ls kids ih =>
  intro tab es tt a H T h har hB1 hB2 hx hm hes hA
  have har' := har
  rw [Tm.allR, Bool.and_eq_true] at har'
  have hr := har'.1
  have hkR := (allRL_iff kids).1 har'.2
  obtain ⟨hf, hv, hl8, hn6, hi⟩ := right_facts hr
  obtain ⟨nl, rfl⟩ : ∃ nl, n = strOf nl := ⟨n.toList, (of_str n).symm⟩
  obtain ⟨t1, t2, las, kas, rfl, g1, g2, g3, g4, g5, g6, g7, g8, g9⟩ := h.opn
  have hl1 := g8.len
  have hl2 := g9.len
  obtain ⟨_, hrk, r3, r4, r5, r6, r7, r8⟩ := (right_iff k i (strOf nl) ls kids).1 hr
  obtain ⟨hk0, hk12⟩ := kidsN_range (k := k) (by omega)
  obtain ⟨kn, rfl⟩ : ∃ kn : Nat, k = kn := ⟨k.toNat, by omega⟩
  have hall := g8.all lvAgg
  have hallk := g9.all tmAgg
  -- the entry's text
  generalize hW : encN kn ++ ((Tm.mk kn i (strOf nl) ls kids).pay ++ (entL tab kids).1.flatMap encN) = wd
  have hW' : encN (kn : Int).toNat ++ ((Tm.mk kn i (strOf nl) ls kids).pay ++ (entL tab kids).1.flatMap encN) = wd := hW
  have hent : Tm.ent tab (.mk kn i (strOf nl) ls kids) = if wd ∈ (entL tab kids).2 then ((entL tab kids).2.idxOf wd, (entL tab kids).2) else ((entL tab kids).2.length, (entL tab kids).2 ++ [wd]) := by rw [Tm.ent, hW']
  have hmem : wd ∈ (Tm.ent tab (.mk kn i (strOf nl) ls kids)).2 := by
    rw [hent]; split
    · assumption
    · simp
  have hwl : wd.length ≤ entB := Nat.le_trans (flatten_mem hmem) hB1
  have hwlen : wd.length = (encN kn).length + ((Tm.mk kn i (strOf nl) ls kids).pay.length + ((entL tab kids).1.flatMap encN).length) := by rw [← hW]; simp only [List.length_append]
  have hpreL : ∃ mm, (Tm.ent tab (.mk kn i (strOf nl) ls kids)).2 = (entL tab kids).2 ++ mm := by
    rw [hent]; split
    · exact ⟨[], by simp⟩
    · exact ⟨[wd], rfl⟩
  have hLB : (entL tab kids).2.flatten.length ≤ entB ∧ (entL tab kids).2.length ≤ entB := by
    obtain ⟨mm, hmm⟩ := hpreL
    rw [hmm] at hB1 hB2
    rw [List.flatten_append, List.length_append] at hB1
    rw [List.length_append] at hB2
    omega
  have hx' := hx
  unfold tabX at hx'
  obtain ⟨_, _, ⟨tb1, T1, rfl, rfl, a1, o1⟩, k1⟩ := (appendNumber_rw (l := []) (n := kn) (H := H ++ [.cells false [.int kn, .int i, .str (strOf nl), .sl las t1, .sl kas t2]]) (T := T) (by unfold bigN; omega) (by unfold capB; simp) (app_start T)).call rfl
  rw [List.nil_append] at a1 k1
  rw [show bytes [] = [] from rfl] at k1
  have w1 := (Two.start hA).b a1 o1
  have hkn9 := encN_big (n := kn) (by unfold bigN; omega)
  have hcx : AObj.cells false [.int kn, .int i, .str (strOf nl), .sl las t1, .sl kas t2] = AObj.cells false [.int kn, .int i, .str (strOf nl), .sl las t1, .sl kas t2] := rfl
  -- the kids
  let KEnd : Env → List AObj → List Nat → Prop := fun E H' T' => ∃ B Z tb tt' es', H' = B ++ Z ∧ E 0 = .ptr x 0 ∧ E 5 = .sl (bytes wd) tb ∧ BaseOK B H x m (tabX m (entL tab kids).2.flatten tt') (.map es') ∧ MapT es' (entL tab kids).2 ∧ Two T tt T' wd tb (entL tab kids).2.flatten tt'
  have loopK : ∀ (Q : AExit → St → Prop) (E : Env) (b0 : List UInt8) (tb : Tl) (T1 : List Nat) (G : List AObj), E 0 = .ptr x 0 → E 3 = .ptr H.length 0 → E 5 = .sl (bytes b0) tb → E 60 = .sl kas t2 → E 61 = .int kas.length → E 62 = .int 0 → Two T tt T1 b0 tb tab.flatten tt → b0 = encN kn ++ (Tm.mk kn i (strOf nl) ls kids).pay →
      (∀ E H' T', KEnd E H' T' → Q (.exit 3) ⟨tmE 106 E, [], ⟨H', T'⟩⟩) → W (run md pfs) md kl37 ⟨tmE 106 E, [], ⟨H ++ (.cells false [.int kn, .int i, .str (strOf nl), .sl las t1, .sl kas t2] :: G), T1⟩⟩ Q () := by
    intro Q E b0 tb T1 G e0 e3 e5 e60 e61 e62 htwo hb0 hQ
    simp only [kl37, pf37]
    refine W_loopE (fun j => kas.length - j) (fun j E H' T' => ∃ B Z b tb tt' es', H' = B ++ Z ∧ E 0 = .ptr x 0 ∧ E 5 = .sl (bytes b) tb ∧ E 60 = .sl kas t2 ∧ E 61 = .int kas.length ∧ E 62 = .int (j : Nat) ∧ j ≤ kas.length ∧ BaseOK B H x m (tabX m (entL tab (kids.take j)).2.flatten tt') (.map es') ∧ MapT es' (entL tab (kids.take j)).2 ∧ Two T tt T' b tb (entL tab (kids.take j)).2.flatten tt' ∧ b = encN kn ++ ((Tm.mk kn i (strOf nl) ls kids).pay ++ (entL tab (kids.take j)).1.flatMap encN)) ?_ 0 ⟨H, _, b0, tb, tt, es, rfl, e0, e5, e60, e61, e62, Nat.zero_le _, by rw [List.take_zero, entL]; exact BaseOK.start hx hm, by rw [List.take_zero, entL]; exact hes, by rw [List.take_zero, entL]; exact htwo, by rw [List.take_zero, entL, hb0]; simp⟩
    clear e0 e3 e5 e60 e61 e62 htwo hb0 E b0 tb T1 G
    rintro j E H' T' ⟨B, Z, b, tb, tt', es', rfl, e0, e5, e60, e61, e62, hj, hB, hM, h2, hb⟩
    rcases Nat.lt_or_ge j kas.length with hlt | hge
    · have hdec : decide ((j : Int) < kas.length) = true := by simpa using hlt
      obtain ⟨y, c, d0, d1, d3, d4, d5, d6, d7, d8⟩ := g9.get tmAgg hlt
      have htk := entL_take (tab := tab) d0
      obtain ⟨mm, hmm⟩ := entL_pre_take (tab := tab) (l := kids) (j + 1)
      have hyB : (y.ent (entL tab (kids.take j)).2).2.flatten.length ≤ entB ∧ (y.ent (entL tab (kids.take j)).2).2.length ≤ entB := by
        rw [htk] at hmm
        rw [hmm] at hLB
        rw [List.flatten_append, List.length_append, List.length_append] at hLB
        simp only at hLB
        omega
      have hpos := ent_lt y (entL tab (kids.take j)).2
      obtain ⟨_, _, ⟨tt2, es2, T2, G2, rfl, rfl, q1, q2, q3⟩, cv⟩ := (ih y d3 (H := B ++ (Z ++ [.cells false c])) (T := T') d8 (hkR y d3) hyB.1 hyB.2 (app_get_of hB.2.1 _) (app_get_of hB.2.2.1 _) hM h2.appt).callRet rfl
      have hsx : (B ++ (Z ++ [AObj.cells false c])).set x (tabX m (y.ent (entL tab (kids.take j)).2).2.flatten tt2) = B.set x (tabX m (y.ent (entL tab (kids.take j)).2).2.flatten tt2) ++ (Z ++ [AObj.cells false c]) := set_app hB.2.1
      have hsm : (B.set x (tabX m (y.ent (entL tab (kids.take j)).2).2.flatten tt2) ++ (Z ++ [AObj.cells false c])).set m (.map es2) = (B.set x (tabX m (y.ent (entL tab (kids.take j)).2).2.flatten tt2)).set m (.map es2) ++ (Z ++ [AObj.cells false c]) := set_app (y := .map es') (by rw [List.getElem?_set_ne hxm]; exact hB.2.2.1)
      rw [hsx, hsm, List.append_assoc] at cv
      have hB' := hB.step hxm (tabX m (y.ent (entL tab (kids.take j)).2).2.flatten tt2) (.map es2)
      generalize hBn : (B.set x (tabX m (y.ent (entL tab (kids.take j)).2).2.flatten tt2)).set m (.map es2) = B' at cv hB'
      generalize hZn : Z ++ [AObj.cells false c] ++ G2 = Z' at cv
      have h3 := h2.t q2 q3
      generalize hpn : (y.ent (entL tab (kids.take j)).2).1 = pos at cv hpos
      have hbl : b.length + 9 ≤ capB := by
        have e1 : b.length = (encN kn).length + ((Tm.mk kn i (strOf nl) ls kids).pay.length + ((entL tab (kids.take j)).1.flatMap encN).length) := by rw [hb]; simp only [List.length_append]
        obtain ⟨pm, hpm⟩ := entL_pos_take (tab := tab) (l := kids) j
        rw [hpm, List.flatMap_append, List.length_append] at hwlen
        unfold capB; unfold entB at hwl; omega
      obtain ⟨_, _, ⟨tb3, T3, rfl, rfl, a3, o3⟩, k3⟩ := (appendNumber_rw (n := pos) (H := B' ++ Z') (T := T2) (by unfold bigN; have := hyB.2; unfold entB at this; omega) hbl h3.appb).call rfl
      have hnb : b ++ encN pos = encN kn ++ ((Tm.mk kn i (strOf nl) ls kids).pay ++ (entL tab (kids.take (j + 1))).1.flatMap encN) := by
        rw [htk, hb, ← hpn]; simp only [List.flatMap_append, List.flatMap_cons, List.flatMap_nil, List.append_nil, List.append_assoc]
      generalize hbn : b ++ encN pos = b' at a3 k3 hnb
      simp only [↓wpre, wset, wcore, ne_eq, if_true, if_false, exists_eq_left', true_implies, false_implies, exists_const, exists_eq_right, binA, intA, loadA, storeA, pickC, setAt, mapO, argsE, X.isC, resA, oneA, unA, boundA, eqiA, eqsA, fillA, fillE, ASt.fz, strA, Nat.reduceEqDiff, Nat.reduceLT, ↓reduceIte, reduceCtorEq, Nat.reduceAdd, Nat.reduceLeDiff, Int.reduceBEq, Int.reduceBNe, Int.reduceLT, Int.reduceLE, Int.reduceGT, Int.reduceGE, Nat.reduceDiv, Nat.reduceMul, Nat.reduceBEq, Nat.reduceMod, Nat.reduceSub, List.length_append, List.append_assoc, app_get_len, app_get_add, app_set_len, app_set_add, e0, e5, e60, e61, e62, hdec, d4, d5, d6, d7, hallk, cv, k3]
      exact EQ_in ⟨j + 1, by omega, B', Z', b', tb3, tt2, es2, rfl, e0, rfl, e60, e61, next_ixv (by unfold lenB at *; omega), by omega, by rw [htk]; exact hB', by rw [htk]; exact q1, by rw [htk]; exact h3.b a3 o3, hnb⟩
    · have hdec : decide ((j : Int) < kas.length) = false := by simpa using hge
      rw [List.take_of_length_le (by omega)] at hB hM h2 hb
      simp only [↓wpre, wset, wcore, ne_eq, if_true, if_false, exists_eq_left', true_implies, false_implies, exists_const, exists_eq_right, binA, intA, loadA, storeA, pickC, setAt, mapO, argsE, X.isC, resA, oneA, unA, boundA, eqiA, eqsA, fillA, fillE, ASt.fz, strA, Nat.reduceEqDiff, Nat.reduceLT, ↓reduceIte, reduceCtorEq, Nat.reduceAdd, Nat.reduceLeDiff, Int.reduceBEq, Int.reduceBNe, Int.reduceLT, Int.reduceLE, Int.reduceGT, Int.reduceGE, Nat.reduceDiv, Nat.reduceMul, Nat.reduceBEq, Nat.reduceMod, Nat.reduceSub, List.length_append, List.append_assoc, app_get_len, app_get_add, app_set_len, app_set_add, e0, e5, e60, e61, e62, hdec]
      exact hQ _ _ _ ⟨B, Z, tb, tt', es', rfl, e0, by rw [← hW, ← hb]; exact e5, hB, hM, by rw [← hW, ← hb]; exact h2⟩
  have endK : ∀ E H' T', KEnd E H' T' → W (run md pfs) md rest37 ⟨tmE 106 E, [], ⟨H', T'⟩⟩ (SQ [.t 4] (EnterP x m H T tt tab (.mk kn i (strOf nl) ls kids)) fun _ _ => False) () := by
    rintro E H' T' ⟨B, Z, tb, tt', es', rfl, e0, e5, hB, hM, h2⟩
    have hgx : ∀ Z, (B ++ Z)[x]? = some (.cells false [.mp m, .sl (bytes (entL tab kids).2.flatten) tt']) := fun Z => app_get_of hB.2.1 Z
    have hgm : ∀ Z, (B ++ Z)[m]? = some (.map es') := fun Z => app_get_of hB.2.2.1 Z
    have hlk := hM.2 wd
    have hko : ∀ z, keyOK true (.str z) = true := fun _ => rfl
    by_cases hw : wd ∈ (entL tab kids).2
    · rw [if_pos hw] at hlk
      simp only [rest37, pf37, ↓wpre, wset, wcore, ne_eq, if_true, if_false, exists_eq_left', true_implies, false_implies, exists_const, exists_eq_right, binA, intA, loadA, storeA, pickC, setAt, mapO, argsE, X.isC, resA, oneA, unA, boundA, eqiA, eqsA, fillA, fillE, ASt.fz, strA, Nat.reduceEqDiff, Nat.reduceLT, ↓reduceIte, reduceCtorEq, Nat.reduceAdd, Nat.reduceLeDiff, Int.reduceBEq, Int.reduceBNe, Int.reduceLT, Int.reduceLE, Int.reduceGT, Int.reduceGE, Nat.reduceDiv, Nat.reduceMul, Nat.reduceBEq, Nat.reduceMod, Nat.reduceSub, e0, e5, hgx, hgm, elemsA_sl, bytesA_bytes, bytes_str, hlk, hko]
      refine ⟨tt', es', T', Z, ?_, ?_, ?_, ?_, h2.oth⟩
      · rw [hent, if_pos hw]
      · rw [hent, if_pos hw]; simp only; rw [← hB.eq]
      · rw [hent, if_pos hw]; exact hM
      · rw [hent, if_pos hw]; exact h2.appt
    · rw [if_neg hw] at hlk
      obtain ⟨u1, u2⟩ := mapT_add hM hw
      have hsm : (B ++ Z).set m (.map (es' ++ [(AV.str (strOf wd), AV.int ↑es'.length)])) = B.set m (.map (es' ++ [(AV.str (strOf wd), AV.int ↑es'.length)])) ++ Z := set_app hB.2.2.1
      have hBm : (B.set m (.map (es' ++ [(AV.str (strOf wd), AV.int ↑es'.length)])))[x]? = some (.cells false [.mp m, .sl (bytes (entL tab kids).2.flatten) tt']) := by rw [List.getElem?_set_ne (Ne.symm hxm)]; exact hB.2.1
      have hgx2 : ∀ Z, (B.set m (.map (es' ++ [(AV.str (strOf wd), AV.int ↑es'.length)])) ++ Z)[x]? = some (.cells false [.mp m, .sl (bytes (entL tab kids).2.flatten) tt']) := fun Z => app_get_of hBm Z
      have hnew : Tm.ent tab (.mk kn i (strOf nl) ls kids) = ((entL tab kids).2.length, (entL tab kids).2 ++ [wd]) := by rw [hent, if_neg hw]
      have hfl : ((entL tab kids).2 ++ [wd]).flatten = (entL tab kids).2.flatten ++ wd := by simp
      have hfB : (entL tab kids).2.flatten.length + wd.length ≤ entB := by rw [hnew, hfl, List.length_append] at hB1; exact hB1
      obtain ⟨t9, T9, f1, f2, f3⟩ := app_many (es := 1) (xs := bytes wd) h2.appt (by rw [bytes_len, bytes_len]; unfold capB; unfold entB at hfB; omega) (bytes_all _) (bytes_all2 _)
      rw [← bytes_app, ← hfl] at f1 f2
      have hsx : ∀ X', (B.set m (.map (es' ++ [(AV.str (strOf wd), AV.int ↑es'.length)])) ++ Z).set x X' = (B.set m (.map (es' ++ [(AV.str (strOf wd), AV.int ↑es'.length)]))).set x X' ++ Z := fun X' => set_app hBm
      generalize hes2 : es' ++ [(AV.str (strOf wd), AV.int ↑es'.length)] = es2 at u1 u2 hsm hBm hgx2 hsx
      generalize hBn : B.set m (.map es2) = B2 at hsm hgx2 hsx hBm
      simp only [rest37, pf37, ↓wpre, wset, wcore, ne_eq, if_true, if_false, exists_eq_left', true_implies, false_implies, exists_const, exists_eq_right, binA, intA, loadA, storeA, pickC, setAt, mapO, argsE, X.isC, resA, oneA, unA, boundA, eqiA, eqsA, fillA, fillE, ASt.fz, strA, Nat.reduceEqDiff, Nat.reduceLT, ↓reduceIte, reduceCtorEq, Nat.reduceAdd, Nat.reduceLeDiff, Int.reduceBEq, Int.reduceBNe, Int.reduceLT, Int.reduceLE, Int.reduceGT, Int.reduceGE, Nat.reduceDiv, Nat.reduceMul, Nat.reduceBEq, Nat.reduceMod, Nat.reduceSub, e0, e5, hgx, hgm, elemsA_sl, bytesA_bytes, bytes_str, hlk, hko, u1, hsm, hgx2, srcA_sl, f1, hsx]
      refine ⟨t9, es2, T9, Z, ?_, ?_, ?_, ?_, h2.oth.trans f3⟩
      · rw [hnew, hM.1]
      · rw [hnew, ← hB.2.2.2, ← hBn, List.set_comm _ _ hxm]; rfl
      · rw [hnew]; exact u2
      · rw [hnew]; exact f2
  have hcapw : (encN kn).length + (Tm.mk kn i (strOf nl) ls kids).pay.length + 9 ≤ capB := by unfold capB; unfold entB at hwl; omega
  refine sh_of pf37_is (Nat.le_of_ble_eq_true rfl) ?_
  by_cases h0 : kn = 0
  · have hii := r7 (by omega)
    have hpay : (Tm.mk kn i (strOf nl) ls kids).pay = encN i.toNat := by
      show (if (kn : Int) = 0 ∨ (kn : Int) = 12 then encN i.toNat else if (kn : Int) = 2 then encL (ls.headD ⟨0, []⟩) else if (kn : Int) = 3 then encN (strOf nl).size ++ ((strOf nl).toList ++ (encN ls.length ++ ls.flatMap encL)) else []) = _
      rw [if_pos (by omega)]
    rw [hpay] at hcapw
    obtain ⟨_, _, ⟨tb2, T2, rfl, rfl, a2, o2⟩, k2⟩ := (appendNumber_rw (n := i.toNat) (H := H ++ [.cells false [.int kn, .int i, .str (strOf nl), .sl las t1, .sl kas t2]]) (T := T1) (by unfold bigN; omega) (by have := encN_pos i.toNat; omega) a1).call rfl
    rw [show ((i.toNat : Nat) : Int) = i by omega] at k2
    have q0 : ((kn : Int) == 0) = true := by simp; omega
    simp only [pf37, ↓wpre, wset, wcore, ne_eq, if_true, if_false, exists_eq_left', true_implies, false_implies, exists_const, exists_eq_right, binA, intA, loadA, storeA, pickC, setAt, mapO, argsE, X.isC, resA, oneA, unA, boundA, eqiA, eqsA, fillA, fillE, ASt.fz, strA, Nat.reduceEqDiff, Nat.reduceLT, ↓reduceIte, reduceCtorEq, Nat.reduceAdd, Nat.reduceLeDiff, Int.reduceBEq, Int.reduceBNe, Int.reduceLT, Int.reduceLE, Int.reduceGT, Int.reduceGE, Nat.reduceDiv, Nat.reduceMul, Nat.reduceBEq, Nat.reduceMod, Nat.reduceSub, List.length_append, List.append_assoc, app_get_len, app_get_add, app_set_len, app_set_add, q0, k1, k2]
    exact loopK _ _ _ tb2 _ [] rfl rfl rfl rfl rfl rfl (w1.b a2 o2) (by rw [hpay]) (fun E H' T' hk => by
      simp only [BQ_e, LQ_n]
      exact endK E H' T' hk)
  by_cases h12 : kn = 12
  · have hii := r7 (by omega)
    have hpay : (Tm.mk kn i (strOf nl) ls kids).pay = encN i.toNat := by
      show (if (kn : Int) = 0 ∨ (kn : Int) = 12 then encN i.toNat else if (kn : Int) = 2 then encL (ls.headD ⟨0, []⟩) else if (kn : Int) = 3 then encN (strOf nl).size ++ ((strOf nl).toList ++ (encN ls.length ++ ls.flatMap encL)) else []) = _
      rw [if_pos (by omega)]
    rw [hpay] at hcapw
    obtain ⟨_, _, ⟨tb2, T2, rfl, rfl, a2, o2⟩, k2⟩ := (appendNumber_rw (n := i.toNat) (H := H ++ [.cells false [.int kn, .int i, .str (strOf nl), .sl las t1, .sl kas t2]]) (T := T1) (by unfold bigN; omega) (by have := encN_pos i.toNat; omega) a1).call rfl
    rw [show ((i.toNat : Nat) : Int) = i by omega] at k2
    have q0 : ((kn : Int) == 0) = false := by simp only [beq_eq_false_iff_ne, ne_eq]; omega
    have q12 : ((kn : Int) == 12) = true := by simp; omega
    simp only [pf37, ↓wpre, wset, wcore, ne_eq, if_true, if_false, exists_eq_left', true_implies, false_implies, exists_const, exists_eq_right, binA, intA, loadA, storeA, pickC, setAt, mapO, argsE, X.isC, resA, oneA, unA, boundA, eqiA, eqsA, fillA, fillE, ASt.fz, strA, Nat.reduceEqDiff, Nat.reduceLT, ↓reduceIte, reduceCtorEq, Nat.reduceAdd, Nat.reduceLeDiff, Int.reduceBEq, Int.reduceBNe, Int.reduceLT, Int.reduceLE, Int.reduceGT, Int.reduceGE, Nat.reduceDiv, Nat.reduceMul, Nat.reduceBEq, Nat.reduceMod, Nat.reduceSub, List.length_append, List.append_assoc, app_get_len, app_get_add, app_set_len, app_set_add, q0, q12, k1, k2]
    exact loopK _ _ _ tb2 _ [] rfl rfl rfl rfl rfl rfl (w1.b a2 o2) (by rw [hpay]) (fun E H' T' hk => by
      simp only [BQ_e, LQ_n]
      exact endK E H' T' hk)
  by_cases h2 : kn = 2
  · have hls := r3 (by omega)
    obtain ⟨lv, rfl⟩ : ∃ lv, ls = [lv] := by
      match ls, hls with
      | [lv], _ => exact ⟨lv, rfl⟩
    have hpay : (Tm.mk kn i (strOf nl) [lv] kids).pay = encL lv := by
      show (if (kn : Int) = 0 ∨ (kn : Int) = 12 then encN i.toNat else if (kn : Int) = 2 then encL lv else _) = _
      rw [if_neg (by omega), if_pos (by omega)]
    rw [hpay] at hcapw
    obtain ⟨x2, c, d0, d1, d3, d4, d5, d6, d7, d8⟩ := g8.get lvAgg (i := 0) (by rw [hl1]; exact Nat.zero_lt_one)
    have hx2 : lv = x2 := Option.some.inj d0
    subst hx2
    obtain ⟨_, _, ⟨tb2, T2, G2, rfl, rfl, a2, o2⟩, k2⟩ := (appendLevel_rw (H := H ++ [.cells false [.int kn, .int i, .str (strOf nl), .sl las t1, .sl kas t2]]) (T := T1) d8 (hv lv (List.mem_cons_self)) (by omega) a1).call rfl
    have q0 : ((kn : Int) == 0) = false := by simp only [beq_eq_false_iff_ne, ne_eq]; omega
    have q12 : ((kn : Int) == 12) = false := by simp only [beq_eq_false_iff_ne, ne_eq]; omega
    have q2 : ((kn : Int) == 2) = true := by simp; omega
    simp only [pf37, ↓wpre, wset, wcore, ne_eq, if_true, if_false, exists_eq_left', true_implies, false_implies, exists_const, exists_eq_right, binA, intA, loadA, storeA, pickC, setAt, mapO, argsE, X.isC, resA, oneA, unA, boundA, eqiA, eqsA, fillA, fillE, ASt.fz, strA, Nat.reduceEqDiff, Nat.reduceLT, ↓reduceIte, reduceCtorEq, Nat.reduceAdd, Nat.reduceLeDiff, Int.reduceBEq, Int.reduceBNe, Int.reduceLT, Int.reduceLE, Int.reduceGT, Int.reduceGE, Nat.reduceDiv, Nat.reduceMul, Nat.reduceBEq, Nat.reduceMod, Nat.reduceSub, List.length_append, List.append_assoc, app_get_len, app_get_add, app_set_len, app_set_add, q0, q12, q2, k1, k2, d4, d5, d6, hall]
    exact loopK _ _ _ tb2 _ G2 rfl rfl rfl rfl rfl rfl (w1.b a2 o2) (by rw [hpay]) (fun E H' T' hk => by
      simp only [BQ_e, LQ_n]
      exact endK E H' T' hk)
  have q0 : ((kn : Int) == 0) = false := by simp only [beq_eq_false_iff_ne, ne_eq]; omega
  have q12 : ((kn : Int) == 12) = false := by simp only [beq_eq_false_iff_ne, ne_eq]; omega
  have q2 : ((kn : Int) == 2) = false := by simp only [beq_eq_false_iff_ne, ne_eq]; omega
  by_cases h3 : kn = 3
  · have hls := r4 (by omega)
    have hpay : (Tm.mk kn i (strOf nl) ls kids).pay = encN nl.length ++ (nl ++ (encN las.length ++ ls.flatMap encL)) := by
      show (if (kn : Int) = 0 ∨ (kn : Int) = 12 then encN i.toNat else if (kn : Int) = 2 then encL (ls.headD ⟨0, []⟩) else if (kn : Int) = 3 then encN (strOf nl).size ++ ((strOf nl).toList ++ (encN ls.length ++ ls.flatMap encL)) else []) = _
      rw [if_neg (by omega), if_neg (by omega), if_pos (by omega), strOf_size, strOf_toList, hl1]
    rw [hpay] at hcapw
    simp only [List.length_append] at hcapw
    replace hn6 : nl.length ≤ 65536 := by
      have : (strOf nl).size ≤ 65536 := hn6
      rwa [strOf_size] at this
    have hnsz : (strOf nl).size = nl.length := strOf_size nl
    have hsrc : ∀ s : ASt, srcA s (.v (.string (strOf nl))) = some (bytes nl) := fun s => by rw [srcA_str, strOf_toList]; rfl
    obtain ⟨_, _, ⟨tb2, T2, rfl, rfl, a2, o2⟩, k2⟩ := (appendNumber_rw (n := nl.length) (H := H ++ [.cells false [.int kn, .int i, .str (strOf nl), .sl las t1, .sl kas t2]]) (T := T1) (by unfold bigN; omega) (by omega) a1).call rfl
    generalize hb2 : encN kn ++ encN nl.length = b2 at a2 k2
    have hl2b : b2.length = (encN kn).length + (encN nl.length).length := by rw [← hb2, List.length_append]
    obtain ⟨tb3, T3, f1, f2, f3⟩ := app_many (es := 1) (xs := bytes nl) a2 (by rw [bytes_len, bytes_len]; omega) (bytes_all _) (bytes_all2 _)
    rw [← bytes_app] at f1 f2
    generalize hb3 : b2 ++ nl = b3 at f1 f2
    have hl3b : b3.length = b2.length + nl.length := by rw [← hb3, List.length_append]
    obtain ⟨_, _, ⟨tb4, T4, rfl, rfl, a4, o4⟩, k4⟩ := (appendNumber_rw (n := las.length) (H := H ++ [.cells false [.int kn, .int i, .str (strOf nl), .sl las t1, .sl kas t2]]) (T := T3) (by unfold bigN; omega) (by omega) f2).call rfl
    generalize hb4 : b3 ++ encN las.length = b4 at a4 k4
    have w4 := ((w1.b a2 o2).b f2 f3).b a4 o4
    have hb4e : b4 = encN kn ++ (encN nl.length ++ (nl ++ encN las.length)) := by rw [← hb4, ← hb3, ← hb2]; simp only [List.append_assoc]
    have q3 : ((kn : Int) == 3) = true := by simp; omega
    simp only [pf37, ↓wpre, wset, wcore, ne_eq, if_true, if_false, exists_eq_left', true_implies, false_implies, exists_const, exists_eq_right, binA, intA, loadA, storeA, pickC, setAt, mapO, argsE, X.isC, resA, oneA, unA, boundA, eqiA, eqsA, fillA, fillE, ASt.fz, strA, Nat.reduceEqDiff, Nat.reduceLT, ↓reduceIte, reduceCtorEq, Nat.reduceAdd, Nat.reduceLeDiff, Int.reduceBEq, Int.reduceBNe, Int.reduceLT, Int.reduceLE, Int.reduceGT, Int.reduceGE, Nat.reduceDiv, Nat.reduceMul, Nat.reduceBEq, Nat.reduceMod, Nat.reduceSub, List.length_append, List.append_assoc, app_get_len, app_get_add, app_set_len, app_set_add, q0, q12, q2, q3, k1, hnsz, k2, hsrc, f1, k4]
    refine W_loopE (fun j => las.length - j) (fun j E H' T' => ∃ G cur tb, H' = H ++ (.cells false [.int kn, .int i, .str (strOf nl), .sl las t1, .sl kas t2] :: G) ∧ E 0 = .ptr x 0 ∧ E 3 = .ptr H.length 0 ∧ E 5 = .sl (bytes cur) tb ∧ E 49 = .sl las t1 ∧ E 50 = .int las.length ∧ E 51 = .int (j : Nat) ∧ j ≤ las.length ∧ Two T tt T' cur tb tab.flatten tt ∧ cur = b4 ++ (ls.take j).flatMap encL) ?_ 0 ⟨[], _, tb4, rfl, rfl, rfl, rfl, rfl, rfl, rfl, Nat.zero_le _, w4, by simp⟩
    rintro j E H' T' ⟨G, cur, tb, rfl, e0, e3, e5, e49, e50, e51, hj, h2w, hcur⟩
    rcases Nat.lt_or_ge j las.length with hlt | hge
    · have hdec : decide ((j : Int) < las.length) = true := by simpa using hlt
      obtain ⟨y, c, d0, d1, d3, d4, d5, d6, d7, d8⟩ := g8.get lvAgg hlt
      have hfl := flat_le (f := encL) d0
      have hcl : cur.length = b4.length + ((ls.take j).flatMap encL).length := by rw [hcur, List.length_append]
      have hb4l : b4.length = b3.length + (encN las.length).length := by rw [← hb4, List.length_append]
      obtain ⟨_, _, ⟨tb5, T5, G5, rfl, rfl, a5, o5⟩, k5⟩ := (appendLevel_rw (H := H ++ (.cells false [.int kn, .int i, .str (strOf nl), .sl las t1, .sl kas t2] :: (G ++ [.cells false c]))) (T := T') d8 (hv y d3) (by omega) h2w.appb).call rfl
      have hst : cur ++ encL y = b4 ++ (ls.take (j + 1)).flatMap encL := by rw [flat_step d0, hcur, List.append_assoc]
      generalize hnx : cur ++ encL y = nxt at a5 k5 hst
      simp only [↓wpre, wset, wcore, ne_eq, if_true, if_false, exists_eq_left', true_implies, false_implies, exists_const, exists_eq_right, binA, intA, loadA, storeA, pickC, setAt, mapO, argsE, X.isC, resA, oneA, unA, boundA, eqiA, eqsA, fillA, fillE, ASt.fz, strA, Nat.reduceEqDiff, Nat.reduceLT, ↓reduceIte, reduceCtorEq, Nat.reduceAdd, Nat.reduceLeDiff, Int.reduceBEq, Int.reduceBNe, Int.reduceLT, Int.reduceLE, Int.reduceGT, Int.reduceGE, Nat.reduceDiv, Nat.reduceMul, Nat.reduceBEq, Nat.reduceMod, Nat.reduceSub, List.length_append, List.append_assoc, app_get_len, app_get_add, app_set_len, app_set_add, e0, e3, e5, e49, e50, e51, hdec, d4, d5, d6, d7, hall, k5]
      exact EQ_in ⟨j + 1, by omega, _, _, _, rfl, e0, e3, rfl, e49, e50, next_ixv (by unfold lenB at *; omega), by omega, h2w.b a5 o5, hst⟩
    · have hdec : decide ((j : Int) < las.length) = false := by simpa using hge
      rw [List.take_of_length_le (by omega)] at hcur
      simp only [↓wpre, wset, wcore, ne_eq, if_true, if_false, exists_eq_left', true_implies, false_implies, exists_const, exists_eq_right, binA, intA, loadA, storeA, pickC, setAt, mapO, argsE, X.isC, resA, oneA, unA, boundA, eqiA, eqsA, fillA, fillE, ASt.fz, strA, Nat.reduceEqDiff, Nat.reduceLT, ↓reduceIte, reduceCtorEq, Nat.reduceAdd, Nat.reduceLeDiff, Int.reduceBEq, Int.reduceBNe, Int.reduceLT, Int.reduceLE, Int.reduceGT, Int.reduceGE, Nat.reduceDiv, Nat.reduceMul, Nat.reduceBEq, Nat.reduceMod, Nat.reduceSub, List.length_append, List.append_assoc, app_get_len, app_get_add, app_set_len, app_set_add, e0, e3, e5, e49, e50, e51, hdec]
      exact loopK _ _ _ tb _ G e0 e3 e5 rfl rfl rfl h2w (by rw [hpay, hcur, hb4e]; simp only [List.append_assoc]) (fun E H' T' hk => by
        simp only [BQ_e, LQ_n]
        exact endK E H' T' hk)
  · have hpay : (Tm.mk kn i (strOf nl) ls kids).pay = [] := by
      show (if (kn : Int) = 0 ∨ (kn : Int) = 12 then encN i.toNat else if (kn : Int) = 2 then encL (ls.headD ⟨0, []⟩) else if (kn : Int) = 3 then encN (strOf nl).size ++ ((strOf nl).toList ++ (encN ls.length ++ ls.flatMap encL)) else []) = _
      rw [if_neg (by omega), if_neg (by omega), if_neg (by omega)]
    have q3 : ((kn : Int) == 3) = false := by simp only [beq_eq_false_iff_ne, ne_eq]; omega
    simp only [pf37, ↓wpre, wset, wcore, ne_eq, if_true, if_false, exists_eq_left', true_implies, false_implies, exists_const, exists_eq_right, binA, intA, loadA, storeA, pickC, setAt, mapO, argsE, X.isC, resA, oneA, unA, boundA, eqiA, eqsA, fillA, fillE, ASt.fz, strA, Nat.reduceEqDiff, Nat.reduceLT, ↓reduceIte, reduceCtorEq, Nat.reduceAdd, Nat.reduceLeDiff, Int.reduceBEq, Int.reduceBNe, Int.reduceLT, Int.reduceLE, Int.reduceGT, Int.reduceGE, Nat.reduceDiv, Nat.reduceMul, Nat.reduceBEq, Nat.reduceMod, Nat.reduceSub, List.length_append, List.append_assoc, app_get_len, app_get_add, app_set_len, app_set_add, q0, q12, q2, q3, k1]
    exact loopK _ _ _ tb1 _ [] rfl rfl rfl rfl rfl rfl w1 (by rw [hpay]; simp) (fun E H' T' hk => by
      simp only [BQ_e, LQ_n]
      exact endK E H' T' hk)
end Go.Proofs.Eng
