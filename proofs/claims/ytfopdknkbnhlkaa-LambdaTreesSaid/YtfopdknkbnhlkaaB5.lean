/- B5: what functions of the program return. No conditions beyond those in the theorems. -/
import Derived.Test.YtfopdknkbnhlkaaB4
set_option linter.all false
set_option linter.deprecated false
set_option linter.unnecessarySimpa false
set_option linter.unusedVariables false
set_option linter.unusedSimpArgs false
set_option linter.defProp false
namespace Go.Proofs.Eng
open Go Go.Proofs
set_option maxRecDepth 100000
theorem upA_str (n : ByteArray) (x : AV) : ∀ es : List (AV × AV), lookA (.str n) es ≠ none → ∃ es', upA (.str n) x es = some es' ∧ ∀ m, lookA (.str m) es' = if m = n then some (some x) else lookA (.str m) es
  | [], _ => ⟨[(.str n, x)], rfl, fun m => by
      simp only [lookA, keyEq, str_beq]
      by_cases h : m = n <;> simp [h]⟩
  | (k', y) :: es, h => by
    cases hk : keyEq (.str n) k' with
    | none => rw [lookA, hk] at h; exact absurd rfl h
    | some b =>
      have hk' : ∃ a, k' = .str a := by
        cases k' with
        | v z => cases z with
          | string a => exact ⟨a, rfl⟩
          | _ => simp [keyEq] at hk
        | _ => simp [keyEq] at hk
      obtain ⟨a, rfl⟩ := hk'
      simp only [keyEq, str_beq, Option.some.injEq] at hk
      subst hk
      by_cases ha : n = a
      · subst ha
        refine ⟨(.str n, x) :: es, by simp [upA, keyEq, str_beq], fun m => ?_⟩
        simp only [lookA, keyEq, str_beq]
        by_cases h : m = n <;> simp [h]
      · simp only [lookA, keyEq, str_beq, ha, decide_false] at h
        obtain ⟨es', h1, h2⟩ := upA_str n x es h
        refine ⟨(.str a, y) :: es', by simp [upA, keyEq, str_beq, ha, h1], fun m => ?_⟩
        simp only [lookA, keyEq, str_beq, h2]
        by_cases h : m = a
        · subst h; simp [Ne.symm ha]
        · simp [h]
theorem MapSet.up {es : List (AV × AV)} {gl : ByteArray → Bool} (h : MapSet es gl) (n : ByteArray) : ∃ es', upA (.str n) (.v (.bool true)) es = some es' ∧ MapSet es' fun m => gl m || decide (m = n) := by
  obtain ⟨es', h1, h2⟩ := upA_str n (.v (.bool true)) es (by rw [h n]; simp)
  refine ⟨es', h1, fun m => ?_⟩
  rw [h2 m, h m]
  by_cases hm : m = n <;> simp [hm]
theorem MapSet.nil : MapSet [] fun _ => false := fun n => by simp [lookA]
theorem MapSet.congr {es : List (AV × AV)} {gl gl' : ByteArray → Bool} (h : MapSet es gl) (e : ∀ n, gl n = gl' n) : MapSet es gl' := fun n => by rw [h n, e n]
theorem gfind_any (n : ByteArray) : ∀ gs : List Gl, (gfind gs n).isSome = gs.any fun g => decide (g.1 = n)
  | [] => rfl
  | g :: gs => by
    rw [gfind, List.any_cons]
    by_cases h : g.1 = n
    · simp [h]
    · simp [h, gfind_any n gs]
theorem check1_sh {p : Pr} {gas : List AV} {tg : Tl} {c : List AV} (hp : p.Is (.agg (.sl gas tg :: c))) {pi : Nat} {fz : Bool} {H0 : List AObj} {T : List Nat} (hpi : H0[pi]? = some (.cells fz (.sl gas tg :: c))) :
    Sh md pfs 36 [.ptr pi 0] ⟨H0, T⟩ (fun x s' => p.check = 0 ∧ x = .tup [] ∧ More H0 s') (fun x s' => p.check ≠ 0 ∧ x = wr p.check ∧ More H0 s') := by
  have hmore : ∀ G T, More H0 ⟨H0 ++ G, T⟩ := fun G T => ⟨G, T, rfl⟩
  obtain ⟨h1, h2, h3, h4, h5, h6, h7, h8, h9, h10⟩ : _ ∧ _ ∧ _ ∧ _ ∧ _ ∧ _ ∧ _ ∧ _ ∧ _ ∧ _ := by
    obtain ⟨gas', tg', c', e, h⟩ := hp
    cases e; exact h
  have hc := app_get_of hpi
  have hl := h3.len
  have tl0 : tabL.length = 12 := rfl
  have tl1 : ∀ x, (tabL ++ [x]).length = 13 := fun _ => rfl
  have tl2 : ∀ x, (tabL ++ [x]).take 12 = tabL := fun _ => rfl
  have tl3 : ∀ x, (tabL ++ [x]).drop 13 = [] := fun _ => rfl
  have tl4 : ∀ x, (tabL ++ [x]).drop 12 = [x] := fun _ => rfl
  obtain ⟨_, rfl, ct⟩ := checks_ret.call rfl (by simp [pvs_nil])
  refine sh_of pf36_is (Nat.le_of_ble_eq_true rfl) ?_
  simp only [Pr.check]
  rw [← hl]
  cases b0 : decide ((gas.length : Int) > 1000)
  · have b0' : decide ((gas.length : Int) ≤ 1000) = true := by simp at b0 ⊢; omega
    simp only [pf36, ↓wpre, wset, wcore, ne_eq, if_true, if_false, exists_eq_left', true_implies, false_implies, exists_const, exists_eq_right, binA, intA, loadA, storeA, pickC, setAt, mapO, argsE, X.isC, resA, oneA, unA, boundA, eqiA, eqsA, fillA, fillE, ASt.fz, strA, Nat.reduceEqDiff, Nat.reduceLT, ↓reduceIte, reduceCtorEq, Nat.reduceAdd, Nat.reduceLeDiff, Int.reduceBEq, Int.reduceBNe, Int.reduceLT, Int.reduceLE, Int.reduceGT, Int.reduceGE, Nat.reduceDiv, Nat.reduceMul, List.length_append, List.append_assoc, app_get_len, app_get_add, app_set_len, app_set_add, hc, hpi, b0', dem_t, ct, tl0, tl1, tl2, tl3]
    refine W_loopE (fun j => gas.length - j) (fun j E H T => ∃ es G, H = H0 ++ (.map es :: .cells false (tabL ++ [.mp H0.length]) :: G) ∧ E 0 = .ptr pi 0 ∧ E 1 = .ptr (H0.length + 1) 0 ∧ E 17 = .sl gas tg ∧ E 18 = .int gas.length ∧ E 19 = .int j ∧ j ≤ gas.length ∧ MapSet es fun n => (p.gs.take j).any fun g => decide (g.1 = n)) ?_ 0 ⟨[], [], rfl, rfl, rfl, rfl, rfl, rfl, Nat.zero_le _, MapSet.nil⟩
    rintro j E H T ⟨es, G, rfl, e0, e1, e17, e18, e19, hj, hS⟩
    rcases Nat.lt_or_ge j gas.length with hlt | hge
    · obtain ⟨g, _, d0, d1, d3, d4, ⟨c2, rfl, hns, hg⟩⟩ := h3.at hlt
      obtain ⟨c3, e, b1, b2⟩ := exAgg.cells hg
      cases e
      have b3 : c2.take 5 = c2 := List.take_of_length_le (by omega)
      have hdec : decide ((j : Int) < gas.length) = true := by simpa using hlt
      obtain ⟨es', hup, hS'⟩ := hS.up g.1
      simp only [↓wpre, wset, wcore, ne_eq, if_true, if_false, exists_eq_left', true_implies, false_implies, exists_const, exists_eq_right, binA, intA, loadA, storeA, pickC, setAt, mapO, argsE, X.isC, resA, oneA, unA, boundA, eqiA, eqsA, fillA, fillE, ASt.fz, strA, Nat.reduceEqDiff, Nat.reduceLT, ↓reduceIte, reduceCtorEq, Nat.reduceAdd, Nat.reduceLeDiff, Int.reduceBEq, Int.reduceBNe, Int.reduceLT, Int.reduceLE, Int.reduceGT, Int.reduceGE, Nat.reduceDiv, Nat.reduceMul, List.length_append, List.append_assoc, app_get_len, app_get_add, app_set_len, app_set_add, hc, e0, e1, e17, e18, e19, hdec, d4, h10, b1, b2, b3, tl4, hup, keyOK]
      refine EQ_in ⟨j + 1, by omega, es', _, rfl, e0, e1, e17, e18, next_ixv (by omega), by omega, hS'.congr fun n => ?_⟩
      rw [List.take_add_one, d0]; simp [List.any_append, eq_comm]
    · have hdec : decide ((j : Int) < gas.length) = false := by simpa using hge
      rw [List.take_of_length_le (by omega)] at hS
      have hgl : MapSet es p.gl := hS.congr fun n => (gfind_any n p.gs).symm
      clear hS
      simp only [↓wpre, wset, wcore, ne_eq, if_true, if_false, exists_eq_left', true_implies, false_implies, exists_const, exists_eq_right, binA, intA, loadA, storeA, pickC, setAt, mapO, argsE, X.isC, resA, oneA, unA, boundA, eqiA, eqsA, fillA, fillE, ASt.fz, strA, Nat.reduceEqDiff, Nat.reduceLT, ↓reduceIte, reduceCtorEq, Nat.reduceAdd, Nat.reduceLeDiff, Int.reduceBEq, Int.reduceBNe, Int.reduceLT, Int.reduceLE, Int.reduceGT, Int.reduceGE, Nat.reduceDiv, Nat.reduceMul, List.length_append, List.append_assoc, app_get_len, app_get_add, app_set_len, app_set_add, hc, e0, e1, e17, e18, e19, hdec]
      refine W_loopE (fun j => gas.length - j) (fun j E H T => ∃ seen G2, H = H0 ++ (.map es :: .cells false (tabL ++ [.mp H0.length]) :: (G ++ (.map seen :: G2))) ∧ E 0 = .ptr pi 0 ∧ E 1 = .ptr (H0.length + 1) 0 ∧ E 4 = .mp (H0.length + (G.length + 1 + 1)) ∧ E 32 = .sl gas tg ∧ E 33 = .int gas.length ∧ E 34 = .int j ∧ j ≤ gas.length ∧ (MapSet seen fun n => (p.gs.take j).any fun g => decide (g.1 = n)) ∧ p.go (p.gs.take j) (p.gs.drop j) = p.go [] p.gs) ?_ 0 ⟨[], [], rfl, e0, e1, rfl, rfl, rfl, rfl, Nat.zero_le _, MapSet.nil, rfl⟩
      clear hj e17 e18 e19 hdec hge e0 e1 E j T
      rintro j E H T ⟨seen, G2, rfl, e0, e1, e4, e32, e33, e34, hj, hS, hn⟩
      rcases Nat.lt_or_ge j gas.length with hlt | hge
      · obtain ⟨g, _, d0, d1, d3, d4, ⟨c2, rfl, hns, hg⟩⟩ := h3.at hlt
        obtain ⟨c3, e, b1, b2⟩ := exAgg.cells hg
        cases e
        have b3 : c2.take 5 = c2 := List.take_of_length_le (by omega)
        have hdec : decide ((j : Int) < gas.length) = true := by simpa using hlt
        rw [d1, Pr.go] at hn
        obtain ⟨_, rfl, cn⟩ := (name_ret g.1 hns).call rfl (by simp [pvs_cons, pvs_nil, pv_v])
        cases nm : isName g.1
        · rw [if_pos nm] at hn
          simp only [↓wpre, wset, wcore, ne_eq, if_true, if_false, exists_eq_left', true_implies, false_implies, exists_const, exists_eq_right, binA, intA, loadA, storeA, pickC, setAt, mapO, argsE, X.isC, resA, oneA, unA, boundA, eqiA, eqsA, fillA, fillE, ASt.fz, strA, Nat.reduceEqDiff, Nat.reduceLT, ↓reduceIte, reduceCtorEq, Nat.reduceAdd, Nat.reduceLeDiff, Int.reduceBEq, Int.reduceBNe, Int.reduceLT, Int.reduceLE, Int.reduceGT, Int.reduceGE, Nat.reduceDiv, Nat.reduceMul, List.length_append, List.append_assoc, app_get_len, app_get_add, app_set_len, app_set_add, hc, e0, e1, e4, e32, e33, e34, hdec, d4, h10, b1, b2, b3, cn, nm, dem_f, wrPure]
          rw [← hn]
          exact ⟨by decide, rfl, hmore _ _⟩
        · rw [if_neg (by rw [nm]; decide)] at hn
          have hlk : lookA (.str g.1) seen = some (if ((p.gs.take j).any fun x => decide (x.1 = g.1)) = true then some (.bool true) else none) := hS g.1
          cases hsn : ((p.gs.take j).any fun x => decide (x.1 = g.1))
          · rw [hsn] at hlk hn
            simp only [Bool.false_eq_true, if_false] at hlk hn
            obtain ⟨seen', hup, hS'⟩ := hS.up g.1
            rcases (whole_sh p.gl (H0.length + 1) H0.length false es hgl (H0 := H0 ++ (.map es :: .cells false (tabL ++ [.mp H0.length]) :: (G ++ (.map seen' :: (G2 ++ [.cells false (.str g.1 :: c2)]))))) (T := T) hg (by rw [app_get_add]; rfl) (by rw [app_get_len]; rfl)).call rfl with ⟨r, s1, ⟨z1, rfl, G', T', rfl⟩, cr⟩ | ⟨r, s1, ⟨z1, rfl, G', T', rfl⟩, cr⟩
            · simp only [↓wpre, wset, wcore, ne_eq, if_true, if_false, exists_eq_left', true_implies, false_implies, exists_const, exists_eq_right, binA, intA, loadA, storeA, pickC, setAt, mapO, argsE, X.isC, resA, oneA, unA, boundA, eqiA, eqsA, fillA, fillE, ASt.fz, strA, Nat.reduceEqDiff, Nat.reduceLT, ↓reduceIte, reduceCtorEq, Nat.reduceAdd, Nat.reduceLeDiff, Int.reduceBEq, Int.reduceBNe, Int.reduceLT, Int.reduceLE, Int.reduceGT, Int.reduceGE, Nat.reduceDiv, Nat.reduceMul, List.length_append, List.append_assoc, app_get_len, app_get_add, app_set_len, app_set_add, hc, e0, e1, e4, e32, e33, e34, hdec, d4, h10, b1, b2, b3, cn, nm, dem_t, hlk, hup, cr, keyOK]
              rw [if_neg (by simpa using z1)] at hn
              refine EQ_in ⟨j + 1, by omega, seen', _, rfl, e0, e1, e4, e32, e33, next_ixv (by omega), by omega, hS'.congr fun n => ?_, by rw [List.take_add_one, d0]; exact hn⟩
              rw [List.take_add_one, d0]; simp [List.any_append, eq_comm]
            · simp only [↓wpre, wset, wcore, ne_eq, if_true, if_false, exists_eq_left', true_implies, false_implies, exists_const, exists_eq_right, binA, intA, loadA, storeA, pickC, setAt, mapO, argsE, X.isC, resA, oneA, unA, boundA, eqiA, eqsA, fillA, fillE, ASt.fz, strA, Nat.reduceEqDiff, Nat.reduceLT, ↓reduceIte, reduceCtorEq, Nat.reduceAdd, Nat.reduceLeDiff, Int.reduceBEq, Int.reduceBNe, Int.reduceLT, Int.reduceLE, Int.reduceGT, Int.reduceGE, Nat.reduceDiv, Nat.reduceMul, List.length_append, List.append_assoc, app_get_len, app_get_add, app_set_len, app_set_add, hc, e0, e1, e4, e32, e33, e34, hdec, d4, h10, b1, b2, b3, cn, nm, dem_t, hlk, hup, cr, keyOK, wrPure]
              rw [if_pos (by simpa using z1)] at hn
              rw [← hn]
              exact ⟨z1, rfl, hmore _ _⟩
          · rw [hsn] at hlk hn
            simp only [if_true] at hlk hn
            simp only [↓wpre, wset, wcore, ne_eq, if_true, if_false, exists_eq_left', true_implies, false_implies, exists_const, exists_eq_right, binA, intA, loadA, storeA, pickC, setAt, mapO, argsE, X.isC, resA, oneA, unA, boundA, eqiA, eqsA, fillA, fillE, ASt.fz, strA, Nat.reduceEqDiff, Nat.reduceLT, ↓reduceIte, reduceCtorEq, Nat.reduceAdd, Nat.reduceLeDiff, Int.reduceBEq, Int.reduceBNe, Int.reduceLT, Int.reduceLE, Int.reduceGT, Int.reduceGE, Nat.reduceDiv, Nat.reduceMul, List.length_append, List.append_assoc, app_get_len, app_get_add, app_set_len, app_set_add, hc, e0, e1, e4, e32, e33, e34, hdec, d4, h10, b1, b2, b3, cn, nm, dem_t, dem_f, hlk, keyOK, wrPure]
            rw [← hn]
            exact ⟨by decide, rfl, hmore _ _⟩
      · have hdec : decide ((j : Int) < gas.length) = false := by simpa using hge
        rw [List.drop_eq_nil_of_le (by rw [← h3.len]; omega), Pr.go] at hn
        rcases (whole_sh p.gl (H0.length + 1) H0.length false es hgl (H0 := H0 ++ (.map es :: .cells false (tabL ++ [.mp H0.length]) :: (G ++ (.map seen :: G2)))) (T := T) h4 (by rw [app_get_add]; rfl) (by rw [app_get_len]; rfl)).call rfl with ⟨r, s1, ⟨z1, rfl, G', T', rfl⟩, cr⟩ | ⟨r, s1, ⟨z1, rfl, G', T', rfl⟩, cr⟩
        · simp only [↓wpre, wset, wcore, ne_eq, if_true, if_false, exists_eq_left', true_implies, false_implies, exists_const, exists_eq_right, binA, intA, loadA, storeA, pickC, setAt, mapO, argsE, X.isC, resA, oneA, unA, boundA, eqiA, eqsA, fillA, fillE, ASt.fz, strA, Nat.reduceEqDiff, Nat.reduceLT, ↓reduceIte, reduceCtorEq, Nat.reduceAdd, Nat.reduceLeDiff, Int.reduceBEq, Int.reduceBNe, Int.reduceLT, Int.reduceLE, Int.reduceGT, Int.reduceGE, Nat.reduceDiv, Nat.reduceMul, List.length_append, List.append_assoc, app_get_len, app_get_add, app_set_len, app_set_add, hc, e0, e1, e4, e32, e33, e34, hdec, h5, h6, cr]
          rw [← hn]
          exact ⟨z1, hmore _ _⟩
        · simp only [↓wpre, wset, wcore, ne_eq, if_true, if_false, exists_eq_left', true_implies, false_implies, exists_const, exists_eq_right, binA, intA, loadA, storeA, pickC, setAt, mapO, argsE, X.isC, resA, oneA, unA, boundA, eqiA, eqsA, fillA, fillE, ASt.fz, strA, Nat.reduceEqDiff, Nat.reduceLT, ↓reduceIte, reduceCtorEq, Nat.reduceAdd, Nat.reduceLeDiff, Int.reduceBEq, Int.reduceBNe, Int.reduceLT, Int.reduceLE, Int.reduceGT, Int.reduceGE, Nat.reduceDiv, Nat.reduceMul, List.length_append, List.append_assoc, app_get_len, app_get_add, app_set_len, app_set_add, hc, e0, e1, e4, e32, e33, e34, hdec, h5, h6, cr, wrPure]
          rw [← hn]
          exact ⟨z1, rfl, hmore _ _⟩
  · have b0' : decide ((gas.length : Int) ≤ 1000) = false := by simp at b0 ⊢; omega
    simp only [pf36, ↓wpre, wset, wcore, ne_eq, if_true, if_false, exists_eq_left', true_implies, false_implies, exists_const, exists_eq_right, binA, intA, loadA, storeA, pickC, setAt, mapO, argsE, X.isC, resA, oneA, unA, boundA, eqiA, eqsA, fillA, fillE, ASt.fz, strA, Nat.reduceEqDiff, Nat.reduceLT, ↓reduceIte, reduceCtorEq, Nat.reduceAdd, Nat.reduceLeDiff, Int.reduceBEq, Int.reduceBNe, Int.reduceLT, Int.reduceLE, Int.reduceGT, Int.reduceGE, Nat.reduceDiv, Nat.reduceMul, List.length_append, List.append_assoc, app_get_len, app_get_add, app_set_len, app_set_add, hpi, hc, b0', dem_f, wrPure]
    exact ⟨by decide, [], T, by simp⟩
theorem Check_ret {p : Pr} {pa : AV} (hp : p.Is pa) : Out md pfs 14 [pa] (· = .int p.check) fun _ => False := by
  obtain ⟨gas, tg, c, rfl, h1, h2, h3, h4, h5, h6, h7, h8, h9, h10⟩ := id hp
  refine out_of pf14_is (Nat.le_of_ble_eq_true rfl) ?_
  have hcs := caught_sh (g := 36) (caps := [.ptr 0 0]) rfl (H0 := [.cells false (.sl gas tg :: c)]) (T := []) (check1_sh hp (pi := 0) (fz := false) (H0 := [.cells false (.sl gas tg :: c)] ++ [.cells false [.int 0]]) (T := []) rfl) (by rintro v s ⟨_, _, G, T, rfl⟩; rfl) (by rintro v s ⟨_, h, G, T, rfl⟩; exact ⟨⟨_, h⟩, rfl⟩)
  rcases hcs.call rfl with ⟨v, s', ⟨u, s1, ⟨z, rfl, _⟩, rfl, rfl⟩ | ⟨x, s1, ⟨z, e, _⟩, rfl, rfl⟩, hc⟩ | ⟨_, _, h, _⟩
  · simp only [pf14, ↓wpre, wset, wcore, ne_eq, if_true, if_false, exists_eq_left', true_implies, false_implies, exists_const, exists_eq_right, binA, intA, loadA, storeA, pickC, setAt, mapO, argsE, X.isC, resA, oneA, unA, boundA, eqiA, eqsA, fillA, fillE, ASt.fz, strA, Nat.reduceEqDiff, Nat.reduceLT, ↓reduceIte, reduceCtorEq, Nat.reduceAdd, Nat.reduceLeDiff, Int.reduceBEq, Int.reduceBNe, Int.reduceLT, Int.reduceLE, Int.reduceGT, Int.reduceGE, Nat.reduceDiv, Nat.reduceMul, hc]
    rw [z]
  · have : x = p.check := by simpa [wr] using e
    subst this
    simp only [pf14, ↓wpre, wset, wcore, ne_eq, if_true, if_false, exists_eq_left', true_implies, false_implies, exists_const, exists_eq_right, binA, intA, loadA, storeA, pickC, setAt, mapO, argsE, X.isC, resA, oneA, unA, boundA, eqiA, eqsA, fillA, fillE, ASt.fz, strA, Nat.reduceEqDiff, Nat.reduceLT, ↓reduceIte, reduceCtorEq, Nat.reduceAdd, Nat.reduceLeDiff, Int.reduceBEq, Int.reduceBNe, Int.reduceLT, Int.reduceLE, Int.reduceGT, Int.reduceGE, Nat.reduceDiv, Nat.reduceMul, hc]
  · exact h.elim
end Go.Proofs.Eng
