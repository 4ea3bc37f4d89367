/- The reference reads a level. No conditions beyond those in the theorems. -/
import Derived.Test.YtbcnlbnimabdeaaU1
set_option linter.all false
set_option linter.deprecated false
set_option linter.unnecessarySimpa false
set_option linter.unusedVariables false
set_option linter.unusedSimpArgs false
set_option linter.defProp false
namespace Go.Proofs.Eng
open Go Go.Proofs
set_option maxRecDepth 100000
set_option maxHeartbeats 8000000
/-- What was read is right (G), or the reader is bad: it was, or nothing could be read (N). -/
def Fl (fl fl' : Bool) (G N : Prop) : Prop := (fl = false ∧ fl' = false ∧ G) ∨ (fl' = true ∧ (fl = true ∨ N))
theorem rN_of {s : ByteArray} {p n k : Nat} (h : getN (s.toList.drop p) = some (n, k)) (hp : p ≤ s.size) : rN (s.toList.drop p) = some (n, s.toList.drop (p + k)) ∧ n ≤ mostN ∧ p < p + k ∧ p + k ≤ s.size := by
  obtain ⟨hn, hpk⟩ := getN_le h hp
  refine ⟨by rw [rN, h]; simp, hn, ?_, hpk⟩
  rcases Nat.eq_zero_or_pos k with h0 | h0
  · exfalso
    have h3 := (getN_one h).2.2
    rw [h0, List.take_zero] at h3
    have := encN_pos n
    rw [← h3] at this
    simp at this
  · omega
theorem rnum_u {i : Nat} {s : ByteArray} {p : Nat} {fl : Bool} {B H : List AObj} (hB : BR B H i (rrd s p fl)) (hp : p ≤ s.size) (hs : s.size ≤ capB) (Z : List AObj) (T : List Nat) :
    ∃ (n : Nat) (B' : List AObj) (q : Nat) (fl' : Bool), (∀ K KP, CW (run md pfs) md false ⟨B ++ Z, T⟩ 45 [.ptr i 0] K KP () = K (.int (n : Nat)) ⟨B' ++ Z, T⟩) ∧ n < 34359738368 ∧ q ≤ s.size ∧ BR B' H i (rrd s q fl') ∧ Fl fl fl' (rN (s.toList.drop p) = some (n, s.toList.drop q) ∧ n ≤ mostN ∧ p < q) (rN (s.toList.drop p) = none) := by
  cases fl with
  | true =>
    obtain ⟨_, _, ⟨rfl, rfl⟩, hc⟩ := (rnumber_bad (T := T) (app_get_of hB.get Z)).callRet rfl
    exact ⟨0, B, p, true, hc, by omega, hp, hB, Or.inr ⟨rfl, Or.inl rfl⟩⟩
  | false =>
    obtain ⟨_, _, hq, hc⟩ := (rnumber_sh (T := T) (app_get_of hB.get Z) hp hs).callRet rfl
    rcases hq with ⟨n, k, h1, rfl, rfl⟩ | ⟨h1, n, k, rfl, h2, rfl, hk⟩
    · rw [hB.app] at hc
      obtain ⟨g1, g2, g3, g4⟩ := rN_of h1 hp
      exact ⟨n, _, p + k, false, hc, by unfold mostN at g2; omega, g4, hB.up _, Or.inl ⟨rfl, rfl, g1, g2, g3⟩⟩
    · rw [hB.app] at hc
      exact ⟨n, _, k, true, hc, h2, hk, hB.up _, Or.inr ⟨rfl, Or.inr (by rw [rN, h1]; rfl)⟩⟩
theorem sub_in2 {n : Nat} (h : n < 34359738368) : IntKind.i64.wrap ((n : Int) - 65536) = (n : Int) - 65536 := wrap_in (by unfold in64; omega)
theorem BR.f5 {B H : List AObj} {i : Nat} {o : AObj} (h : BR B H i o) : B.length = H.length ∧ (∀ l, (B ++ l)[H.length]? = l[0]?) ∧ (∀ l k, (B ++ l)[H.length + k]? = l[k]?) ∧ (∀ l y, (B ++ l).set H.length y = B ++ l.set 0 y) ∧ (∀ l k y, (B ++ l).set (H.length + k) y = B ++ l.set k y) :=
  ⟨h.f.1, h.f.2.1, h.f.2.2.1, h.f.2.2.2.1, h.f.2.2.2.2.1⟩
abbrev z2 : AObj := .cells false [.int 0, .sl [] .nil]
theorem rrd_get {B H : List AObj} {i : Nat} {s : ByteArray} {q : Nat} {fl : Bool} (h : BR B H i (rrd s q fl)) : ∀ Z, (B ++ Z)[i]? = some (.cells false [.str s, .int (q : Nat), .v (.bool fl)]) := fun Z => app_get_of h.get Z
def RLevP (i : Nat) (s : ByteArray) (p : Nat) (fl : Bool) (H : List AObj) (T : List Nat) (v : AV) (s' : ASt) : Prop :=
  ∃ l B q G T' fl', Lv.Is l v ∧ s' = ⟨B ++ G, T'⟩ ∧ q ≤ s.size ∧ BR B H i (rrd s q fl') ∧ Keep T.length T T' ∧ Fl fl fl' (rLv (s.toList.drop p) = some (l, s.toList.drop q) ∧ p < q) (rLv (s.toList.drop p) = none)
theorem rlevel_sh {i : Nat} {s : ByteArray} {p : Nat} {fl : Bool} {H : List AObj} {T : List Nat} (hi : H[i]? = some (rrd s p fl)) (hp : p ≤ s.size) (hs : s.size + 1 < capB) :
    Sh md pfs 63 [.ptr i 0] ⟨H, T⟩ (RLevP i s p fl H T) fun _ _ => False := by
  refine sh_of pf63_is (Nat.le_of_ble_eq_true rfl) ?_
  have f0 := (BR.start hi).f5
  obtain ⟨c, B1, q1, f1, k1, c1, l1, hB1, F1⟩ := rnum_u (BR.start hi) hp (by omega) [z2] T
  have g1 := hB1.f5
  obtain ⟨n, B2, q2, f2, k2, n1, l2, hB2, F2⟩ := rnum_u hB1 l1 (by omega) [z2, .cells false [.int c, .sl [] .nil]] T
  have g2 := hB2.f5
  simp only [pf63, ↓wpre, wset, wcore, ne_eq, if_true, if_false, exists_eq_left', true_implies, false_implies, exists_const, exists_eq_right, binA, intA, loadA, storeA, pickC, setAt, mapO, argsE, X.isC, resA, oneA, unA, boundA, eqiA, eqsA, fillA, fillE, ASt.fz, strA, Nat.reduceEqDiff, Nat.reduceLT, ↓reduceIte, reduceCtorEq, Nat.reduceAdd, Nat.reduceLeDiff, Int.reduceBEq, Int.reduceBNe, Int.reduceLT, Int.reduceLE, Int.reduceGT, Int.reduceGE, Nat.reduceDiv, Nat.reduceMul, Nat.reduceBEq, Nat.reduceMod, Nat.reduceSub, List.length_append, List.append_assoc, k1, k2, f0, g1, g2]
  refine W_loopE (fun j => n - j) (fun j E H' T' => ∃ B Z q vs al t f, H' = B ++ (z2 :: .cells false [.int c, .sl al t] :: Z) ∧ E 0 = .ptr i 0 ∧ E 2 = .ptr H.length 0 ∧ E 3 = .ptr (H.length + 1) 0 ∧ E 4 = .int n ∧ E 5 = .int (j : Nat) ∧ BR B H i (rrd s q f) ∧ q ≤ s.size ∧ LIs varIs vs al ∧ al.length = j ∧ AppF T.length T' al t ∧ Keep T.length T T' ∧
    j ≤ s.size + 1 ∧ Fl f2 f (j ≤ n ∧ j ≤ q ∧ q2 ≤ q ∧ rVars n (s.toList.drop q2) = (rVars (n - j) (s.toList.drop q)).map fun l => (vs ++ l.1, l.2)) (rVars n (s.toList.drop q2) = none)) ?_ 0 ⟨B2, [], q2, [], [], .nil, f2, rfl, rfl, rfl, rfl, rfl, rfl, hB2, l2, trivial, rfl, Or.inl ⟨rfl, rfl⟩, .refl _ _ (Nat.le_refl _), Nat.zero_le _, by
      cases f2 with
      | true => exact Or.inr ⟨rfl, Or.inl rfl⟩
      | false => exact Or.inl ⟨rfl, rfl, Nat.zero_le _, Nat.zero_le _, Nat.le_refl _, by simp⟩⟩
  rintro j E H' T' ⟨B, Z, q, vs, al, t, f, rfl, e0, e2, e3, e4, e5, hB, hqs, hV, hal, hA, hK, hjs, hF⟩
  have g := hB.f5
  have gi := rrd_get hB
  have hpu : pureAVs al = true := hV.pure fun _ _ h => varPure h
  have hfin : (f = true ∨ n ≤ j) → al.length ≤ lenB ∧ Fl fl f (rLv (s.toList.drop p) = some (⟨c, vs⟩, s.toList.drop q) ∧ p < q) (rLv (s.toList.drop p) = none) := fun h => by
    rcases hF with ⟨rfl, rfl, hj, hjq, hqq, hR⟩ | ⟨rfl, hn⟩
    · have hjn : j = n := by
        rcases h with h | h
        · cases h
        · omega
      refine ⟨by unfold capB at hs; unfold lenB; omega, Or.inl ?_⟩
      rcases F2 with ⟨rfl, _, r2, _, o2⟩ | ⟨h, _⟩
      · rcases F1 with ⟨rfl, _, r1, _, o1⟩ | ⟨h, _⟩
        · refine ⟨rfl, rfl, ?_, by omega⟩
          rw [rLv, r1, Option.bind_some]; simp only; rw [r2, Option.bind_some]; simp only; rw [hR, hjn, Nat.sub_self, rVars]
          simp
        · cases h
      · cases h
    · refine ⟨by unfold capB at hs; unfold lenB; omega, Or.inr ⟨rfl, ?_⟩⟩
      rcases F1 with ⟨rfl, rfl, r1, _, o1⟩ | ⟨rfl, h1⟩
      · rcases F2 with ⟨_, rfl, r2, _, o2⟩ | ⟨rfl, h2⟩
        · rcases hn with h | h
          · cases h
          · exact Or.inr (by rw [rLv, r1, Option.bind_some]; simp only; rw [r2, Option.bind_some]; simp only; rw [h]; rfl)
        · rcases h2 with h | h
          · cases h
          · exact Or.inr (by rw [rLv, r1, Option.bind_some]; simp only; rw [h]; rfl)
      · rcases h1 with h | h
        · exact Or.inl h
        · exact Or.inr (by rw [rLv, h]; rfl)
  have hend : (f = true ∨ n ≤ j) → RLevP i s p fl H T (.agg [.int c, .sl al t.strip]) ⟨B ++ (.cells false [.int c, .sl al t] :: .cells false [.int c, .sl al t] :: Z), T'⟩ := fun h => by
    obtain ⟨h1, h2⟩ := hfin h
    exact ⟨⟨c, vs⟩, B, q, _, T', f, ⟨t.strip, al, rfl, strip_pure2 t, by show in64 (c : Int); unfold in64; omega, h1, hV⟩, rfl, hqs, hB, hK, h2⟩
  cases hdec : decide ((j : Int) < n)
  · simp only [↓wpre, wset, wcore, ne_eq, if_true, if_false, exists_eq_left', true_implies, false_implies, exists_const, exists_eq_right, binA, intA, loadA, storeA, pickC, setAt, mapO, argsE, X.isC, resA, oneA, unA, boundA, eqiA, eqsA, fillA, fillE, ASt.fz, strA, Nat.reduceEqDiff, Nat.reduceLT, ↓reduceIte, reduceCtorEq, Nat.reduceAdd, Nat.reduceLeDiff, Int.reduceBEq, Int.reduceBNe, Int.reduceLT, Int.reduceLE, Int.reduceGT, Int.reduceGE, Nat.reduceDiv, Nat.reduceMul, Nat.reduceBEq, Nat.reduceMod, Nat.reduceSub, List.length_append, List.append_assoc, e0, e2, e3, e4, e5, hdec, g, gi, pz_lv hpu, fr_lv hpu]
    exact hend (Or.inr (by simp only [decide_eq_false_iff_not] at hdec; omega))
  · have hlt : j < n := by simp only [decide_eq_true_eq] at hdec; omega
    cases hf : f
    · subst hf
      rcases hF with ⟨rfl, _, hj, hjq, hqq, hR⟩ | ⟨h, _⟩
      · have hnj : n - j = (n - (j + 1)) + 1 := by omega
        obtain ⟨a, B3, q3, f3, k3, a3, l3, hB3, F3⟩ := rnum_u hB hqs (by omega) (z2 :: .cells false [.int c, .sl al t] :: Z) T'
        have g3 := hB3.f5
        obtain ⟨b, B4, q4, f4, k4, a4, l4, hB4, F4⟩ := rnum_u hB3 l3 (by omega) (z2 :: .cells false [.int c, .sl al t] :: (Z ++ [.cells false [.int ((a : Int) - 65536), .int 0]])) T'
        have g4 := hB4.f5
        have hall : (al.all fun x => x.cells.length == 2) = true := hV.all varAgg
        obtain ⟨t', T2, ha, hA', hK'⟩ := app_oneF (x := .agg [.int ((a : Int) - 65536), .int b]) hK.1 hA (by omega) hall rfl rfl
        simp only [↓wpre, wset, wcore, ne_eq, if_true, if_false, exists_eq_left', true_implies, false_implies, exists_const, exists_eq_right, binA, intA, loadA, storeA, pickC, setAt, mapO, argsE, X.isC, resA, oneA, unA, boundA, eqiA, eqsA, fillA, fillE, ASt.fz, strA, Nat.reduceEqDiff, Nat.reduceLT, ↓reduceIte, reduceCtorEq, Nat.reduceAdd, Nat.reduceLeDiff, Int.reduceBEq, Int.reduceBNe, Int.reduceLT, Int.reduceLE, Int.reduceGT, Int.reduceGE, Nat.reduceDiv, Nat.reduceMul, Nat.reduceBEq, Nat.reduceMod, Nat.reduceSub, List.length_append, List.append_assoc, e0, e2, e3, e4, e5, hdec, k3, k4, g, gi, g3, g4, sub_in2 a3, ha]
        refine EQ_in ⟨j + 1, by omega, B4, _, q4, vs ++ [((a : Int) - 65536, (b : Int))], _, t', f4, rfl, e0, e2, e3, e4, next_ixv (by unfold lenB; omega), hB4, l4, hV.append ⟨⟨rfl, by unfold in64; omega, by unfold in64; omega⟩, trivial⟩, by simp [hal], hA', hK.trans hK', by omega, ?_⟩
        rcases F3 with ⟨_, rfl, r3, _, o3⟩ | ⟨rfl, h3⟩
        · rcases F4 with ⟨_, rfl, r4, _, o4⟩ | ⟨rfl, h4⟩
          · refine Or.inl ⟨rfl, rfl, by omega, by omega, by omega, ?_⟩
            rw [hR, hnj, rVars, r3, Option.bind_some]; simp only; rw [r4, Option.bind_some, Option.map_map]
            congr 1
            funext x
            simp
          · refine Or.inr ⟨rfl, Or.inr ?_⟩
            rcases h4 with h | h
            · cases h
            · rw [hR, hnj, rVars, r3, Option.bind_some]; simp only; rw [h]; rfl
        · rcases F4 with ⟨h, _⟩ | ⟨rfl, h4⟩
          · cases h
          · refine Or.inr ⟨rfl, Or.inr ?_⟩
            rcases h3 with h | h
            · cases h
            · rw [hR, hnj, rVars, h]; rfl
      · cases h
    · subst hf
      simp only [↓wpre, wset, wcore, ne_eq, if_true, if_false, exists_eq_left', true_implies, false_implies, exists_const, exists_eq_right, binA, intA, loadA, storeA, pickC, setAt, mapO, argsE, X.isC, resA, oneA, unA, boundA, eqiA, eqsA, fillA, fillE, ASt.fz, strA, Nat.reduceEqDiff, Nat.reduceLT, ↓reduceIte, reduceCtorEq, Nat.reduceAdd, Nat.reduceLeDiff, Int.reduceBEq, Int.reduceBNe, Int.reduceLT, Int.reduceLE, Int.reduceGT, Int.reduceGE, Nat.reduceDiv, Nat.reduceMul, Nat.reduceBEq, Nat.reduceMod, Nat.reduceSub, List.length_append, List.append_assoc, e0, e2, e3, e4, e5, hdec, g, gi, pz_lv hpu, fr_lv hpu]
      exact hend (Or.inl rfl)
end Go.Proofs.Eng
