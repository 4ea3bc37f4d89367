/- A law's contract that hands on the first parameter's length (a slice). No conditions beyond those in the theorems. -/
import Derived.Test.YtodnkbnbjhcikaaDoorK0
set_option linter.all false
set_option linter.deprecated false
set_option linter.unnecessarySimpa false
set_option linter.unusedVariables false
set_option linter.unusedSimpArgs false
set_option linter.defProp false
namespace Go.Proofs.Eng.T
open Go Go.Proofs Go.Proofs.Eng
set_option maxRecDepth 100000
set_option maxHeartbeats 16000000
theorem digs_snoc {f : Int} {v : List Int} {j : Nat} {x : Int} (h : v[j]? = some x) : digs f (v.take (j + 1)) = 3 * digs f (v.take j) + x := by
  unfold digs
  rw [List.take_add_one, h]
  simp [List.foldl_append]
theorem number_sh {R : Nat} {f : Int} {v : List Int} {t : Tl} {s : ASt} (hf : 0 ≤ f ∧ f < 4) (hl : v.length ≤ 3) (hv : Sz v) : Sh md pfs 51 [.ptr R 0, .int f, .sl (ints v) t] s (fun r s' => r = .int (numS (f, v)) ∧ s' = s) fun _ _ => False := by
  have hal := ints_all v
  obtain ⟨H, T⟩ := s
  refine sh_of pf51_is (Nat.le_of_ble_eq_true rfl) ?_
  simp only [pf51, ↓wpre, wset, wcore, wext, ne_eq, if_true, if_false, exists_eq_left', true_implies, false_implies, exists_const, exists_eq_right, binA, intA, loadA, storeA, pickC, setAt, mapO, argsE, X.isC, resA, oneA, unA, boundA, eqiA, eqsA, fillA, fillE, ASt.fz, strA, simprocAttr]
  refine W_loopE (fun j => v.length - j) (fun j E H' T' => E 2 = .sl (ints v) t ∧ E 7 = .int (digs f (v.take j)) ∧ E 8 = .int (j : Nat) ∧ j ≤ v.length ∧ 0 ≤ digs f (v.take j) ∧ digs f (v.take j) < 4 * 3 ^ j ∧ H' = H ∧ T' = T) ?_ 0 ⟨rfl, rfl, rfl, Nat.zero_le _, by simpa [digs] using hf.1, by simpa [digs] using hf.2, rfl, rfl⟩
  rintro j E H' T' ⟨e2, e7, e8, hj, b1, b2, rfl, rfl⟩
  have hp : (3 : Int) ^ j ≤ 27 := by
    have h4 : j = 0 ∨ j = 1 ∨ j = 2 ∨ j = 3 := by omega
    rcases h4 with rfl | rfl | rfl | rfl <;> decide
  rcases Nat.lt_or_ge j v.length with hlt | hge
  · have q1 := dlt hlt
    obtain ⟨x, x1, x2, x3⟩ := ints_get hlt
    have hx := hv x (List.mem_of_getElem? x1)
    have w1 : IntKind.i64.wrap (3 * digs f (v.take j)) = 3 * digs f (v.take j) := wrap_in (by unfold in64; omega)
    have w2 : IntKind.i64.wrap (3 * digs f (v.take j) + x) = digs f (v.take (j + 1)) := by rw [digs_snoc x1]; exact wrap_in (by unfold in64; omega)
    simp only [↓wpre, wset, wcore, wext, ne_eq, if_true, if_false, exists_eq_left', true_implies, false_implies, exists_const, exists_eq_right, binA, intA, loadA, storeA, pickC, setAt, mapO, argsE, X.isC, resA, oneA, unA, boundA, eqiA, eqsA, fillA, fillE, ASt.fz, strA, simprocAttr, e2, e7, e8, q1, ints_len, hal, x3, w1, w2]
    exact EQ_in ⟨j + 1, by omega, e2, rfl, next_ixv (by unfold lenB; omega), by omega, by rw [digs_snoc x1]; omega, by rw [digs_snoc x1, Int.pow_succ]; omega, rfl, rfl⟩
  · have q1 := dltf hge
    rw [List.take_of_length_le (by omega)] at e7 b1 b2
    have w1 : IntKind.i64.wrap (digs f v * 8) = digs f v * 8 := wrap_in (by unfold in64; omega)
    have w2 : IntKind.i64.wrap (digs f v * 8 + (v.length : Nat)) = numS (f, v) := wrap_in (by unfold in64; omega)
    simp only [↓wpre, wset, wcore, wext, ne_eq, if_true, if_false, exists_eq_left', true_implies, false_implies, exists_const, exists_eq_right, binA, intA, loadA, storeA, pickC, setAt, mapO, argsE, X.isC, resA, oneA, unA, boundA, eqiA, eqsA, fillA, fillE, ASt.fz, strA, simprocAttr, e2, e7, e8, q1, ints_len, w1, w2]
def RestK (K : Nat) (H H' : List AObj) : Prop := H.length ≤ H'.length ∧ ∀ i o, i ≠ K → H[i]? = some o → H'[i]? = some o
theorem RestK.refl (K : Nat) (H : List AObj) : RestK K H H := ⟨Nat.le_refl _, fun _ _ _ h => h⟩
theorem RestK.trans {K : Nat} {A B C : List AObj} (h : RestK K A B) (k : RestK K B C) : RestK K A C := ⟨Nat.le_trans h.1 k.1, fun i o hi ho => k.2 i o hi (h.2 i o hi ho)⟩
theorem RestK.app (K : Nat) (H G : List AObj) : RestK K H (H ++ G) := ⟨by simp, fun i o _ h => app_get_of h _⟩
theorem RestK.set (K : Nat) (H : List AObj) (o : AObj) : RestK K H (H.set K o) := ⟨by simp, fun i o hi h => by rw [List.getElem?_set, if_neg (fun e => hi e.symm)]; exact h⟩
def PostS (A : Int → Nat) (K : Nat) (L : List (Int × Int)) (H : List AObj) (r : AV) (s' : ASt) : Prop := r = .bool true ∧ ∃ H' T' L', s' = ⟨H', T'⟩ ∧ H'[K]? = some (.map (mapI L')) ∧ Lat A L L' ∧ RestK K H H'
theorem app_app {H : List AObj} {T : List Nat} {u : List Int} {x : Int} {t0 : Tl} (ht : t0 = .nil ∨ t0 = .cap 0) (hu : u.length ≤ 10) : ∃ t1 T1 t2 T2, appA ⟨H, T⟩ 1 none [] t0 (ints u) = some (.sl (ints u) t1, ⟨H, T1⟩) ∧ appA ⟨H, T1⟩ 1 none (ints u) t1 [.int x] = some (.sl (ints (u ++ [x])) t2, ⟨H, T2⟩) := by
  cases u with
  | nil => rcases ht with rfl | rfl <;> exact ⟨_, _, _, _, rfl, rfl⟩
  | cons y u =>
    have k1 := ints_all (y :: u)
    have k2 := ints_all2 (y :: u)
    refine ⟨.tl T.length 0, T ++ [0], .tl T.length 1, (T ++ [0]).set T.length 1, ?_, ?_⟩
    · simp only [List.length_cons] at hu
      simp only [ints, List.map_cons] at k1 k2 ⊢
      rw [appA, if_pos ⟨by simp only [List.length_map, List.length_cons, List.length_nil]; omega, rfl, k2⟩]
      rcases ht with rfl | rfl
      · rfl
      · simp
    · rw [ints_app]
      have hne : ints (y :: u) ≠ [] := by simp [ints]
      rw [appA, if_pos ⟨by rw [ints_len]; simp only [List.length_cons, List.length_nil] at hu ⊢; omega, k1, rfl⟩]
      simp only [List.getElem?_concat_length]
      rw [if_pos ⟨trivial, hne⟩]
      rfl
structure RunH (al : List AV) (t0 : Tl) (args : List Int) (ta : Tl) (R K : Nat) (L : List (Int × Int)) (H : List AObj) : Prop where
  ne : R ≠ K
  run : H[R]? = some (.cells false [.sl al t0, .sl (ints args) ta, .mp K])
  map : H[K]? = some (.map (mapI L))
theorem RunH.rest {al : List AV} {t0 : Tl} {args : List Int} {ta : Tl} {R K : Nat} {L L' : List (Int × Int)} {H H' : List AObj} (h : RunH al t0 args ta R K L H) (k : RestK K H H') (hm : H'[K]? = some (.map (mapI L'))) : RunH al t0 args ta R K L' H' := ⟨h.ne, k.2 R _ h.ne h.run, hm⟩
theorem fit_nil {c : Cl} {v : List Int} : FitW c v [] := fun i k hi _ => by simp at hi
theorem vst_to {l q : List Cl} {ar : Int → Nat} {args : List Int} (h : FewS l q ar args) {c : Cl} (hc : c ∈ l) {u : List Int} (hu : Sz u) (hl : u.length = ar c.t) : Vst (arA args) (c.t, u) := ⟨(h.good c hc).t0, (h.fun_ c hc).2, by rw [hl, (h.ar hc).2], h.few3 _, hu⟩
theorem search {l q : List Cl} {ar : Int → Nat} {args : List Int} {al : List AV} {t0 ta : Tl} {R K : Nat} (hF : FewS l q ar args) (hal : LIs ClIs l al) (hl : al.length ≤ 1000) : ∀ N : Nat,
    (∀ (s : Int × List Int) (L : List (Int × Int)) (H : List AObj) (T : List Nat) (t : Tl), Vst (arA args) s → Mk12 L → (∀ p, Vst (arA args) p → mk L p = 1 → Rch l p s) → RunH al t0 args ta R K L H → 5 * unm (arA args) L + 1 ≤ N → Sh md pfs 39 [.ptr R 0, .int s.1, .sl (ints s.2) t] ⟨H, T⟩ (PostS (arA args) K L H) fun _ _ => False) ∧
    (∀ (c : Cl) (ca : AV) (s : Int × List Int) (u : List Int) (L : List (Int × Int)) (H : List AObj) (T : List Nat) (t tu : Tl), c ∈ l → ClIs c ca → c.f = s.1 → Vst (arA args) s → Sz u → u.length ≤ ar c.t → FitW c s.2 u → Mk12 L → (∀ p, Vst (arA args) p → mk L p = 1 → p = s ∨ Rch l p s) → RunH al t0 args ta R K L H → 5 * unm (arA args) L + 2 + (ar c.t - u.length) ≤ N → Sh md pfs 52 [.ptr R 0, ca, .sl (ints s.2) t, .sl (ints u) tu] ⟨H, T⟩ (PostS (arA args) K L H) fun _ _ => False)
  | 0 => ⟨fun s L H T t _ _ _ _ h => by omega, fun c ca s u L H T t tu _ _ _ _ _ _ _ _ _ _ h => by omega⟩
  | N + 1 => by
    obtain ⟨ihE, ihN⟩ := search hF hal hl (t0 := t0) (ta := ta) (R := R) (K := K) N
    have hall := hal.all clAgg
    have hla := hal.len
    have hA3 := hF.few3
    constructor
    · intro s L H T t hs hm12 hone hH hN
      have hsl : s.2.length ≤ 3 := by rw [hs.len]; exact hs.few
      rcases (number_sh (R := R) (t := t) (s := ⟨H, T⟩) ⟨hs.lo, hs.hi⟩ hsl hs.sz).call rfl with ⟨_, _, ⟨rfl, rfl⟩, c51⟩ | ⟨_, _, h, _⟩
      case inr => exact h.elim
      have hrun := hH.run
      have hmap := hH.map
      have hlk := look_I (k := numS s) L
      have hmk : mk L s = (lookI (numS s) L).getD 0 := rfl
      have hnum : numS (s.1, s.2) = numS s := rfl
      rw [hnum] at c51
      refine sh_of pf39_is (Nat.le_of_ble_eq_true rfl) ?_
      have hbase : mk L s = 0 ∨ mk L s = 2 := by
        rcases hm12.val s with h | h | h
        · exact .inl h
        · exact absurd (hone s hs h) (hF.no hs)
        · exact .inr h
      by_cases h2 : mk L s = 2
      · have hlk2 : lookI (numS s) L = some 2 := by
          rw [hmk] at h2
          cases e : lookI (numS s) L with
          | none => rw [e] at h2; simp at h2
          | some v => rw [e] at h2; simp at h2; rw [h2]
        rw [hlk2] at hlk
        simp only [pf39, ↓wpre, wset, wcore, wext, ne_eq, if_true, if_false, exists_eq_left', true_implies, false_implies, exists_const, exists_eq_right, binA, intA, loadA, storeA, pickC, setAt, mapO, argsE, X.isC, resA, oneA, unA, boundA, eqiA, eqsA, fillA, fillE, ASt.fz, strA, simprocAttr, hrun, hmap, c51, hlk, Option.map_some, keyOK]
        exact ⟨rfl, H, T, L, rfl, hmap, .refl hm12, .refl K H⟩
      · have h0 : mk L s = 0 := by rcases hbase with h | h; exact h; exact absurd h h2
        have hlk0 : lookI (numS s) L = none := by
          cases e : lookI (numS s) L with
          | none => rfl
          | some v =>
            rw [hmk, e] at h0
            simp at h0
            rcases hm12 _ _ e with h | h <;> omega
        rw [hlk0] at hlk
        have hlt := unm_lt hA3 hs h0
        have up1 := up_I (k := numS s) (v := 1) L
        have hm1 := hm12.up (k := numS s) (v := 1) (.inl rfl)
        have hmk1 : ∀ p, Vst (arA args) p → mk (upI (numS s) 1 L) p = if p = s then 1 else mk L p := fun p hp => mk_up hs hp
        generalize upI (numS s) 1 L = L1 at *
        have lK := lt_of_get hmap
        simp only [pf39, ↓wpre, wset, wcore, wext, ne_eq, if_true, if_false, exists_eq_left', true_implies, false_implies, exists_const, exists_eq_right, binA, intA, loadA, storeA, pickC, setAt, mapO, argsE, X.isC, resA, oneA, unA, boundA, eqiA, eqsA, fillA, fillE, ASt.fz, strA, simprocAttr, hrun, hmap, c51, hlk, Option.map_none, keyOK, up1]
        refine W_loopE (fun j => al.length - j) (fun j E H' T' => E 0 = .ptr R 0 ∧ E 1 = .int s.1 ∧ E 2 = .sl (ints s.2) t ∧ E 7 = .int (numS s) ∧ E 9 = .int (j : Nat) ∧ j ≤ al.length ∧ ∃ L', RunH al t0 args ta R K L' H' ∧ Lat (arA args) L1 L' ∧ RestK K H H') ?_ 0 ⟨rfl, rfl, rfl, rfl, rfl, Nat.zero_le _, L1, ⟨hH.ne, by rw [List.getElem?_set, if_neg (fun e => hH.ne e.symm)]; exact hrun, by rw [List.getElem?_set_self lK]⟩, .refl hm1, .set K H _⟩
        rintro j E H' T' ⟨e0, e1, e2, e7, e9, hj, L', hH', hLat, hRest⟩
        have hrun' := hH'.run
        have hmap' := hH'.map
        rcases Nat.lt_or_ge j al.length with hjl | hjg
        · have q1 := dlt hjl
          obtain ⟨c, ca, g1, g2, g3, g4⟩ := cl_get hal hjl
          have g4' := g4
          obtain ⟨bl, u, rfl, _⟩ := g4.of
          by_cases hcf : c.f = s.1
          · have d1 : (c.f == s.1) = true := by simpa using hcf
            have hgc := hF.good c g2
            have hr3 : ar c.t ≤ 3 := by rw [← (hF.ar g2).2]; exact hF.few3 _
            have hu := hLat.unm hA3
            have hn := ihN c _ s [] L' H' T' t .nil g2 g4' hcf hs (fun x hx => by simp at hx) (Nat.zero_le _) fit_nil hLat.m12 (fun p hp h1 => by
              rw [hLat.one p hp, hmk1 p hp] at h1
              split at h1
              · rename_i e; exact .inl e
              · exact .inr (hone p hp h1)) hH' (by simp only [List.length_nil]; omega)
            rcases hn.call rfl with ⟨_, _, ⟨rfl, H2, T2, L2, rfl, k1, k2, k3⟩, c52⟩ | ⟨_, _, h, _⟩
            case inr => exact h.elim
            rw [show ints [] = [] from rfl] at c52
            simp only [↓wpre, wset, wcore, wext, ne_eq, if_true, if_false, exists_eq_left', true_implies, false_implies, exists_const, exists_eq_right, binA, intA, loadA, storeA, pickC, setAt, mapO, argsE, X.isC, resA, oneA, unA, boundA, eqiA, eqsA, fillA, fillE, ASt.fz, strA, simprocAttr, e0, e1, e2, e7, e9, q1, hrun', hall, g3, d1, c52]
            exact EQ_in ⟨j + 1, by omega, e0, e1, e2, e7, next_ixv (by unfold lenB; omega), by omega, L2, hH'.rest k3 k1, hLat.trans k2, hRest.trans k3⟩
          · have d1 : (c.f == s.1) = false := by simpa using hcf
            simp only [↓wpre, wset, wcore, wext, ne_eq, if_true, if_false, exists_eq_left', true_implies, false_implies, exists_const, exists_eq_right, binA, intA, loadA, storeA, pickC, setAt, mapO, argsE, X.isC, resA, oneA, unA, boundA, eqiA, eqsA, fillA, fillE, ASt.fz, strA, simprocAttr, e0, e1, e2, e7, e9, q1, hrun', hall, g3, d1]
            exact EQ_in ⟨j + 1, by omega, e0, e1, e2, e7, next_ixv (by unfold lenB; omega), by omega, L', hH', hLat, hRest⟩
        · have q1 := dltf hjg
          have up2 := up_I (k := numS s) (v := 2) L'
          have hmk2 : ∀ p, Vst (arA args) p → mk (upI (numS s) 2 L') p = if p = s then 2 else mk L' p := fun p hp => mk_up hs hp
          have hm2 := hLat.m12.up (k := numS s) (v := 2) (.inr rfl)
          generalize upI (numS s) 2 L' = L2 at *
          have lK' := lt_of_get hmap'
          simp only [↓wpre, wset, wcore, wext, ne_eq, if_true, if_false, exists_eq_left', true_implies, false_implies, exists_const, exists_eq_right, binA, intA, loadA, storeA, pickC, setAt, mapO, argsE, X.isC, resA, oneA, unA, boundA, eqiA, eqsA, fillA, fillE, ASt.fz, strA, simprocAttr, e0, e1, e2, e7, e9, q1, hrun', hmap', keyOK, up2]
          refine ⟨rfl, _, _, L2, rfl, by rw [List.getElem?_set_self lK'], ⟨fun p hp => ?_, fun p hp hn => ?_, hm2⟩, hRest.trans (.set K H' _)⟩
          · rw [hmk2 p hp]
            split
            · rename_i e
              rw [e, h0]; simp
            · rename_i e
              rw [hLat.one p hp, hmk1 p hp, if_neg e]
          · rw [hmk2 p hp]
            split
            · omega
            · rename_i e
              exact hLat.pos p hp (by rw [hmk1 p hp, if_neg e]; exact hn)
    · intro c ca s u L H T t tu hc hca hcf hs hu hul hfit hm12 hone hH hN
      have hgc := hF.good c hc
      have hA := hF.ar hc
      have hr3 : ar c.t ≤ 3 := by rw [← hA.2]; exact hF.few3 _
      have hsl : s.2.length = ar c.f := by rw [hs.len, ← hcf, hA.1]
      have hcl : c.m.length = ar c.t := hgc.wm.len
      have hs23 : s.2.length ≤ 3 := by rw [hs.len]; exact hs.few
      have hca' := hca
      obtain ⟨bl, bt, rfl, k1, k2, k3, k4, k5⟩ := hca.of
      have hbl := rows_all k1
      have hbn := k1.len
      have ual := ints_all u
      have sal := ints_all s.2
      have hrun := hH.run
      have hmap := hH.map
      refine sh_of pf52_is (Nat.le_of_ble_eq_true rfl) ?_
      by_cases hfull : u.length = ar c.t
      · have d1 : ((u.length : Int) == bl.length) = true := by rw [beq_iff_eq]; omega
        have hvt := vst_to hF hc hu hfull
        rcases (ihE (c.t, u) L (H ++ [.cells false [.int c.f, .int c.t, .sl bl bt]]) T tu hvt hm12 (fun p hp h1 => by
          rcases hone p hp h1 with rfl | h
          · exact FewS.one hc hcf rfl hfit
          · exact hF.next hp hs hvt h hc hcf rfl hfit) (hH.rest (.app K H _) (app_get_of hmap _)) (by omega)).call rfl with ⟨_, _, ⟨rfl, H2, T2, L2, rfl, m1, m2, m3⟩, c39⟩ | ⟨_, _, h, _⟩
        case inr => exact h.elim
        simp only [pf52, ↓wpre, wset, wcore, wext, ne_eq, if_true, if_false, exists_eq_left', true_implies, false_implies, exists_const, exists_eq_right, binA, intA, loadA, storeA, pickC, setAt, mapO, argsE, X.isC, resA, oneA, unA, boundA, eqiA, eqsA, fillA, fillE, ASt.fz, strA, simprocAttr, List.length_append, List.append_assoc, app_get_len, app_get_add, app_set_len, app_set_add, ints_len, d1, c39]
        exact ⟨rfl, H2, T2, L2, rfl, m1, m2, (RestK.app K H _).trans m3⟩
      · have d1 : ((u.length : Int) == bl.length) = false := by rw [beq_eq_false_iff_ne]; omega
        have hlt : u.length < ar c.t := by omega
        obtain ⟨row, tr, g1, g2, g3, g4, g5, g6⟩ := row_get k1 (show u.length < bl.length by omega)
        have hrow : row.length = ar c.f := hgc.wm.row row g2
        have hent := hgc.wm.ent row g2
        have ral := ints_all row
        have hget : ∀ k, get2 c.m u.length k = row.getD k 0 := fun k => get2_row g1
        simp only [pf52, ↓wpre, wset, wcore, wext, ne_eq, if_true, if_false, exists_eq_left', true_implies, false_implies, exists_const, exists_eq_right, binA, intA, loadA, storeA, pickC, setAt, mapO, argsE, X.isC, resA, oneA, unA, boundA, eqiA, eqsA, fillA, fillE, ASt.fz, strA, simprocAttr, List.length_append, List.append_assoc, app_get_len, app_get_add, app_set_len, app_set_add, ints_len, d1]
        refine W_loopE (fun x => 3 - x) (fun x E H' T' => E 0 = .ptr R 0 ∧ E 2 = .sl (ints s.2) t ∧ E 3 = .sl (ints u) tu ∧ E 5 = .ptr H.length 0 ∧ H'[H.length]? = some (.cells false [.int c.f, .int c.t, .sl bl bt]) ∧ E 9 = .int (u.length : Nat) ∧ E 10 = .int (x : Nat) ∧ x ≤ 3 ∧ ∃ L', RunH al t0 args ta R K L' H' ∧ Lat (arA args) L L' ∧ RestK K H H') ?_ 0 ⟨rfl, rfl, rfl, rfl, app_get_len, rfl, rfl, Nat.zero_le _, L, hH.rest (.app K H _) (app_get_of hmap _), .refl hm12, .app K H _⟩
        rintro x E H' T' ⟨e0, e2, e3, e5, h5, e9, e10, hx, L', hH', hLat, hRest⟩
        rcases Nat.lt_or_ge x 3 with hx3 | hx3
        · have q1 : decide ((x : Int) < 3) = true := decide_eq_true (by omega)
          simp only [↓wpre, wset, wcore, wext, ne_eq, if_true, if_false, exists_eq_left', true_implies, false_implies, exists_const, exists_eq_right, binA, intA, loadA, storeA, pickC, setAt, mapO, argsE, X.isC, resA, oneA, unA, boundA, eqiA, eqsA, fillA, fillE, ASt.fz, strA, simprocAttr, List.length_append, List.append_assoc, app_get_len, app_get_add, app_set_len, app_set_add, e0, e2, e3, e5, e9, e10, q1]
          refine W_loopE (fun k => s.2.length - k) (fun k E H'' T'' => E 0 = .ptr R 0 ∧ E 2 = .sl (ints s.2) t ∧ E 3 = .sl (ints u) tu ∧ E 5 = .ptr H.length 0 ∧ E 9 = .int (u.length : Nat) ∧ E 10 = .int (x : Nat) ∧ E 12 = .int (k : Nat) ∧ k ≤ s.2.length ∧ H'' = H' ∧ T'' = T' ∧ ∃ b, E 11 = .bool b ∧ (b = true → ∀ i, i < k → (get2 c.m u.length i = 1 → (x : Int) = s.2.getD i 0) ∧ (get2 c.m u.length i = 2 → (x : Int) < s.2.getD i 0))) ?_ 0 ⟨e0, e2, e3, e5, e9, e10, rfl, Nat.zero_le _, rfl, rfl, true, rfl, fun _ i hi => by omega⟩
          clear e0 e2 e3 e5 e9 e10 E
          rintro k E H'' T'' ⟨e0, e2, e3, e5, e9, e10, e12, hk, rfl, rfl, b, e11, hb⟩
          rcases Nat.lt_or_ge k s.2.length with hks | hks
          · have q2 := dlt hks
            obtain ⟨m, m1, m2, m3⟩ := ints_get (show k < row.length by omega)
            obtain ⟨v, v1, v2, v3⟩ := ints_get hks
            have hgm : get2 c.m u.length k = m := by rw [hget, getD_at m1]
            have hgv : s.2.getD k 0 = v := getD_at v1
            have hstep : ∀ b' : Bool, (b' = true → b = true ∧ (m = 1 → (x : Int) = v) ∧ (m = 2 → (x : Int) < v)) → (b' = true → ∀ i, i < k + 1 → (get2 c.m u.length i = 1 → (x : Int) = s.2.getD i 0) ∧ (get2 c.m u.length i = 2 → (x : Int) < s.2.getD i 0)) := fun b' h hb' i hi => by
              obtain ⟨h1, h2, h3⟩ := h hb'
              rcases Nat.lt_or_ge i k with h4 | h4
              · exact hb h1 i h4
              · obtain rfl : i = k := by omega
                rw [hgm, hgv]; exact ⟨h2, h3⟩
            by_cases h1 : m = 1
            · have p1 : (m == 1) = true := by simp [h1]
              cases b with
              | false =>
                simp only [↓wpre, wset, wcore, wext, ne_eq, if_true, if_false, exists_eq_left', true_implies, false_implies, exists_const, exists_eq_right, binA, intA, loadA, storeA, pickC, setAt, mapO, argsE, X.isC, resA, oneA, unA, boundA, eqiA, eqsA, fillA, fillE, ASt.fz, strA, simprocAttr, List.length_append, List.append_assoc, app_get_len, app_get_add, app_set_len, app_set_add, e0, e2, e3, e5, e9, e10, e11, e12, ints_len, q2, h5, g3, hbl, m3, ral, p1]
                exact EQ_in ⟨k + 1, by omega, e0, e2, e3, e5, e9, e10, next_ixv (by unfold lenB; omega), by omega, rfl, rfl, false, rfl, fun h => by cases h⟩
              | true =>
                simp only [↓wpre, wset, wcore, wext, ne_eq, if_true, if_false, exists_eq_left', true_implies, false_implies, exists_const, exists_eq_right, binA, intA, loadA, storeA, pickC, setAt, mapO, argsE, X.isC, resA, oneA, unA, boundA, eqiA, eqsA, fillA, fillE, ASt.fz, strA, simprocAttr, List.length_append, List.append_assoc, app_get_len, app_get_add, app_set_len, app_set_add, e0, e2, e3, e5, e9, e10, e11, e12, ints_len, q2, h5, g3, hbl, m3, ral, p1, v3, sal]
                exact EQ_in ⟨k + 1, by omega, e0, e2, e3, e5, e9, e10, next_ixv (by unfold lenB; omega), by omega, rfl, rfl, _, rfl, hstep _ fun h => ⟨rfl, fun _ => by simpa using h, fun h2 => by omega⟩⟩
            · have p1 : (m == 1) = false := by simp [h1]
              by_cases h2 : m = 2
              · have p2 : (m == 2) = true := by simp [h2]
                cases b with
                | false =>
                  simp only [↓wpre, wset, wcore, wext, ne_eq, if_true, if_false, exists_eq_left', true_implies, false_implies, exists_const, exists_eq_right, binA, intA, loadA, storeA, pickC, setAt, mapO, argsE, X.isC, resA, oneA, unA, boundA, eqiA, eqsA, fillA, fillE, ASt.fz, strA, simprocAttr, List.length_append, List.append_assoc, app_get_len, app_get_add, app_set_len, app_set_add, e0, e2, e3, e5, e9, e10, e11, e12, ints_len, q2, h5, g3, hbl, m3, ral, p1, p2]
                  exact EQ_in ⟨k + 1, by omega, e0, e2, e3, e5, e9, e10, next_ixv (by unfold lenB; omega), by omega, rfl, rfl, false, rfl, fun h => by cases h⟩
                | true =>
                  simp only [↓wpre, wset, wcore, wext, ne_eq, if_true, if_false, exists_eq_left', true_implies, false_implies, exists_const, exists_eq_right, binA, intA, loadA, storeA, pickC, setAt, mapO, argsE, X.isC, resA, oneA, unA, boundA, eqiA, eqsA, fillA, fillE, ASt.fz, strA, simprocAttr, List.length_append, List.append_assoc, app_get_len, app_get_add, app_set_len, app_set_add, e0, e2, e3, e5, e9, e10, e11, e12, ints_len, q2, h5, g3, hbl, m3, ral, p1, p2, v3, sal]
                  exact EQ_in ⟨k + 1, by omega, e0, e2, e3, e5, e9, e10, next_ixv (by unfold lenB; omega), by omega, rfl, rfl, _, rfl, hstep _ fun h => ⟨rfl, fun h3 => by omega, fun _ => by simpa using h⟩⟩
              · have p2 : (m == 2) = false := by simp [h2]
                simp only [↓wpre, wset, wcore, wext, ne_eq, if_true, if_false, exists_eq_left', true_implies, false_implies, exists_const, exists_eq_right, binA, intA, loadA, storeA, pickC, setAt, mapO, argsE, X.isC, resA, oneA, unA, boundA, eqiA, eqsA, fillA, fillE, ASt.fz, strA, simprocAttr, List.length_append, List.append_assoc, app_get_len, app_get_add, app_set_len, app_set_add, e0, e2, e3, e5, e9, e10, e11, e12, ints_len, q2, h5, g3, hbl, m3, ral, p1, p2]
                exact EQ_in ⟨k + 1, by omega, e0, e2, e3, e5, e9, e10, next_ixv (by unfold lenB; omega), by omega, rfl, rfl, b, e11, hstep b fun h => ⟨h, fun h3 => absurd h3 h1, fun h3 => absurd h3 h2⟩⟩
          · have q2 := dltf hks
            cases b with
            | false =>
              simp only [↓wpre, wset, wcore, wext, ne_eq, if_true, if_false, exists_eq_left', true_implies, false_implies, exists_const, exists_eq_right, binA, intA, loadA, storeA, pickC, setAt, mapO, argsE, X.isC, resA, oneA, unA, boundA, eqiA, eqsA, fillA, fillE, ASt.fz, strA, simprocAttr, List.length_append, List.append_assoc, app_get_len, app_get_add, app_set_len, app_set_add, e0, e2, e3, e5, e9, e10, e11, e12, ints_len, q2]
              exact EQ_in ⟨x + 1, by omega, e0, e2, e3, e5, h5, e9, next_ixv (by unfold lenB; omega), by omega, L', hH', hLat, hRest⟩
            | true =>
              have hb := hb rfl
              obtain ⟨t1, T1, t2, T2, a1, a2⟩ := app_app (H := H'') (T := T'') (u := u) (x := (x : Int)) (t0 := .cap 0) (.inr rfl) (by omega)
              have hun := hLat.unm hA3
              have hfit2 : FitW c s.2 (u ++ [(x : Int)]) := by
                intro i k hi hk
                rw [List.length_append, List.length_singleton] at hi
                rcases Nat.lt_or_ge i u.length with h1 | h1
                · rw [List.getD_eq_getElem?_getD (l := u ++ [(x : Int)]), List.getElem?_append_left h1, ← List.getD_eq_getElem?_getD]
                  exact hfit i k h1 hk
                · obtain rfl : i = u.length := by omega
                  rw [List.getD_eq_getElem?_getD (l := u ++ [(x : Int)]), List.getElem?_append_right (Nat.le_refl _), Nat.sub_self]
                  simp only [List.getElem?_cons_zero, Option.getD_some]
                  obtain ⟨z1, z2⟩ := hb k (by omega)
                  have hbd := hgc.wm.bnd u.length k
                  constructor
                  · intro h
                    rcases (show get2 c.m u.length k = 1 ∨ get2 c.m u.length k = 2 by omega) with h | h
                    · rw [z1 h]; exact Int.le_refl _
                    · exact Int.le_of_lt (z2 h)
                  · intro h
                    exact z2 (by omega)
              rcases (ihN c _ s (u ++ [(x : Int)]) L' H'' T2 t t2 hc hca' hcf hs (fun z hz => by
                rcases List.mem_append.1 hz with hz | hz
                · exact hu z hz
                · simp at hz; subst hz; omega) (by simp; omega) hfit2 hLat.m12 (fun p hp h1 => hone p hp ((hLat.one p hp).1 h1)) hH' (by simp; omega)).call rfl with ⟨_, _, ⟨rfl, H2, T3, L2, rfl, m1, m2, m3⟩, c52⟩ | ⟨_, _, h, _⟩
              case inr => exact h.elim
              simp only [↓wpre, wset, wcore, wext, ne_eq, if_true, if_false, exists_eq_left', true_implies, false_implies, exists_const, exists_eq_right, binA, intA, loadA, storeA, pickC, setAt, mapO, argsE, X.isC, resA, oneA, unA, boundA, eqiA, eqsA, fillA, fillE, ASt.fz, strA, simprocAttr, List.length_append, List.append_assoc, app_get_len, app_get_add, app_set_len, app_set_add, e0, e2, e3, e5, e9, e10, e11, e12, ints_len, q2, h5, a1, a2, c52]
              have lK := lt_of_get hmap
              exact EQ_in ⟨x + 1, by omega, e0, e2, e3, e5, m3.2 _ _ (by omega) h5, e9, next_ixv (by unfold lenB; omega), by omega, L2, hH'.rest m3 m1, hLat.trans m2, hRest.trans m3⟩
        · have q1 : decide ((x : Int) < 3) = false := decide_eq_false (by omega)
          simp only [↓wpre, wset, wcore, wext, ne_eq, if_true, if_false, exists_eq_left', true_implies, false_implies, exists_const, exists_eq_right, binA, intA, loadA, storeA, pickC, setAt, mapO, argsE, X.isC, resA, oneA, unA, boundA, eqiA, eqsA, fillA, fillE, ASt.fz, strA, simprocAttr, List.length_append, List.append_assoc, app_get_len, app_get_add, app_set_len, app_set_add, e0, e2, e3, e5, e9, e10, q1]
          exact ⟨rfl, H', T', L', rfl, hH'.map, hLat, hRest⟩
end Go.Proofs.Eng.T
namespace Go.Proofs.Eng.T
open Go Go.Proofs Go.Proofs.Eng
set_option maxRecDepth 100000
set_option maxHeartbeats 16000000
theorem few_out {cs : List Cl} {al : List AV} {t : Tl} (h : LIs ClIs cs al) (ht : t.pure = true) (hl : al.length ≤ 3518437208780) : Out md pfs 26 [.sl al t] (· = fewV cs) fun _ => False := by
  have hp : pureAV (fewV cs) = true := by
    unfold fewV
    split
    · simp [pv_tup, pvs_cons, pvs_nil, pv_v, pv_sl, ints_pure, Tl.pure]
    · simp [pv_tup, pvs_cons, pvs_nil, pv_v, pv_sl, Tl.pure]
  exact ⟨_, _, _, run_ora (f := 26) (pf := ⟨0, [], .ora few26O⟩) (o := few26O) (by unfold pfs; rw [if_neg (by decide), if_pos rfl]) rfl (few26O_eq h ht hl), by simp only [Outc.purify]; rw [purify_pure hp]; rfl, rfl⟩
theorem term_out {cs : List Cl} {al : List AV} {t : Tl} (h : LIs ClIs cs al) (ht : t.pure = true) (hl : al.length ≤ 1000) : Out md pfs 17 [.sl al t] (· = .tup [.bool (termL cs).1, mkAV (termL cs).2.1, .int (termL cs).2.2]) fun _ => False := by
  have hp : pureAV (.tup [.bool (termL cs).1, mkAV (termL cs).2.1, .int (termL cs).2.2]) = true := by simp [pv_tup, pvs_cons, pvs_nil, pv_v, mkAV_pure]
  exact ⟨_, _, _, run_ora (f := 17) (pf := ⟨0, [], .ora termO⟩) (o := termO) (by unfold pfs; rw [if_pos rfl]) rfl (termO_eq h ht hl), by simp only [Outc.purify]; rw [purify_pure hp]; rfl, rfl⟩
theorem true_out : Out md pfs 27 [] (· = .bool true) fun _ => False :=
  ⟨_, _, _, run_ora (f := 27) (pf := ⟨0, [], .ora trueO⟩) (o := trueO) (by unfold pfs; rw [if_neg (by decide), if_neg (by decide), if_pos rfl]) rfl (show trueO [] ⟨[], []⟩ = some (.bool true, ⟨[], []⟩) from rfl), by simp only [Outc.purify]; rw [purify_pure pv_v]; rfl, rfl⟩
theorem all_sh {l q : List Cl} {ar : Int → Nat} {args : List Int} {al : List AV} {t0 ta : Tl} {R K : Nat} (hF : FewS l q ar args) (hal : LIs ClIs l al) (hl : al.length ≤ 1000) {f : Nat} (hf : f < args.length) : ∀ (n : Nat) (v : List Int) (L : List (Int × Int)) (H : List AObj) (T : List Nat) (t : Tl), Sz v → v.length + n = arA args f → Mk12 L → (∀ p, Vst (arA args) p → mk L p ≠ 1) → RunH al t0 args ta R K L H → Sh md pfs 28 [.ptr R 0, .int (f : Nat), .sl (ints v) t] ⟨H, T⟩ (PostS (arA args) K L H) fun _ _ => False := by
  intro n
  have hA3 := hF.few3 (f : Int)
  have hf4 := hF.len
  have aal := ints_all args
  obtain ⟨m, m1, m2, m3⟩ := ints_get hf
  have hm0 := hF.few m (List.mem_of_getElem? m1)
  have hAm : arA args (f : Int) = m.toNat := by
    unfold arA
    rw [show ((f : Nat) : Int).toNat = f by simp, getD_at m1]
  induction n with
  | zero =>
    intro v L H T t hv hvl hm12 hone hH
    have hrun := hH.run
    have hvt : Vst (arA args) ((f : Int), v) := ⟨by simp, by simp; omega, by simpa using hvl, hA3, hv⟩
    have d1 : ((v.length : Int) == m) = true := by rw [beq_iff_eq]; omega
    rcases ((search hF hal hl (t0 := t0) (ta := ta) (R := R) (K := K) (5 * unm (arA args) L + 1)).1 ((f : Int), v) L H T t hvt hm12 (fun p hp h => absurd h (hone p hp)) hH (Nat.le_refl _)).call rfl with ⟨_, _, ⟨rfl, H2, T2, L2, rfl, k1, k2, k3⟩, c39⟩ | ⟨_, _, h, _⟩
    case inr => exact h.elim
    refine sh_of pf28_is (Nat.le_of_ble_eq_true rfl) ?_
    simp only [pf28, ↓wpre, wset, wcore, wext, ne_eq, if_true, if_false, exists_eq_left', true_implies, false_implies, exists_const, exists_eq_right, binA, intA, loadA, storeA, pickC, setAt, mapO, argsE, X.isC, resA, oneA, unA, boundA, eqiA, eqsA, fillA, fillE, ASt.fz, strA, simprocAttr, hrun, ints_len, aal, m3, d1, c39]
    exact ⟨rfl, H2, T2, L2, rfl, k1, k2, k3⟩
  | succ n ih =>
    intro v L H T t hv hvl hm12 hone hH
    have hrun := hH.run
    have d1 : ((v.length : Int) == m) = false := by rw [beq_eq_false_iff_ne]; omega
    refine sh_of pf28_is (Nat.le_of_ble_eq_true rfl) ?_
    simp only [pf28, ↓wpre, wset, wcore, wext, ne_eq, if_true, if_false, exists_eq_left', true_implies, false_implies, exists_const, exists_eq_right, binA, intA, loadA, storeA, pickC, setAt, mapO, argsE, X.isC, resA, oneA, unA, boundA, eqiA, eqsA, fillA, fillE, ASt.fz, strA, simprocAttr, hrun, ints_len, aal, m3, d1]
    refine W_loopE (fun x => 3 - x) (fun x E H' T' => E 0 = .ptr R 0 ∧ E 1 = .int (f : Nat) ∧ E 2 = .sl (ints v) t ∧ E 7 = .int (x : Nat) ∧ x ≤ 3 ∧ ∃ L', RunH al t0 args ta R K L' H' ∧ Lat (arA args) L L' ∧ RestK K H H') ?_ 0 ⟨rfl, rfl, rfl, rfl, Nat.zero_le _, L, hH, .refl hm12, .refl K H⟩
    rintro x E H' T' ⟨e0, e1, e2, e7, hx, L', hH', hLat, hRest⟩
    rcases Nat.lt_or_ge x 3 with hx3 | hx3
    · have q1 : decide ((x : Int) < 3) = true := decide_eq_true (by omega)
      obtain ⟨t1, T1, t2, T2, a1, a2⟩ := app_app (H := H') (T := T') (u := v) (x := (x : Int)) (t0 := .cap 0) (.inr rfl) (by omega)
      rcases (ih (v ++ [(x : Int)]) L' H' T2 t2 (fun z hz => by
        rcases List.mem_append.1 hz with hz | hz
        · exact hv z hz
        · simp at hz; subst hz; omega) (by simp; omega) hLat.m12 (fun p hp h => hone p hp ((hLat.one p hp).1 h)) hH').call rfl with ⟨_, _, ⟨rfl, H2, T3, L2, rfl, k1, k2, k3⟩, c28⟩ | ⟨_, _, h, _⟩
      case inr => exact h.elim
      simp only [↓wpre, wset, wcore, wext, ne_eq, if_true, if_false, exists_eq_left', true_implies, false_implies, exists_const, exists_eq_right, binA, intA, loadA, storeA, pickC, setAt, mapO, argsE, X.isC, resA, oneA, unA, boundA, eqiA, eqsA, fillA, fillE, ASt.fz, strA, simprocAttr, List.length_append, List.append_assoc, app_get_len, app_get_add, app_set_len, app_set_add, e0, e1, e2, e7, q1, a1, a2, c28]
      exact EQ_in ⟨x + 1, by omega, e0, e1, e2, next_ixv (by unfold lenB; omega), by omega, L2, hH'.rest k3 k1, hLat.trans k2, hRest.trans k3⟩
    · have q1 : decide ((x : Int) < 3) = false := decide_eq_false (by omega)
      simp only [↓wpre, wset, wcore, wext, ne_eq, if_true, if_false, exists_eq_left', true_implies, false_implies, exists_const, exists_eq_right, binA, intA, loadA, storeA, pickC, setAt, mapO, argsE, X.isC, resA, oneA, unA, boundA, eqiA, eqsA, fillA, fillE, ASt.fz, strA, simprocAttr, List.length_append, List.append_assoc, app_get_len, app_get_add, app_set_len, app_set_add, e0, e1, e2, e7, q1]
      exact ⟨rfl, H', T', L', rfl, hH'.map, hLat, hRest⟩
theorem fewS_of {l : List Cl} (h1 : l.any bigC = false) (h2 : (termL l).1 = true) : ∃ q ar, FewS l q ar (argsL l) := by
  obtain ⟨t1, t2, t3⟩ := termL_eq (l := l)
  have he : (closL l).2 = 0 := Classical.byContradiction fun h => by rw [t2 h] at h2; cases h2
  obtain ⟨ar, q, hg, hclo, hq⟩ := closL_ok he
  have t3 := t3 he
  rw [hq] at t3
  obtain ⟨s1, s2⟩ := srt_sorted hclo.good
  have hb : ∀ c ∈ l, Good ar c ∧ bigC c = false := fun c hc => ⟨hg c hc, by have := List.any_eq_false.1 h1 c hc; simpa using this⟩
  obtain ⟨r1, r2, r3, r4⟩ := args_few (a := []) hb ⟨by simp, fun k n h => by simp at h⟩
  rw [show l.foldl (fun a c => ((extL a ((mx c.f c.t).toNat + 1)).set c.t.toNat (c.m.length : Nat)).set c.f.toNat (colN c : Nat)) [] = argsL l from rfl] at r1 r2 r3 r4
  refine ⟨q, ar, hg, hclo, fun x hx => ?_, fun c hc => ?_, fun c hc => ?_, fun n hn => ?_, r1⟩
  · rw [t3] at h2
    cases hfd : (srt q).find? badB with
    | some c => rw [hfd] at h2; simp at h2
    | none =>
      have := List.find?_eq_none.1 hfd x ((s2 x).2 hx)
      simpa using this
  · have := (hb c hc).2
    unfold bigC at this
    simp only [Bool.or_eq_false_iff, decide_eq_false_iff_not] at this
    omega
  · obtain ⟨k1, k2⟩ := r4 c hc
    exact ⟨getD_at k1, getD_at k2⟩
  · obtain ⟨k, hk⟩ := List.getElem?_of_mem hn
    rcases r2 k n hk with h | ⟨h, h'⟩ <;> omega
theorem top_law {l : List Cl} {al : List AV} {t : Tl} (h : LIs ClIs l al) (ht : t.pure = true) (hl : al.length ≤ 3518437208780) : Out md pfs 10 [.sl al t] (· = .bool true) fun _ => False := by
  have hpa : pureAVs [AV.sl al t] = true := by simp [pvs_cons, pvs_nil, pv_sl, ht, clsPure h]
  have hla := h.len
  obtain ⟨_, rfl, c27⟩ := true_out.call rfl (by simp [pvs_nil])
  obtain ⟨_, rfl, c26⟩ := (few_out (t := t) h ht hl).call rfl hpa
  refine out_of pf10_is (Nat.le_of_ble_eq_true rfl) ?_
  by_cases hfw : checkR l = 0 ∧ l.length ≤ 8 ∧ l.any bigC = false
  case neg =>
    have hv : fewV l = .tup [.sl [] .nil, .bool false] := if_neg hfw
    rw [hv] at c26
    simp only [pf10, ↓wpre, wset, wcore, wext, ne_eq, if_true, if_false, exists_eq_left', true_implies, false_implies, exists_const, exists_eq_right, binA, intA, loadA, storeA, pickC, setAt, mapO, argsE, X.isC, resA, oneA, unA, boundA, eqiA, eqsA, fillA, fillE, ASt.fz, strA, simprocAttr, c26, c27]
  have hv : fewV l = .tup [.sl (ints (argsL l)) .al, .bool true] := if_pos hfw
  rw [hv] at c26
  obtain ⟨_, rfl, c17⟩ := (term_out (t := t) h ht (by omega)).call rfl hpa
  have hmk : mkAV (termL l).2.1 = .agg [.int (termL l).2.1.f, .int (termL l).2.1.t, .sl ((termL l).2.1.m.map fun r => .sl (ints r) .al) .al] := rfl
  rw [hmk] at c17
  by_cases he : (termL l).2.2 = 0
  case neg =>
    have d1 := ibne he
    simp only [pf10, ↓wpre, wset, wcore, wext, ne_eq, if_true, if_false, exists_eq_left', true_implies, false_implies, exists_const, exists_eq_right, binA, intA, loadA, storeA, pickC, setAt, mapO, argsE, X.isC, resA, oneA, unA, boundA, eqiA, eqsA, fillA, fillE, ASt.fz, strA, simprocAttr, List.length_append, List.append_assoc, app_get_len, app_get_add, app_set_len, app_set_add, c26, c27, c17, d1]
  have d1 := ibne' he
  cases hok : (termL l).1 with
  | false =>
    rw [hok] at c17
    simp only [pf10, ↓wpre, wset, wcore, wext, ne_eq, if_true, if_false, exists_eq_left', true_implies, false_implies, exists_const, exists_eq_right, binA, intA, loadA, storeA, pickC, setAt, mapO, argsE, X.isC, resA, oneA, unA, boundA, eqiA, eqsA, fillA, fillE, ASt.fz, strA, simprocAttr, List.length_append, List.append_assoc, app_get_len, app_get_add, app_set_len, app_set_add, c26, c27, c17, d1]
  | true =>
    rw [hok] at c17
    obtain ⟨q, ar, hF⟩ := fewS_of hfw.2.2 hok
    have hargs := hF.len
    generalize argsL l = args at *
    simp only [pf10, ↓wpre, wset, wcore, wext, ne_eq, if_true, if_false, exists_eq_left', true_implies, false_implies, exists_const, exists_eq_right, binA, intA, loadA, storeA, pickC, setAt, mapO, argsE, X.isC, resA, oneA, unA, boundA, eqiA, eqsA, fillA, fillE, ASt.fz, strA, simprocAttr, List.length_append, List.append_assoc, app_get_len, app_get_add, app_set_len, app_set_add, c26, c27, c17, d1]
    refine W_loopE (fun f => args.length - f) (fun f E H T => E 3 = .sl (ints args) .al ∧ E 8 = .ptr 2 0 ∧ E 9 = .int (f : Nat) ∧ f ≤ args.length ∧ ∃ L, RunH al t args .al 2 1 L H ∧ Mk12 L ∧ ∀ p, Vst (arA args) p → mk L p ≠ 1) ?_ 0 ⟨rfl, rfl, rfl, Nat.zero_le _, [], ⟨by decide, rfl, rfl⟩, .nil, fun p _ => by unfold mk; simp [lookI]⟩
    rintro f E H T ⟨e3, e8, e9, hf, L, hH, hm12, hone⟩
    rcases Nat.lt_or_ge f args.length with hlt | hge
    · have q1 := dlt hlt
      rcases (all_sh hF h (by omega) hlt (arA args f) [] L H T .nil (fun x hx => by simp at hx) (by simp) hm12 hone hH).call rfl with ⟨_, _, ⟨rfl, H2, T2, L2, rfl, k1, k2, k3⟩, c28⟩ | ⟨_, _, h, _⟩
      case inr => exact h.elim
      rw [show ints [] = [] from rfl] at c28
      simp only [↓wpre, wset, wcore, wext, ne_eq, if_true, if_false, exists_eq_left', true_implies, false_implies, exists_const, exists_eq_right, binA, intA, loadA, storeA, pickC, setAt, mapO, argsE, X.isC, resA, oneA, unA, boundA, eqiA, eqsA, fillA, fillE, ASt.fz, strA, simprocAttr, List.length_append, List.append_assoc, app_get_len, app_get_add, app_set_len, app_set_add, e3, e8, e9, ints_len, q1, c28]
      exact EQ_in ⟨f + 1, by omega, e3, e8, next_ixv (by unfold lenB; omega), by omega, L2, hH.rest k3 k1, k2.m12, fun p hp h => hone p hp ((k2.one p hp).1 h)⟩
    · have q1 := dltf hge
      simp only [↓wpre, wset, wcore, wext, ne_eq, if_true, if_false, exists_eq_left', true_implies, false_implies, exists_const, exists_eq_right, binA, intA, loadA, storeA, pickC, setAt, mapO, argsE, X.isC, resA, oneA, unA, boundA, eqiA, eqsA, fillA, fillE, ASt.fz, strA, simprocAttr, List.length_append, List.append_assoc, app_get_len, app_get_add, app_set_len, app_set_add, e3, e8, e9, ints_len, q1, c27]
end Go.Proofs.Eng.T
namespace Go.Proofs.Eng.T
open Go Go.Proofs Go.Proofs.Eng
set_option maxRecDepth 100000
set_option maxHeartbeats 16000000
end Go.Proofs.Eng.T
namespace Go.Proofs.Eng
open Go Go.Proofs
open Go.ChangeShapes Go.WideShapes Go.ChangeAt Go.RowKit
set_option maxRecDepth 100000
theorem law_trueG {md : FuncId → Md} {pfs : FuncId → Option PF} {f : FuncId} {ls : List AV} (h : Out md pfs f ls (· = .bool true) fun _ => False) : ∃ s', run md pfs f ls ⟨[], []⟩ = some (.ret (.v (.bool true)), s') := by
  obtain ⟨out, s, out', h1, h2, h3⟩ := h
  cases out' with
  | pan v => exact h3.elim
  | ret v =>
    subst h3
    cases out with
    | pan w => simp [Outc.purify] at h2
    | ret w =>
      simp only [Outc.purify, Option.map_eq_some_iff] at h2
      obtain ⟨y, h2, h3⟩ := h2
      cases h3
      exact ⟨s, by rw [h1, purify_v_inv h2]⟩
theorem trod_size {H : Type} {enc : TypeId × Value → H} {P : Program} {w : World} {base : Nat} {spare : Nat → Bool} {held : Bool} {fuel : Nat} {t e : TypeId} {a : Option Addr} {len cap : Nat} {d : DataW H} {ps : List MemPlace}
    (hT : P.underlying t = some (.slice e)) (h : DataW.trod enc P w base spare held fuel t [.slice a len cap] = some (d, ps)) : len = 0 ∨ ∃ m, len ≤ m ∧ m * P.bytesOf e ∈ d.weights P t := by
  cases fuel with
  | zero => simp [DataW.trod] at h
  | succ fuel =>
    cases a with
    | none =>
      unfold DataW.trod at h
      rw [hT] at h
      split at h <;> first | (rename_i h1; cases h1; done) | skip
      all_goals (rename_i h1 h2; first | (cases h2; exact .inl rfl) | (cases h1; done) | (cases h2; done) | (simp at h; done))
    | some a =>
      unfold DataW.trod at h
      rw [hT] at h
      simp only at h
      split at h
      · obtain ⟨elems, h1, h2⟩ := Option.bind_eq_some_iff.1 h
        obtain ⟨rest, h3, h4⟩ := Option.map_eq_some_iff.1 h2
        simp only [Prod.mk.injEq] at h4
        obtain ⟨rfl, _⟩ := h4
        refine .inr ⟨elems.length + rest.length, ?_, ?_⟩
        · have := (mapM_get h1).1
          simp at this; omega
        · unfold DataW.weights
          rw [hT]; simp
      · cases h
theorem law_contract_sz {P : Program} {H : Type} {enc : TypeId × Value → H} {md : FuncId → Md} {pfs : FuncId → Option PF} (hm : P.follows .mixedOrders = true) (hP : PfsOK P pfs) (hl : laidOutB P = true) {f : FuncId} {fn : Func} {s : ChangeSpec} {tb : TypeId}
    (hpar : (fn.params.toList.all fun t => P.readableRec t && decide (t < P.types.size)) = true) (hvars : varsRowed P s.vars = true) (hres : fn.resultTypes = #[tb]) (htb : P.underlying tb = some .bool)
    (hspec : ∀ ds gs : List (DataW H), ds.length = fn.params.toList.length → gs.length = s.vars.length → (s.fn H (ds ++ gs)).results = [.lit (.bool true)] ∧ (s.fn H (ds ++ gs)).args = ds ∧ (s.fn H (ds ++ gs)).vars = gs)
    {t0 e0 : TypeId} {ts0 : List TypeId} (hp0 : fn.params.toList = t0 :: ts0) (hT0 : P.underlying t0 = some (.slice e0))
    (hlaw : ∀ ls : List AV, ArgsT P fn.params.toList ls → (∀ al t ls', ls = .sl al t :: ls' → al.length * P.bytesOf e0 ≤ reachBytes) → ∃ s', run md pfs f ls ⟨[], []⟩ = some (.ret (.v (.bool true)), s'))
    {W : World} (hk : Kn W) {base : Nat} {args : Array Value} {ds gs : List (DataW H)} {before : List MemPlace}
    (hval : ∀ (j : Nat) t v, fn.params[j]? = some t → args[j]? = some v → Value.okWide P W .any base t v) (hW : DataW.Whole enc P fn.params.toList s.vars false W args.toList ds gs before)
    (hwt : (DataW.weightsEach P (fn.params.toList ++ s.plain.varTypes P) (ds ++ gs)).all (· ≤ reachBytes) = true) :
    Calls P f args W fun e W' => ∃ v, e = .returned v ∧ s.post enc P fn false true false false W args v W' := by
  obtain ⟨p, q, hA, hV, hrest⟩ := id hW
  obtain ⟨ls, h1, h2, h3⟩ := args_rep (w' := W) (base := base) (fun j t v ht hv => hval j t v (by simpa using ht) (by simpa using hv)) hA
  have hsz : ∀ al t ls', ls = .sl al t :: ls' → al.length * P.bytesOf e0 ≤ reachBytes := by
    rintro al t ls' rfl
    obtain ⟨u, us, hu, hR, _⟩ := h1.cons_inv
    obtain ⟨x, cap, b, o, cs, rfl, _⟩ := hR.sl_inv
    rw [hu, hp0] at hA
    match ds, hA with
    | d :: ds, ⟨p1, q1, ⟨fuel, hd⟩, _, _⟩ =>
      rw [hp0] at hwt
      rcases trod_size hT0 hd with h0 | ⟨m, hm1, hm2⟩
      · rw [h0]; simp
      · have hall := List.all_eq_true.1 hwt (m * P.bytesOf e0) (by
          simp only [List.cons_append, DataW.weightsEach]
          exact List.mem_append_left _ hm2)
        have := of_decide_eq_true hall
        exact Nat.le_trans (Nat.mul_le_mul_right _ hm1) this
  obtain ⟨s', hs⟩ := hlaw ls h2 hsz
  obtain ⟨e1, e2, e3⟩ := hspec ds gs h3 (vars_len hV)
  have := law_calls hm hP hs hk h1
  rw [show args.toList.toArray = args from Array.toArray_toList] at this
  refine this.mono fun e W' ⟨he, hb⟩ => ⟨_, he, ?_⟩
  exact post_true hW hb hl hpar hvars hres htb e1 e2 e3
end Go.Proofs.Eng
