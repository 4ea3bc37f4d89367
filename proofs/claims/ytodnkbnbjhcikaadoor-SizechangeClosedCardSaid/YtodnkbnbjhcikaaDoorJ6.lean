/- Closed holds of all calls. No conditions beyond those in the theorems. -/
import Derived.Test.YtodnkbnbjhcikaaDoorJ5
set_option linter.all false
set_option linter.deprecated false
set_option linter.unnecessarySimpa false
set_option linter.unusedVariables false
set_option linter.unusedSimpArgs false
set_option linter.defProp false
namespace Go.Proofs.Eng
open Go Go.Proofs
set_option maxRecDepth 100000
set_option maxHeartbeats 16000000
theorem closL_bad {l : List Cl} (h : (closL l).2 ≠ 0) : (closL l).1 = [] := by
  unfold closL at h ⊢
  split
  · rename_i h1
    rw [if_pos h1] at h
    split
    · rename_i q hq; rw [hq] at h; exact absurd rfl h
    · rfl
  · rfl
theorem closL_ok {l : List Cl} (h : (closL l).2 = 0) : ∃ (ar : Int → Nat) (q : List Cl), (∀ c ∈ l, Good ar c) ∧ Clo ar l q ∧ (closL l).1 = srt q := by
  unfold closL at h ⊢
  split at h
  · rename_i h1
    rw [if_pos h1]
    obtain ⟨ar, hg⟩ := check_good h1
    cases hq : cloQ l with
    | none => rw [hq] at h; simp at h
    | some q => exact ⟨ar, q, hg, clo_of hg hq, rfl⟩
  · rename_i h1
    exact absurd h h1
theorem closL_nil : (closL []).1 = [] := rfl
theorem nil_of {l : List Cl} {al : List AV} (h : LIs ClIs l al) (hl : l = []) : al = [] := by
  subst hl
  cases al with
  | nil => rfl
  | cons a l => simp [LIs] at h
theorem lt_adj {L : List Cl} (h : L.Pairwise ltC) {i : Nat} {x y : Cl} (hx : L[i]? = some x) (hy : L[i + 1]? = some y) : ltC x y := by
  obtain ⟨h1, e1⟩ := List.getElem?_eq_some_iff.1 hx
  obtain ⟨h2, e2⟩ := List.getElem?_eq_some_iff.1 hy
  have := List.pairwise_iff_getElem.1 h i (i + 1) h1 h2 (by omega)
  rw [e1, e2] at this
  exact this
theorem eqAVs_ints (r : List Int) : eqAVs (ints r) (ints r) = true := by
  induction r with
  | nil => rfl
  | cons x r ih =>
    show (eqAV (.int x) (.int x) && eqAVs (ints r) (ints r)) = true
    rw [ih]; simp [eqAV, eqV]
theorem eqAVs_rows : ∀ {m : List (List Int)} {al : List AV}, LIs RowIs m al → eqAVs al al = true
  | [], [], _ => rfl
  | [], _ :: _, h => by simp [LIs] at h
  | _ :: _, [], h => by simp [LIs] at h
  | x :: m, a :: al, h => by
    simp only [LIs] at h
    obtain ⟨t, rfl, _⟩ := h.1.of
    simp only [eqAVs, eqAV, eqAVs_rows h.2, eqAVs_ints, decide_true, Bool.and_self]
theorem cl_eqAV {c : Cl} {a : AV} (h : ClIs c a) : eqAV a a = true := by
  obtain ⟨al, t, rfl, h1, _⟩ := h.of
  simp only [eqAV, eqAVs, eqAVs_rows h1, decide_true, Bool.and_true, Bool.and_self]
  simp [eqV]
theorem closed_law {l : List Cl} {al : List AV} {t : Tl} {i k : Nat} (h : LIs ClIs l al) (ht : t.pure = true) (hl : al.length ≤ lenB) (hi : i < 65536) (hk : k < 65536) : Out md pfs 7 [.sl al t, .v (.int .u16 i), .v (.int .u16 k)] (· = .bool true) fun _ => False := by
  have hpa : pureAVs [AV.sl al t] = true := by simp [pvs_cons, pvs_nil, pv_sl, ht, clsPure h]
  have hla := h.len
  have hall := h.all clAgg
  obtain ⟨_, rfl, aw⟩ := awake_ret.call rfl (by simp [pvs_nil])
  obtain ⟨_, ⟨b, rfl, hb⟩, c12⟩ := (few_ret (t := t) h hl).call rfl hpa
  refine out_of pf7_is (Nat.le_of_ble_eq_true rfl) ?_
  cases b with
  | false => simp only [pf7, ↓wpre, wset, wcore, wext, ne_eq, if_true, if_false, exists_eq_left', true_implies, false_implies, exists_const, exists_eq_right, binA, intA, loadA, storeA, pickC, setAt, mapO, argsE, X.isC, resA, oneA, unA, boundA, eqiA, eqsA, fillA, fillE, ASt.fz, strA, simprocAttr, c12, aw]
  | true =>
  obtain ⟨hl6, hsh⟩ := hb rfl
  obtain ⟨_, ⟨la, tl, rfl, hL, htl⟩, c14⟩ := (closure_ret (t := t) h ht (by omega)).call rfl hpa
  by_cases he : (closL l).2 = 0
  case neg =>
    obtain rfl := nil_of hL (closL_bad he)
    have d1 := ibne he
    simp only [pf7, ↓wpre, wset, wcore, wext, ne_eq, if_true, if_false, exists_eq_left', true_implies, false_implies, exists_const, exists_eq_right, binA, intA, loadA, storeA, pickC, setAt, mapO, argsE, X.isC, resA, oneA, unA, boundA, eqiA, eqsA, fillA, fillE, ASt.fz, strA, simprocAttr, c12, c14, aw, d1]
  have d1 := ibne' he
  by_cases hn0 : al.length = 0
  · have hl0 : l = [] := List.length_eq_zero_iff.1 (by omega)
    rw [hl0, closL_nil] at hL
    obtain rfl := nil_of hL rfl
    have d2 : ((al.length : Int) == 0) = true := by simp [hn0]
    simp only [pf7, ↓wpre, wset, wcore, wext, ne_eq, if_true, if_false, exists_eq_left', true_implies, false_implies, exists_const, exists_eq_right, binA, intA, loadA, storeA, pickC, setAt, mapO, argsE, X.isC, resA, oneA, unA, boundA, eqiA, eqsA, fillA, fillE, ASt.fz, strA, simprocAttr, c12, c14, aw, d1, d2]
  have d2 : ((al.length : Int) == 0) = false := by rw [beq_eq_false_iff_ne]; omega
  obtain ⟨ar, q, hg, hclo, hq⟩ := closL_ok he
  rw [hq] at hL
  obtain ⟨s1, s2⟩ := srt_sorted hclo.good
  have hpL : pureAVs la = true := clsPure hL
  have hLn := hL.len
  have hLl : (srt q).length ≤ 2000 := by rw [srt_len hclo.good hclo.nd]; exact hclo.len
  have hLa := hL.all clAgg
  have hgl : ∀ x ∈ srt q, Good ar x := fun x hx => hclo.good x ((s2 x).1 hx)
  simp only [pf7, ↓wpre, wset, wcore, wext, ne_eq, if_true, if_false, exists_eq_left', true_implies, false_implies, exists_const, exists_eq_right, binA, intA, loadA, storeA, pickC, setAt, mapO, argsE, X.isC, resA, oneA, unA, boundA, eqiA, eqsA, fillA, fillE, ASt.fz, strA, simprocAttr, c12, c14, d1, d2]
  refine W_loopE (fun j => al.length - j) (fun j E H T => E 0 = .sl al t ∧ E 1 = .v (.int .u16 i) ∧ E 2 = .v (.int .u16 k) ∧ E 7 = .sl la tl ∧ E 9 = .int (j : Nat) ∧ j ≤ al.length) ?_ 0 ⟨rfl, rfl, rfl, rfl, rfl, Nat.zero_le _⟩
  rintro j E H T ⟨e0, e1, e2, e7, e9, hj⟩
  rcases Nat.lt_or_ge j al.length with hlt | hge
  · have q1 := dlt hlt
    obtain ⟨c, a, g1, g2, g3, g4⟩ := cl_get h hlt
    obtain ⟨_, rfl, c23⟩ := (has_ret (t := tl) hL g4 (by unfold lenB; omega)).call rfl (by simp [pvs_cons, pvs_nil, pv_sl, htl, hpL, g4.pure])
    rw [decide_eq_true ((s2 c).2 (hclo.sub c g2))] at c23
    obtain ⟨bl, u, rfl, _⟩ := g4.of
    simp only [↓wpre, wset, wcore, wext, ne_eq, if_true, if_false, exists_eq_left', true_implies, false_implies, exists_const, exists_eq_right, binA, intA, loadA, storeA, pickC, setAt, mapO, argsE, X.isC, resA, oneA, unA, boundA, eqiA, eqsA, fillA, fillE, ASt.fz, strA, simprocAttr, e0, e1, e2, e7, e9, q1, hall, g3, c23]
    exact EQ_in ⟨j + 1, by omega, e0, e1, e2, e7, next_ixv (by omega), by omega⟩
  have q1 := dltf hge
  have hne : q ≠ [] := by
    rintro rfl
    cases l with
    | nil => exact hn0 hla
    | cons x l => have := hclo.sub x (by simp); simp at this
  have hlp : 0 < la.length := by
    rw [hLn, srt_len hclo.good hclo.nd]
    exact List.length_pos_iff.2 hne
  simp only [↓wpre, wset, wcore, wext, ne_eq, if_true, if_false, exists_eq_left', true_implies, false_implies, exists_const, exists_eq_right, binA, intA, loadA, storeA, pickC, setAt, mapO, argsE, X.isC, resA, oneA, unA, boundA, eqiA, eqsA, fillA, fillE, ASt.fz, strA, simprocAttr, e0, e1, e2, e7, e9, q1]
  refine W_loopE (fun m => la.length - m) (fun m E H T => E 1 = .v (.int .u16 i) ∧ E 2 = .v (.int .u16 k) ∧ E 7 = .sl la tl ∧ E 10 = .int ((m + 1 : Nat) : Int) ∧ m + 1 ≤ la.length) ?_ 0 ⟨e1, e2, e7, rfl, by omega⟩
  clear e0 e1 e2 e7 e9 q1 hge hj E H T j
  rintro m E H T ⟨e1, e2, e7, e10, hm⟩
  rcases Nat.lt_or_ge (m + 1) la.length with hlt | hge
  · have q1 := dlt hlt
    obtain ⟨c, a, g1, g2, g3, g4⟩ := cl_get hL (show m < la.length by omega)
    obtain ⟨d, b, f1, f2, f3, f4⟩ := cl_get hL hlt
    have gc := hgl c g2
    have gd := hgl d f2
    obtain ⟨_, rfl, c24⟩ := (order_ret g4 f4 gc.ok gd.ok).call rfl (by simp [pvs_cons, pvs_nil, g4.pure, f4.pure])
    have hlt2 := lt_adj s1 g1 f1
    have d3 : decide (ordR c d ≥ 0) = false := by
      rw [ordR_eq gc gd]
      exact decide_eq_false (by unfold ltC at hlt2; omega)
    have hw : IntKind.i64.wrap (((m + 1 : Nat) : Int) - 1) = (m : Nat) := by rw [wrap_in (by unfold in64; omega)]; omega
    obtain ⟨bl, u, rfl, _⟩ := g4.of
    obtain ⟨dl, v, rfl, _⟩ := f4.of
    simp only [↓wpre, wset, wcore, wext, ne_eq, if_true, if_false, exists_eq_left', true_implies, false_implies, exists_const, exists_eq_right, binA, intA, loadA, storeA, pickC, setAt, mapO, argsE, X.isC, resA, oneA, unA, boundA, eqiA, eqsA, fillA, fillE, ASt.fz, strA, simprocAttr, e1, e2, e7, e10, q1, hLa, hw, g3, f3, c24, d3]
    exact EQ_in ⟨m + 1, by omega, e1, e2, e7, next_ixv (by unfold lenB; omega), by omega⟩
  have q1 := dltf hge
  have d4 : ((la.length : Int) == 0) = false := by rw [beq_eq_false_iff_ne]; omega
  have z0 : ((la.length : Int) = 0) = False := eq_false (by omega)
  have hidx : ∀ n : Nat, n < 65536 → (IntKind.i64.wrap (n : Int)).tmod la.length = ((n % la.length : Nat) : Int) := fun n hn => by
    rw [wrap_in (by unfold in64; omega)]
    exact (Int.ofNat_tmod n la.length).symm
  have w1 := hidx i hi
  have w2 := hidx k hk
  obtain ⟨c, a, g1, g2, g3, g4⟩ := cl_get hL (Nat.mod_lt i hlp)
  obtain ⟨d, b, f1, f2, f3, f4⟩ := cl_get hL (Nat.mod_lt k hlp)
  generalize hI : i % la.length = I at *
  generalize hK : k % la.length = K at *
  have gc := hgl c g2
  have gd := hgl d f2
  obtain ⟨_, ⟨u, rfl, hu⟩, c21⟩ := (pcompose_ret g4 f4).call rfl (by simp [pvs_cons, pvs_nil, g4.pure, f4.pure])
  have hchk : checkR [c, d] = 0 := good_check (ar := ar) (by
    intro x hx
    simp only [List.mem_cons, List.not_mem_nil, or_false] at hx
    rcases hx with rfl | rfl
    · exact gc
    · exact gd)
  have v1 := cl_eqAV g4
  have v2 := cl_eqAV f4
  obtain ⟨bl, bt, rfl, _⟩ := g4.of
  obtain ⟨dl, dt, rfl, _⟩ := f4.of
  by_cases hft : c.t = d.f
  · have d5 := ibne' hft
    have hr : compL c d = (comp c d, 0) := by unfold compL; rw [if_pos hchk, if_pos hft]
    rw [hr] at hu c21
    simp only at hu c21
    obtain ⟨_, rfl, c23⟩ := (has_ret (t := tl) hL hu (by unfold lenB; omega)).call rfl (by simp [pvs_cons, pvs_nil, pv_sl, htl, hpL, hu.pure])
    rw [decide_eq_true ((s2 _).2 (hclo.comp' hg ((s2 c).1 g2) ((s2 d).1 f2) hft))] at c23
    obtain ⟨ul, ut, rfl, _⟩ := hu.of
    simp only [↓wpre, wset, wcore, wext, ne_eq, if_true, if_false, exists_eq_left', true_implies, false_implies, exists_const, exists_eq_right, binA, intA, loadA, storeA, pickC, setAt, mapO, argsE, X.isC, resA, oneA, unA, boundA, eqiA, eqsA, fillA, fillE, ASt.fz, strA, simprocAttr, List.length_append, List.append_assoc, app_get_len, app_get_add, app_set_len, app_set_add, e1, e2, e7, e10, q1, d4, List.getLast?_cons_cons, List.getLast?_singleton, List.dropLast_cons_cons, List.dropLast_singleton, M1_t, M1_f, M3_some, hLa, z0, w1, w2, g3, f3, v1, v2, kz_alloc, JW_f, JW_t, c21, d5, aw, c23]
  · have d5 := ibne hft
    have hr : compL c d = (⟨0, 0, []⟩, 1) := by unfold compL; rw [if_pos hchk, if_neg hft]
    rw [hr] at hu c21
    simp only at hu c21
    obtain ⟨ut, rfl⟩ := zero_mat hu
    simp only [↓wpre, wset, wcore, wext, ne_eq, if_true, if_false, exists_eq_left', true_implies, false_implies, exists_const, exists_eq_right, binA, intA, loadA, storeA, pickC, setAt, mapO, argsE, X.isC, resA, oneA, unA, boundA, eqiA, eqsA, fillA, fillE, ASt.fz, strA, simprocAttr, List.length_append, List.append_assoc, app_get_len, app_get_add, app_set_len, app_set_add, e1, e2, e7, e10, q1, d4, List.getLast?_cons_cons, List.getLast?_singleton, List.dropLast_cons_cons, List.dropLast_singleton, M1_t, M1_f, M3_some, hLa, z0, w1, w2, g3, f3, v1, v2, kz_alloc, JW_f, JW_t, c21, d5, aw]
end Go.Proofs.Eng
