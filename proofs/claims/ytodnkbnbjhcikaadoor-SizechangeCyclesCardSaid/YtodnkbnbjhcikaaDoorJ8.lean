/- Cycles holds of all calls. No conditions beyond those in the theorems. -/
import Derived.Test.YtodnkbnbjhcikaaDoorJ7
set_option linter.all false
set_option linter.deprecated false
set_option linter.unnecessarySimpa false
set_option linter.unusedVariables false
set_option linter.unusedSimpArgs false
set_option linter.defProp false
namespace Go.Proofs.Eng
open Go Go.Proofs
set_option maxRecDepth 100000
set_option maxHeartbeats 16000000
def u8s (l : List Nat) : List AV := l.map fun (n : Nat) => AV.v (Value.int .u8 (n : Int))
theorem u8s_len (l : List Nat) : (u8s l).length = l.length := by simp [u8s]
theorem u8s_all (l : List Nat) : ((u8s l).all fun x => x.cells.length == 1) = true := by
  rw [List.all_eq_true]
  intro x hx
  obtain ⟨n, _, rfl⟩ := List.mem_map.1 hx
  rfl
theorem u8s_get {l : List Nat} {i : Nat} (h : i < l.length) : ∃ n, n ∈ l ∧ (u8s l)[i]? = some (.v (.int .u8 (n : Int))) := ⟨l[i], List.getElem_mem h, by simp [u8s, h]⟩
theorem two_good {ar : Int → Nat} {c d : Cl} (hc : Good ar c) (hd : Good ar d) : compL c d = if c.t = d.f then (comp c d, 0) else (⟨0, 0, []⟩, 1) := by
  unfold compL
  rw [if_pos (good_check (ar := ar) (by
    intro y hy
    simp only [List.mem_cons, List.not_mem_nil, or_false] at hy
    rcases hy with rfl | rfl
    · exact hc
    · exact hd))]
theorem clo_gen {ar : Int → Nat} {l q : List Cl} (h : Clo ar l q) (hg : ∀ c ∈ l, Good ar c) {x : Cl} (hx : Gen l x) : x ∈ q := by
  induction hx with
  | base hd => exact h.sub _ hd
  | step hx hd e ih => exact h.cl _ ih _ hd e
theorem cycles_law {l : List Cl} {al : List AV} {t tp : Tl} {ps : List Nat} (h : LIs ClIs l al) (ht : t.pure = true) (hl : al.length ≤ lenB) (hp : ∀ n ∈ ps, n < 256) : Out md pfs 9 [.sl al t, .sl (u8s ps) tp] (· = .bool true) fun _ => False := by
  have hpa : pureAVs [AV.sl al t] = true := by simp [pvs_cons, pvs_nil, pv_sl, ht, clsPure h]
  have hla := h.len
  have hall := h.all clAgg
  obtain ⟨_, rfl, aw⟩ := awake_ret.call rfl (by simp [pvs_nil])
  obtain ⟨_, ⟨b, rfl, hb⟩, c12⟩ := (few_ret (t := t) h hl).call rfl hpa
  refine out_of pf9_is (Nat.le_of_ble_eq_true rfl) ?_
  cases b with
  | false => simp only [pf9, ↓wpre, wset, wcore, wext, ne_eq, if_true, if_false, exists_eq_left', true_implies, false_implies, exists_const, exists_eq_right, binA, intA, loadA, storeA, pickC, setAt, mapO, argsE, X.isC, resA, oneA, unA, boundA, eqiA, eqsA, fillA, fillE, ASt.fz, strA, simprocAttr, c12, aw]
  | true =>
  obtain ⟨hl6, hsh⟩ := hb rfl
  by_cases hn0 : al.length = 0
  · have d1 : ((al.length : Int) == 0) = true := by rw [hn0]; rfl
    simp only [pf9, ↓wpre, wset, wcore, wext, ne_eq, if_true, if_false, exists_eq_left', true_implies, false_implies, exists_const, exists_eq_right, binA, intA, loadA, storeA, pickC, setAt, mapO, argsE, X.isC, resA, oneA, unA, boundA, eqiA, eqsA, fillA, fillE, ASt.fz, strA, simprocAttr, c12, aw, d1]
  have d1 : ((al.length : Int) == 0) = false := by rw [beq_eq_false_iff_ne]; omega
  by_cases hp0 : ps.length = 0
  · have d2 : ((ps.length : Int) == 0) = true := by rw [hp0]; rfl
    simp only [pf9, ↓wpre, wset, wcore, wext, ne_eq, if_true, if_false, exists_eq_left', true_implies, false_implies, exists_const, exists_eq_right, binA, intA, loadA, storeA, pickC, setAt, mapO, argsE, X.isC, resA, oneA, unA, boundA, eqiA, eqsA, fillA, fillE, ASt.fz, strA, simprocAttr, c12, aw, d1, u8s_len, d2]
  have d2 : ((ps.length : Int) == 0) = false := by rw [beq_eq_false_iff_ne]; omega
  by_cases hp12 : ps.length > 12
  · have d3 : decide ((ps.length : Int) > 12) = true := decide_eq_true (by omega)
    simp only [pf9, ↓wpre, wset, wcore, wext, ne_eq, if_true, if_false, exists_eq_left', true_implies, false_implies, exists_const, exists_eq_right, binA, intA, loadA, storeA, pickC, setAt, mapO, argsE, X.isC, resA, oneA, unA, boundA, eqiA, eqsA, fillA, fillE, ASt.fz, strA, simprocAttr, c12, aw, d1, u8s_len, d2, d3]
  have d3 : decide ((ps.length : Int) > 12) = false := decide_eq_false (by omega)
  obtain ⟨_, ⟨w, rfl, hw⟩, c17⟩ := (pterm_ret (t := t) h ht (by omega)).call rfl hpa
  obtain ⟨t1, t2, t3⟩ := termL_eq (l := l)
  rw [t1] at c17
  obtain ⟨wl, wt, rfl, _⟩ := hw.of
  by_cases he : (closL l).2 = 0
  case neg =>
    have d4 := ibne he
    simp only [pf9, ↓wpre, wset, wcore, wext, ne_eq, if_true, if_false, exists_eq_left', true_implies, false_implies, exists_const, exists_eq_right, binA, intA, loadA, storeA, pickC, setAt, mapO, argsE, X.isC, resA, oneA, unA, boundA, eqiA, eqsA, fillA, fillE, ASt.fz, strA, simprocAttr, List.length_append, List.append_assoc, app_get_len, app_get_add, app_set_len, app_set_add, c12, aw, d1, u8s_len, d2, d3, c17, d4]
  have t3 := t3 he
  have d4 := ibne' he
  obtain ⟨ar, q, hg, hclo, hq⟩ := closL_ok he
  rw [hq] at t3
  obtain ⟨s1, s2⟩ := srt_sorted hclo.good
  cases hok : (termL l).1 with
  | false =>
    rw [hok] at c17
    simp only [pf9, ↓wpre, wset, wcore, wext, ne_eq, if_true, if_false, exists_eq_left', true_implies, false_implies, exists_const, exists_eq_right, binA, intA, loadA, storeA, pickC, setAt, mapO, argsE, X.isC, resA, oneA, unA, boundA, eqiA, eqsA, fillA, fillE, ASt.fz, strA, simprocAttr, List.length_append, List.append_assoc, app_get_len, app_get_add, app_set_len, app_set_add, c12, aw, d1, u8s_len, d2, d3, c17, d4]
  | true =>
  rw [hok] at c17
  have hbad : ∀ x ∈ q, badB x = false := fun x hx => by
    rw [t3] at hok
    cases hfd : (srt q).find? badB with
    | some c => rw [hfd] at hok; simp at hok
    | none =>
      have := List.find?_eq_none.1 hfd x ((s2 x).2 hx)
      simpa using this
  have hlp : 0 < al.length := by omega
  have z0 : ((al.length : Int) = 0) = False := eq_false (by omega)
  have hidx : ∀ n : Nat, n < 256 → (IntKind.i64.wrap (n : Int)).tmod al.length = ((n % al.length : Nat) : Int) := fun n hn => by
    rw [wrap_in (by unfold in64; omega)]
    exact (Int.ofNat_tmod n al.length).symm
  obtain ⟨n0, m1, m2⟩ := u8s_get (l := ps) (i := 0) (by omega)
  have w0 := hidx n0 (hp n0 m1)
  obtain ⟨c0, a0, g1, g2, g3, g4⟩ := cl_get h (Nat.mod_lt n0 hlp)
  have g4' := g4
  obtain ⟨bl0, bt0, rfl, _⟩ := g4.of
  have pal := u8s_all ps
  simp only [pf9, ↓wpre, wset, wcore, wext, ne_eq, if_true, if_false, exists_eq_left', true_implies, false_implies, exists_const, exists_eq_right, binA, intA, loadA, storeA, pickC, setAt, mapO, argsE, X.isC, resA, oneA, unA, boundA, eqiA, eqsA, fillA, fillE, ASt.fz, strA, simprocAttr, List.length_append, List.append_assoc, app_get_len, app_get_add, app_set_len, app_set_add, c12, aw, d1, u8s_len, d2, d3, c17, d4, pal, m2, z0, w0, hall, g3]
  refine W_loopE (fun m => ps.length - m) (fun m E H T => E 0 = .sl al t ∧ E 1 = .sl (u8s ps) tp ∧ E 9 = .int ((m + 1 : Nat) : Int) ∧ m + 1 ≤ ps.length ∧ ∃ k c bl bt, E 8 = .ptr k 0 ∧ H[k]? = some (.cells false [.int c.f, .int c.t, .sl bl bt]) ∧ ClIs c (.agg [.int c.f, .int c.t, .sl bl bt]) ∧ Gen l c) ?_ 0 ⟨rfl, rfl, rfl, by omega, _, c0, bl0, bt0, rfl, rfl, g4', .base g2⟩
  rintro m E H T ⟨e0, e1, e9, hm, k, c, bl, bt, e8, hk, hc, hgen⟩
  have hgc := gen_good hg hgen
  have lk := lt_of_get hk
  rcases Nat.lt_or_ge (m + 1) ps.length with hlt | hge
  · have q1 := dlt hlt
    obtain ⟨n1, o1, o2⟩ := u8s_get hlt
    have w1 := hidx n1 (hp n1 o1)
    obtain ⟨d, da, f1, f2, f3, f4⟩ := cl_get h (Nat.mod_lt n1 hlp)
    have hgd := hg d f2
    obtain ⟨_, ⟨u, rfl, hu⟩, c21⟩ := (pcompose_ret hc f4).call rfl (by simp [pvs_cons, pvs_nil, hc.pure, f4.pure])
    have hr := two_good hgc hgd
    obtain ⟨dl, dt, rfl, _⟩ := f4.of
    by_cases hft : c.t = d.f
    · rw [if_pos hft] at hr
      rw [hr] at hu c21
      simp only at hu c21
      have hu' := hu
      obtain ⟨ul, ut, rfl, _⟩ := hu.of
      simp only [↓wpre, wset, wcore, wext, ne_eq, if_true, if_false, exists_eq_left', true_implies, false_implies, exists_const, exists_eq_right, binA, intA, loadA, storeA, pickC, setAt, mapO, argsE, X.isC, resA, oneA, unA, boundA, eqiA, eqsA, fillA, fillE, ASt.fz, strA, simprocAttr, List.length_append, List.append_assoc, app_get_len, app_get_add, app_set_len, app_set_add, e0, e1, e8, e9, q1, u8s_len, pal, o2, z0, w1, hall, f3, app_get_of hk, c21]
      exact EQ_in ⟨m + 1, by omega, e0, e1, next_ixv (by unfold lenB; omega), by omega, k, comp c d, ul, ut, e8, by rw [List.getElem?_set_self (by simp; omega)], hu', .step hgen f2 hft⟩
    · rw [if_neg hft] at hr
      rw [hr] at hu c21
      simp only at hu c21
      obtain ⟨ut, rfl⟩ := zero_mat hu
      simp only [↓wpre, wset, wcore, wext, ne_eq, if_true, if_false, exists_eq_left', true_implies, false_implies, exists_const, exists_eq_right, binA, intA, loadA, storeA, pickC, setAt, mapO, argsE, X.isC, resA, oneA, unA, boundA, eqiA, eqsA, fillA, fillE, ASt.fz, strA, simprocAttr, List.length_append, List.append_assoc, app_get_len, app_get_add, app_set_len, app_set_add, e0, e1, e8, e9, q1, u8s_len, pal, o2, z0, w1, hall, f3, app_get_of hk, c21, aw]
  have q1 := dltf hge
  by_cases hft : c.f = c.t
  case neg =>
    have d5 := ibne hft
    simp only [↓wpre, wset, wcore, wext, ne_eq, if_true, if_false, exists_eq_left', true_implies, false_implies, exists_const, exists_eq_right, binA, intA, loadA, storeA, pickC, setAt, mapO, argsE, X.isC, resA, oneA, unA, boundA, eqiA, eqsA, fillA, fillE, ASt.fz, strA, simprocAttr, List.length_append, List.append_assoc, app_get_len, app_get_add, app_set_len, app_set_add, e0, e1, e8, e9, q1, u8s_len, hk, d5, aw]
  have d5 := ibne' hft
  have hcq := clo_gen hclo hg hgen
  obtain ⟨N0, r1, r2, r3⟩ := cycle_dec hclo hg hbad hcq hft
  simp only [↓wpre, wset, wcore, wext, ne_eq, if_true, if_false, exists_eq_left', true_implies, false_implies, exists_const, exists_eq_right, binA, intA, loadA, storeA, pickC, setAt, mapO, argsE, X.isC, resA, oneA, unA, boundA, eqiA, eqsA, fillA, fillE, ASt.fz, strA, simprocAttr, List.length_append, List.append_assoc, app_get_len, app_get_add, app_set_len, app_set_add, e0, e1, e8, e9, q1, u8s_len, hk, app_get_of hk, d5]
  refine W_loopE (fun n => 2000 - n) (fun n E H T => E 8 = .ptr k 0 ∧ H[k]? = some (.cells false [.int c.f, .int c.t, .sl bl bt]) ∧ E 13 = .int (n : Nat) ∧ n ≤ N0 ∧ ∃ k2 pl pt, E 12 = .ptr k2 0 ∧ k2 ≠ k ∧ H[k2]? = some (.cells false [.int (pw c n).f, .int (pw c n).t, .sl pl pt]) ∧ ClIs (pw c n) (.agg [.int (pw c n).f, .int (pw c n).t, .sl pl pt])) ?_ 0 ⟨e8, app_get_of hk _, rfl, Nat.zero_le _, H.length, bl, bt, rfl, by omega, app_get_len, hc⟩
  clear e0 e1 e8 e9 q1 hk lk E H T hge hm m
  rintro n E H T ⟨e8, hk, e13, hn, k2, pl, pt, e12, hkk, hk2, hpc⟩
  have lk := lt_of_get hk
  have lk2 := lt_of_get hk2
  have hgp := pw_good hgc hft n
  obtain ⟨x1, x2⟩ := pw_ft c n
  have hpf : (pw c n).t = (pw c n).f := by rw [x1, x2, hft]
  have q1 : decide ((n : Int) < 3000) = true := decide_eq_true (by omega)
  have ra := two_good hgp hgp
  rw [if_pos hpf] at ra
  have rb := two_good hgp hgc
  rw [if_pos (by rw [x2, hft])] at rb
  obtain ⟨_, ⟨u, rfl, hu⟩, c21⟩ := (pcompose_ret hpc hpc).call rfl (by simp [pvs_cons, pvs_nil, hpc.pure])
  rw [ra] at hu c21
  simp only at hu c21
  obtain ⟨_, ⟨v, rfl, hv⟩, c21b⟩ := (pcompose_ret hpc hc).call rfl (by simp [pvs_cons, pvs_nil, hpc.pure, hc.pure])
  rw [rb] at hv c21b
  simp only at hv c21b
  rw [show comp (pw c n) c = pw c (n + 1) from rfl] at hv
  obtain ⟨_, rfl, c19⟩ := (same_ret hu hpc).call rfl (by simp [pvs_cons, pvs_nil, hu.pure, hpc.pure])
  obtain ⟨_, rfl, c25⟩ := (decR_ret hpc).call rfl (by simp [pvs_cons, pvs_nil, hpc.pure])
  have hv' := hv
  obtain ⟨ul, ut, rfl, _⟩ := hu.of
  obtain ⟨vl, vt, rfl, _⟩ := hv.of
  have d6 : ((0 : Int) != 0) = false := rfl
  by_cases hid : comp (pw c n) (pw c n) = pw c n
  · rw [decide_eq_true hid] at c19
    rw [r3 n hid] at c25
    simp only [↓wpre, wset, wcore, wext, ne_eq, if_true, if_false, exists_eq_left', true_implies, false_implies, exists_const, exists_eq_right, binA, intA, loadA, storeA, pickC, setAt, mapO, argsE, X.isC, resA, oneA, unA, boundA, eqiA, eqsA, fillA, fillE, ASt.fz, strA, simprocAttr, List.length_append, List.append_assoc, app_get_len, app_get_add, app_set_len, app_set_add, e8, e12, e13, q1, hk, hk2, app_get_of hk, app_get_of hk2, c21, c19, c25, d6, aw]
  · rw [decide_eq_false hid] at c19
    have hne : n ≠ N0 := fun e => hid (by rw [e]; exact r2)
    simp only [↓wpre, wset, wcore, wext, ne_eq, if_true, if_false, exists_eq_left', true_implies, false_implies, exists_const, exists_eq_right, binA, intA, loadA, storeA, pickC, setAt, mapO, argsE, X.isC, resA, oneA, unA, boundA, eqiA, eqsA, fillA, fillE, ASt.fz, strA, simprocAttr, List.length_append, List.append_assoc, app_get_len, app_get_add, app_set_len, app_set_add, e8, e12, e13, q1, hk, hk2, app_get_of hk, app_get_of hk2, c21, c19, c21b, d6]
    exact EQ_in ⟨n + 1, by omega, e8, by rw [List.getElem?_set, if_neg (fun e => hkk e)]; exact app_get_of hk _, next_ixv (by unfold lenB; omega), by omega, k2, vl, vt, e12, hkk, by rw [List.getElem?_set_self (by simp; omega)], hv'⟩
end Go.Proofs.Eng
