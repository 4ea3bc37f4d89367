/- Witness holds of all calls. No conditions beyond those in the theorems. -/
import Derived.Test.YtodnkbnbjhcikaaDoorJ6
set_option linter.all false
set_option linter.deprecated false
set_option linter.unnecessarySimpa false
set_option linter.unusedVariables false
set_option linter.unusedSimpArgs false
set_option linter.defProp false
namespace Go.Proofs.Eng
open Go Go.Proofs
set_option maxRecDepth 100000
set_option maxHeartbeats 16000000
theorem termL_eq {l : List Cl} : ((termL l).2.2 = (closL l).2) ∧ ((closL l).2 ≠ 0 → (termL l).1 = false) ∧ ((closL l).2 = 0 → termL l = match (closL l).1.find? badB with | some c => (false, c, 0) | none => (true, ⟨0, 0, []⟩, 0)) := by
  unfold termL
  refine ⟨?_, fun h => by rw [if_neg h], fun h => by rw [if_pos h]; rfl⟩
  split
  · rename_i h
    rw [h]
    cases (closL l).1.find? badB <;> rfl
  · rfl
theorem count_snoc {α : Type} {l : List α} {j : Nat} {x : α} {P : α → Bool} (hx : l[j]? = some x) : (l.take (j + 1)).countP P = (l.take j).countP P + if P x = true then 1 else 0 := by
  rw [List.take_add_one, hx]; simp [List.countP_append, List.countP_cons]
theorem count_zero {α : Type} {l : List α} {P : α → Bool} (h : l.countP P = 0) : ∀ y ∈ l, P y = false := fun y hy => by
  have := List.countP_eq_zero.1 h y hy
  simpa using this
theorem witness_law {l : List Cl} {al : List AV} {t : Tl} (h : LIs ClIs l al) (ht : t.pure = true) (hl : al.length ≤ lenB) : Out md pfs 8 [.sl al t] (· = .bool true) fun _ => False := by
  have hpa : pureAVs [AV.sl al t] = true := by simp [pvs_cons, pvs_nil, pv_sl, ht, clsPure h]
  have hla := h.len
  obtain ⟨_, rfl, aw⟩ := awake_ret.call rfl (by simp [pvs_nil])
  obtain ⟨_, ⟨b, rfl, hb⟩, c12⟩ := (few_ret (t := t) h hl).call rfl hpa
  refine out_of pf8_is (Nat.le_of_ble_eq_true rfl) ?_
  cases b with
  | false => simp only [pf8, ↓wpre, wset, wcore, wext, ne_eq, if_true, if_false, exists_eq_left', true_implies, false_implies, exists_const, exists_eq_right, binA, intA, loadA, storeA, pickC, setAt, mapO, argsE, X.isC, resA, oneA, unA, boundA, eqiA, eqsA, fillA, fillE, ASt.fz, strA, simprocAttr, c12, aw]
  | true =>
  obtain ⟨hl6, hsh⟩ := hb rfl
  obtain ⟨_, ⟨la, tl, rfl, hL, htl⟩, c14⟩ := (closure_ret (t := t) h ht (by omega)).call rfl hpa
  obtain ⟨_, ⟨w, rfl, hw⟩, c17⟩ := (pterm_ret (t := t) h ht (by omega)).call rfl hpa
  obtain ⟨t1, t2, t3⟩ := termL_eq (l := l)
  have hpL : pureAVs la = true := clsPure hL
  by_cases he : (closL l).2 = 0
  case neg =>
    have hf := t2 he
    have d1 := ibne he
    have d2 : ((closL l).2 == (closL l).2) = true := by simp
    obtain ⟨wl, wt, rfl, _⟩ := hw.of
    rw [t1, hf] at c17
    simp only [pf8, ↓wpre, wset, wcore, wext, ne_eq, if_true, if_false, exists_eq_left', true_implies, false_implies, exists_const, exists_eq_right, binA, intA, loadA, storeA, pickC, setAt, mapO, argsE, X.isC, resA, oneA, unA, boundA, eqiA, eqsA, fillA, fillE, ASt.fz, strA, simprocAttr, List.length_append, List.append_assoc, app_get_len, app_get_add, app_set_len, app_set_add, c12, c14, c17, aw, d1, d2]
  have t3 := t3 he
  have d1 := ibne' he
  obtain ⟨ar, q, hg, hclo, hq⟩ := closL_ok he
  rw [hq] at hL t3
  obtain ⟨s1, s2⟩ := srt_sorted hclo.good
  have hLn := hL.len
  have hLl : (srt q).length ≤ 2000 := by rw [srt_len hclo.good hclo.nd]; exact hclo.len
  have hLa := hL.all clAgg
  have hgl : ∀ x ∈ srt q, Good ar x := fun x hx => hclo.good x ((s2 x).1 hx)
  obtain ⟨_, rfl, c23⟩ := (has_ret (t := tl) hL hw (by unfold lenB; omega)).call rfl (by simp [pvs_cons, pvs_nil, pv_sl, htl, hpL, hw.pure])
  have hwp := hw.pure
  have hfind : (termL l).1 = false → (srt q).find? badB = some (termL l).2.1 := fun hf => by
    rw [t3] at hf ⊢
    cases hfd : (srt q).find? badB with
    | none => rw [hfd] at hf; simp at hf
    | some c => rfl
  have hnone : (termL l).1 = true → (srt q).find? badB = none := fun hf => by
    rw [t3] at hf
    cases hfd : (srt q).find? badB with
    | none => rfl
    | some c => rw [hfd] at hf; simp at hf
  have hin : (termL l).1 = false → decide ((termL l).2.1 ∈ srt q) = true := fun hf => decide_eq_true (List.mem_of_find?_eq_some (hfind hf))
  have he0 : (termL l).2.2 = 0 := by rw [t1, he]
  rw [he0] at c17
  have hsame : ∀ {x : Cl} {a : AV}, ClIs x a → ∀ (pm : Bool) (s : ASt) (K KP : AV → ASt → Prop), CW (run md pfs) md pm s 19 [a, w] K KP () = K (.bool (decide (x = (termL l).2.1))) s := fun hx => by
    obtain ⟨_, rfl, c19⟩ := (same_ret hx hw).call rfl (by simp [pvs_cons, pvs_nil, hx.pure, hwp])
    exact c19
  generalize hok : (termL l).1 = ok at *
  generalize hcw : (termL l).2.1 = cw at *
  clear t1 t2 t3 hok hcw he0
  obtain ⟨wl, wt, rfl, _⟩ := hw.of
  have hstart : ok = true ∨ (ok = false ∧ decide (cw ∈ srt q) = true) := by
    cases ok with
    | true => exact .inl rfl
    | false => exact .inr ⟨rfl, hin rfl⟩
  have d0 : ((0 : Int) != 0) = false := rfl
  rw [he] at c14
  have hcpx : ∀ {x : Cl} {a : AV}, ClIs x a → Good ar x → ∃ u : AV, ClIs (compL x x).1 u ∧ ∀ (pm : Bool) (s : ASt) (K KP : AV → ASt → Prop), CW (run md pfs) md pm s 21 [a, a] K KP () = K (.tup [u, .int (compL x x).2]) s := fun hx _ => by
    obtain ⟨_, ⟨u, rfl, hu⟩, c21⟩ := (pcompose_ret hx hx).call rfl (by simp [pvs_cons, pvs_nil, hx.pure])
    exact ⟨u, hu, c21⟩
  have hself : ∀ {x : Cl}, Good ar x → compL x x = if x.t = x.f then (comp x x, 0) else (⟨0, 0, []⟩, 1) := fun hx => by
    unfold compL
    rw [if_pos (good_check (ar := ar) (by intro y hy; simp at hy; subst hy; exact hx))]
  have hcnt : ∀ j, ((srt q).take j).countP badB ≤ 2000 := fun j => Nat.le_trans List.countP_le_length (by rw [List.length_take]; omega)
  rcases hstart with h1 | ⟨h1, hin1⟩
  all_goals
    first | rw [hin1] at c23 | skip
    rw [h1] at c17
    simp only [pf8, ↓wpre, wset, wcore, wext, ne_eq, if_true, if_false, exists_eq_left', true_implies, false_implies, exists_const, exists_eq_right, binA, intA, loadA, storeA, pickC, setAt, mapO, argsE, X.isC, resA, oneA, unA, boundA, eqiA, eqsA, fillA, fillE, ASt.fz, strA, simprocAttr, List.length_append, List.append_assoc, app_get_len, app_get_add, app_set_len, app_set_add, c12, c14, c17, c23, d0]
    refine W_loopE (fun j => la.length - j) (fun j E H T => E 3 = .bool ok ∧ E 4 = .ptr 0 0 ∧ H[0]? = some (.cells false [.int cw.f, .int cw.t, .sl wl wt]) ∧ E 6 = .sl la tl ∧ E 8 = .int (((srt q).take j).countP badB : Nat) ∧ E 9 = .int (j : Nat) ∧ j ≤ la.length) ?_ 0 ⟨by rw [h1]; rfl, rfl, rfl, rfl, rfl, rfl, Nat.zero_le _⟩
    clear c17 c14 c12
    rintro j E H T ⟨e3, e4, h0, e6, e8, e9, hj⟩
    rcases Nat.lt_or_ge j la.length with hlt | hge
    · have q1 := dlt hlt
      obtain ⟨x, a, g1, g2, g3, g4⟩ := cl_get hL hlt
      have hgx := hgl x g2
      have hcs := count_snoc (P := badB) g1
      obtain ⟨u, hu, c21⟩ := hcpx g4 hgx
      have hs := hself hgx
      have hap := g4.pure
      obtain ⟨_, rfl, c25⟩ := (decR_ret g4).call rfl (by simp [pvs_cons, pvs_nil, hap])
      have c19w := hsame g4
      by_cases hft : x.f = x.t
      · have p1 := ibne' hft
        rw [if_pos hft.symm] at hs
        rw [hs] at hu c21
        simp only at hu c21
        obtain ⟨_, rfl, c19⟩ := (same_ret hu g4).call rfl (by simp [pvs_cons, pvs_nil, hu.pure, hap])
        obtain ⟨xl, xt, rfl, _⟩ := g4.of
        obtain ⟨ul, ut, rfl, _⟩ := hu.of
        by_cases hid : comp x x = x
        · rw [decide_eq_true hid] at c19
          cases hdc : decB x with
          | true =>
            rw [hdc] at c25
            have hbx : badB x = false := by unfold badB; rw [hdc]; simp
            rw [hbx] at hcs
            simp only [↓wpre, wset, wcore, wext, ne_eq, if_true, if_false, exists_eq_left', true_implies, false_implies, exists_const, exists_eq_right, binA, intA, loadA, storeA, pickC, setAt, mapO, argsE, X.isC, resA, oneA, unA, boundA, eqiA, eqsA, fillA, fillE, ASt.fz, strA, simprocAttr, List.length_append, List.append_assoc, app_get_len, app_get_add, app_set_len, app_set_add, e3, e4, app_get_of h0, e6, e8, e9, q1, hLa, g3, p1, d0, c21, c19, c25]
            exact EQ_in ⟨j + 1, by omega, e3, e4, app_get_of h0 _, e6, e8.trans (by rw [hcs]; rfl), next_ixv (by unfold lenB; omega), by omega⟩
          | false =>
            rw [hdc] at c25
            have hbx : badB x = true := by unfold badB; rw [decide_eq_true hft, hdc, decide_eq_true hid]; rfl
            rw [hbx] at hcs
            have hc2 := hcnt j
            have hw : AV.v (.int .i64 (IntKind.i64.wrap ((((srt q).take j).countP badB : Nat) + 1))) = .int (((srt q).take (j + 1)).countP badB : Nat) := by rw [hcs]; exact next_ixv (by unfold lenB; omega)
            by_cases h00 : ((srt q).take j).countP badB = 0
            · have hfx := find_hit (count_zero h00) g1 hbx
              have hok : ok = false := by
                cases ok with
                | false => rfl
                | true => rw [hnone rfl] at hfx; cases hfx
              have hxc : x = cw := by
                have := hfind hok
                rw [hfx] at this
                exact Option.some.inj this
              rw [decide_eq_true hxc] at c19w
              have p2 : (((((srt q).take j).countP badB : Nat) : Int) == 0) = true := by rw [h00]; rfl
              rw [hok] at e3
              simp only [↓wpre, wset, wcore, wext, ne_eq, if_true, if_false, exists_eq_left', true_implies, false_implies, exists_const, exists_eq_right, binA, intA, loadA, storeA, pickC, setAt, mapO, argsE, X.isC, resA, oneA, unA, boundA, eqiA, eqsA, fillA, fillE, ASt.fz, strA, simprocAttr, List.length_append, List.append_assoc, app_get_len, app_get_add, app_set_len, app_set_add, e3, e4, app_get_of h0, e6, e8, e9, q1, hLa, g3, p1, d0, c21, c19, c25, c19w, p2]
              exact EQ_in ⟨j + 1, by omega, by rw [hok]; exact e3, e4, app_get_of h0 _, e6, hw, next_ixv (by unfold lenB; omega), by omega⟩
            · have p2 : (((((srt q).take j).countP badB : Nat) : Int) == 0) = false := by rw [beq_eq_false_iff_ne]; omega
              simp only [↓wpre, wset, wcore, wext, ne_eq, if_true, if_false, exists_eq_left', true_implies, false_implies, exists_const, exists_eq_right, binA, intA, loadA, storeA, pickC, setAt, mapO, argsE, X.isC, resA, oneA, unA, boundA, eqiA, eqsA, fillA, fillE, ASt.fz, strA, simprocAttr, List.length_append, List.append_assoc, app_get_len, app_get_add, app_set_len, app_set_add, e3, e4, app_get_of h0, e6, e8, e9, q1, hLa, g3, p1, d0, c21, c19, c25, p2]
              exact EQ_in ⟨j + 1, by omega, e3, e4, app_get_of h0 _, e6, hw, next_ixv (by unfold lenB; omega), by omega⟩
        · rw [decide_eq_false hid] at c19
          have hbx : badB x = false := by unfold badB; rw [decide_eq_false hid]; simp
          rw [hbx] at hcs
          simp only [↓wpre, wset, wcore, wext, ne_eq, if_true, if_false, exists_eq_left', true_implies, false_implies, exists_const, exists_eq_right, binA, intA, loadA, storeA, pickC, setAt, mapO, argsE, X.isC, resA, oneA, unA, boundA, eqiA, eqsA, fillA, fillE, ASt.fz, strA, simprocAttr, List.length_append, List.append_assoc, app_get_len, app_get_add, app_set_len, app_set_add, e3, e4, app_get_of h0, e6, e8, e9, q1, hLa, g3, p1, d0, c21, c19]
          exact EQ_in ⟨j + 1, by omega, e3, e4, app_get_of h0 _, e6, e8.trans (by rw [hcs]; rfl), next_ixv (by unfold lenB; omega), by omega⟩
      · have p1 := ibne hft
        rw [if_neg (fun e => hft e.symm)] at hs
        rw [hs] at hu c21
        simp only at hu c21
        have hbx : badB x = false := by unfold badB; rw [decide_eq_false hft]; rfl
        rw [hbx] at hcs
        obtain ⟨xl, xt, rfl, _⟩ := g4.of
        obtain ⟨ul, ut, rfl, _⟩ := hu.of
        simp only [↓wpre, wset, wcore, wext, ne_eq, if_true, if_false, exists_eq_left', true_implies, false_implies, exists_const, exists_eq_right, binA, intA, loadA, storeA, pickC, setAt, mapO, argsE, X.isC, resA, oneA, unA, boundA, eqiA, eqsA, fillA, fillE, ASt.fz, strA, simprocAttr, List.length_append, List.append_assoc, app_get_len, app_get_add, app_set_len, app_set_add, e3, e4, app_get_of h0, e6, e8, e9, q1, hLa, g3, p1, d0, c21]
        exact EQ_in ⟨j + 1, by omega, e3, e4, app_get_of h0 _, e6, e8.trans (by rw [hcs]; rfl), next_ixv (by unfold lenB; omega), by omega⟩
    · have q1 := dltf hge
      rw [List.take_of_length_le (by omega)] at e8
      have p2 : (ok == ((((srt q).countP badB : Nat) : Int) == 0)) = true := by
        cases hok : ok with
        | true =>
          have : (srt q).countP badB = 0 := List.countP_eq_zero.2 fun y hy => by
            have := List.find?_eq_none.1 (hnone hok) y hy
            simpa using this
          rw [this]; rfl
        | false =>
          have hf := hfind hok
          have hm := List.mem_of_find?_eq_some hf
          have hb := List.find?_some hf
          have : 0 < (srt q).countP badB := List.countP_pos_iff.2 ⟨_, hm, hb⟩
          have e : ((((srt q).countP badB : Nat) : Int) == 0) = false := by rw [beq_eq_false_iff_ne]; omega
          rw [e]; rfl
      simp only [↓wpre, wset, wcore, wext, ne_eq, if_true, if_false, exists_eq_left', true_implies, false_implies, exists_const, exists_eq_right, binA, intA, loadA, storeA, pickC, setAt, mapO, argsE, X.isC, resA, oneA, unA, boundA, eqiA, eqsA, fillA, fillE, ASt.fz, strA, simprocAttr, List.length_append, List.append_assoc, app_get_len, app_get_add, app_set_len, app_set_add, e3, e4, e6, e8, e9, q1, aw, p2]
end Go.Proofs.Eng
