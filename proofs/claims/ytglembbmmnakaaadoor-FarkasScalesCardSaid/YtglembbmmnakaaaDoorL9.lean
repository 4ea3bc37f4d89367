/- FarkasScales holds of all arguments. No conditions beyond those in the theorems. -/
import Derived.Test.YtglembbmmnakaaaDoorT4
import Derived.Test.YtglembbmmnakaaaDoorF17
import Derived.Test.YtglembbmmnakaaaDoorL4
set_option linter.all false
set_option linter.deprecated false
set_option linter.unnecessarySimpa false
set_option linter.unusedVariables false
set_option linter.unusedSimpArgs false
set_option linter.defProp false
namespace Go.Proofs.Eng
open Go Go.Proofs
set_option maxRecDepth 100000
set_option maxHeartbeats 16000000
theorem app_one_x {T : List Nat} {es : Nat} {l : List AV} {t : Tl} {x : AV} (h : App T l t) (hl : l.length < capB) (ha : (l.all fun x => x.cells.length == es) = true) (hx : x.cells.length = es) (ho : x.cells.all oneCell = true) :
    ∃ t' T', (∀ H, appA ⟨H, T⟩ es none l t [x] = some (.sl (l ++ [x]) t', ⟨H, T'⟩)) ∧ App T' (l ++ [x]) t' ∧ T.length ≤ T'.length ∧ (∀ id v, T[id]? = some v → (∀ w, t ≠ .tl id w) → T'[id]? = some v) ∧ ∃ id v, t' = .tl id v ∧ (T.length ≤ id ∨ ∃ w, t = .tl id w) := by
  have hn : l.length + 1 ≤ 1073741824 := by unfold capB at hl; omega
  rcases h with ⟨rfl, rfl⟩ | ⟨hne, id, ver, rfl, hT⟩
  · refine ⟨.tl T.length 0, T ++ [0], fun H => ?_, .inr ⟨by simp, _, _, rfl, by simp⟩, by simp, fun id v h _ => ?_, _, _, rfl, .inl (Nat.le_refl _)⟩
    · simp [appA, hx]
      simpa using ho
    · rw [List.getElem?_append_left (List.getElem?_eq_some_iff.1 h).1]; exact h
  · have hid : id < T.length := (List.getElem?_eq_some_iff.1 hT).1
    refine ⟨.tl id (ver + 1), T.set id (ver + 1), fun H => ?_, .inr ⟨by simp, _, _, rfl, ?_⟩, by simp, fun id' v h hne' => ?_, _, _, rfl, .inr ⟨_, rfl⟩⟩
    · simp only [appA, List.length_cons, List.length_nil, hT, ha, hx, List.all_cons, List.all_nil, ho, beq_self_eq_true, Bool.and_self]
      simp [hn, hne]
    · simp [List.getElem?_set, hid]
    · rw [List.getElem?_set_ne (fun e => hne' ver (by rw [e]))]; exact h
/-- Two lists to which one may append. -/
def Two (T : List Nat) (l1 : List AV) (t1 : Tl) (l2 : List AV) (t2 : Tl) : Prop := App T l1 t1 ∧ App T l2 t2 ∧ ∀ id v v', t1 = .tl id v → t2 = .tl id v' → False
theorem App.lt {T : List Nat} {l : List AV} {t : Tl} (h : App T l t) {id v : Nat} (e : t = .tl id v) : T[id]? = some v := by
  rcases h with ⟨_, rfl⟩ | ⟨_, id', v', rfl, h⟩
  · cases e
  · cases e; exact h
theorem App.keep {T T' : List Nat} {l : List AV} {t : Tl} (h : App T l t) (hk : ∀ id v, t = .tl id v → T[id]? = some v → T'[id]? = some v) : App T' l t := by
  rcases h with h | ⟨h1, id', v', rfl, h⟩
  · exact .inl h
  · exact .inr ⟨h1, id', v', rfl, hk _ _ rfl h⟩
theorem two_step {T : List Nat} {l1 l2 : List AV} {t1 t2 : Tl} {x y : AV} (h : Two T l1 t1 l2 t2) (hl1 : l1.length < capB) (hl2 : l2.length < capB) (ha1 : (l1.all fun x => x.cells.length == 1) = true) (ha2 : (l2.all fun x => x.cells.length == 1) = true) (hx : x.cells.length = 1) (hx' : x.cells.all oneCell = true) (hy : y.cells.length = 1) (hy' : y.cells.all oneCell = true) :
    ∃ t1' t2' T1 T2, (∀ H, appA ⟨H, T⟩ 1 none l1 t1 [x] = some (.sl (l1 ++ [x]) t1', ⟨H, T1⟩)) ∧ (∀ H, appA ⟨H, T1⟩ 1 none l2 t2 [y] = some (.sl (l2 ++ [y]) t2', ⟨H, T2⟩)) ∧ Two T2 (l1 ++ [x]) t1' (l2 ++ [y]) t2' := by
  obtain ⟨h1, h2, h3⟩ := h
  obtain ⟨t1', T1, a1, a2, a3, a4, id1, v1, rfl, a5⟩ := app_one_x h1 hl1 ha1 hx hx'
  have h2' : App T1 l2 t2 := h2.keep fun id v e hT => a4 id v hT fun w ew => h3 id w v ew e
  obtain ⟨t2', T2, b1, b2, b3, b4, id2, v2, rfl, b5⟩ := app_one_x h2' hl2 ha2 hy hy'
  have hne : ∀ w, t2 ≠ .tl id1 w := fun w e => by
    rcases a5 with a5 | ⟨w', a5⟩
    · have := (List.getElem?_eq_some_iff.1 (h2.lt e)).1; omega
    · exact h3 _ _ _ a5 e
  refine ⟨_, _, T1, T2, a1, b1, a2.keep fun id v e hT => ?_, b2, fun id v v' e e' => ?_⟩
  · cases e; exact b4 _ _ hT hne
  · cases e; cases e'
    rcases b5 with b5 | ⟨w, b5⟩
    · have := (List.getElem?_eq_some_iff.1 (a2.lt rfl)).1; omega
    · exact hne w b5
/-- A row whose end may be one to which is appended. -/
def RowJ (r : List Int) (a : AV) : Prop := ∃ t, a = .sl (ints r) t ∧ r.length ≤ lenB ∧ ∀ n ∈ r, in64 n
theorem RowIs.j {r : List Int} {a : AV} (h : RowIs r a) : RowJ r a := by
  obtain ⟨t, rfl, _, h1, h2⟩ := h.of
  exact ⟨t, rfl, h1, h2⟩
theorem pz_rowj {k : Nat} {s : ASt} : ∀ {rows : List (List Int)} {al : List AV}, LIs RowJ rows al → ∃ al', mapO (atCells (purify (k + 2) s)) al = some al' ∧ LIs RowIs rows al'
  | [], [], _ => ⟨[], rfl, trivial⟩
  | _ :: _, [], h => by simp [LIs] at h
  | [], _ :: _, h => by simp [LIs] at h
  | x :: l, a :: al, h => by
    simp only [LIs] at h
    obtain ⟨⟨t, rfl, h1, h2⟩, h3⟩ := h
    obtain ⟨al', h4, h5⟩ := pz_rowj (k := k) (s := s) h3
    obtain ⟨t', p1, p2⟩ := pz_slints (k := k) (s := s) (l := x) (t := t)
    have e : atCells (purify (k + 2) s) (.sl (ints x) t) = some (.sl (ints x) t') := p2
    exact ⟨.sl (ints x) t' :: al', by rw [mapO, e, h4], ⟨t', rfl, p1, h1, h2⟩, h5⟩
theorem rowj_cells : ∀ {rows : List (List Int)} {al : List AV}, LIs RowJ rows al → flat al = al ∧ (al.all AV.one) = true ∧ (al.all fun x => x.cells.length == 1) = true ∧ (al.all fun x => x.cells.length == 1 && x.cells.all oneCell) = true
  | [], [], _ => ⟨rfl, rfl, rfl, rfl⟩
  | _ :: _, [], h => by simp [LIs] at h
  | [], _ :: _, h => by simp [LIs] at h
  | x :: l, a :: al, h => by
    simp only [LIs] at h
    obtain ⟨⟨t, rfl, _⟩, h3⟩ := h
    obtain ⟨e1, e2, e3, e4⟩ := rowj_cells h3
    refine ⟨?_, ?_, ?_, ?_⟩
    · rw [flat_cons, e1]; rfl
    · rw [List.all_cons, e2]; rfl
    · rw [List.all_cons, e3]; rfl
    · rw [List.all_cons, e4]; rfl
theorem elems_rows {s : ASt} {i : Nat} {fz : Bool} {rows : List (List Int)} {al : List AV} (h : LIs RowJ rows al) (hs : s.H[i]? = some (.cells fz al)) : elemsA s (.bs i 0 al.length 1 false) = some al := by
  obtain ⟨e1, e2, e3, e4⟩ := rowj_cells h
  have hch : ∀ {rows : List (List Int)} {al : List AV}, LIs RowJ rows al → chunk 1 false al.length al = al := by
    intro rows
    induction rows with
    | nil => intro al h; cases al with
      | nil => rfl
      | cons a al => simp [LIs] at h
    | cons r rows ih =>
      intro al h
      cases al with
      | nil => simp [LIs] at h
      | cons a al =>
        simp only [LIs] at h
        have := ih h.2
        simp only [List.length_cons, chunk] at this ⊢
        simp [this]
  unfold elemsA
  simp only [hs, Nat.mul_one, Nat.zero_add, Nat.zero_mul, List.drop_zero, List.take_length, e2, Bool.false_or, beq_self_eq_true, Bool.true_and, Nat.le_refl, and_self, if_true, hch h]
theorem dbl_take {x : List Int} {j : Nat} {n : Int} (h : x[j]? = some n) : dblL (x.take (j + 1)) = dblL (x.take j) ++ [2 * n] := by
  rw [List.take_add_one, h]; simp [dblL]
theorem sum_take {x y : List Int} {j : Nat} {n m : Int} (h : x[j]? = some n) (h' : y[j]? = some m) : sumL (x.take (j + 1)) (y.take (j + 1)) = sumL (x.take j) (y.take j) ++ [n + m] := by
  rw [List.take_add_one, List.take_add_one, h, h']
  have h1 := (List.getElem?_eq_some_iff.1 h).1
  have h2 := (List.getElem?_eq_some_iff.1 h').1
  simp only [sumL, Option.toList_some]
  rw [List.zipWith_append (by rw [List.length_take, List.length_take]; omega)]
  rfl
theorem ints_snoc (l : List Int) (n : Int) : ints (l ++ [n]) = ints l ++ [.int n] := by simp [ints]
theorem scales_ret {rows : List (List Int)} {al : List AV} {t : Tl} {ni nk : Nat} (h : LIs RowIs rows al) (ht : t.pure = true) (hl : al.length ≤ lenB) (hi : ni < 256) (hk : nk < 256) : Out md pfs 9 [.sl al t, .v (.int .u8 (ni : Nat)), .v (.int .u8 (nk : Nat))] (· = .bool true) fun _ => False := by
  have hln := h.len
  have hp := rowsPure h
  have hall := rows_all h
  have hj : LIs RowJ rows al := h.mono fun _ _ _ h => h.j
  obtain ⟨_, rfl, aw⟩ := awake_ret.call rfl (by simp [pvs_nil])
  obtain ⟨_, ⟨b, rfl, _⟩, kf⟩ := (few_ret h ht hl).call rfl (by simp [pvs_cons, pvs_nil, pv_sl, ht, hp])
  obtain ⟨_, rfl, c19⟩ := (right_ret (t := t) h hl).call rfl (by simp [pvs_cons, pvs_nil, pv_sl, ht, hp])
  obtain ⟨_, ⟨u, rfl, hu⟩, k1⟩ := (refute_ret h ht hl).call rfl (by simp [pvs_cons, pvs_nil, pv_sl, ht, hp])
  refine out_of pf9_is (Nat.le_of_ble_eq_true rfl) ?_
  cases b
  · simp only [pf9, ↓wpre, wset, wcore, ne_eq, if_true, if_false, exists_eq_left', true_implies, false_implies, exists_const, exists_eq_right, binA, intA, loadA, storeA, pickC, setAt, mapO, argsE, X.isC, resA, oneA, unA, boundA, eqiA, eqsA, fillA, fillE, ASt.fz, strA, Nat.reduceEqDiff, Nat.reduceLT, ↓reduceIte, reduceCtorEq, Nat.reduceAdd, Nat.reduceLeDiff, Int.reduceBEq, Int.reduceBNe, Int.reduceLT, Int.reduceLE, Int.reduceGT, Int.reduceGE, Nat.reduceDiv, Nat.reduceMul, Nat.reduceBEq, Nat.reduceMod, Nat.reduceSub, kf, aw]
  by_cases hr : rightR rows = 0
  case neg =>
    have d1 : (rightR rows != 0) = true := by simpa using hr
    simp only [pf9, ↓wpre, wset, wcore, ne_eq, if_true, if_false, exists_eq_left', true_implies, false_implies, exists_const, exists_eq_right, binA, intA, loadA, storeA, pickC, setAt, mapO, argsE, X.isC, resA, oneA, unA, boundA, eqiA, eqsA, fillA, fillE, ASt.fz, strA, Nat.reduceEqDiff, Nat.reduceLT, ↓reduceIte, reduceCtorEq, Nat.reduceAdd, Nat.reduceLeDiff, Int.reduceBEq, Int.reduceBNe, Int.reduceLT, Int.reduceLE, Int.reduceGT, Int.reduceGE, Nat.reduceDiv, Nat.reduceMul, Nat.reduceBEq, Nat.reduceMod, Nat.reduceSub, kf, c19, d1, aw]
  have d1 : (rightR rows != 0) = false := by rw [hr]; rfl
  by_cases h0 : rows.length = 0
  · have d2 : ((al.length : Int) == 0) = true := by rw [beq_iff_eq]; omega
    simp only [pf9, ↓wpre, wset, wcore, ne_eq, if_true, if_false, exists_eq_left', true_implies, false_implies, exists_const, exists_eq_right, binA, intA, loadA, storeA, pickC, setAt, mapO, argsE, X.isC, resA, oneA, unA, boundA, eqiA, eqsA, fillA, fillE, ASt.fz, strA, Nat.reduceEqDiff, Nat.reduceLT, ↓reduceIte, reduceCtorEq, Nat.reduceAdd, Nat.reduceLeDiff, Int.reduceBEq, Int.reduceBNe, Int.reduceLT, Int.reduceLE, Int.reduceGT, Int.reduceGE, Nat.reduceDiv, Nat.reduceMul, Nat.reduceBEq, Nat.reduceMod, Nat.reduceSub, kf, c19, d1, d2, aw]
  have d2 : ((al.length : Int) == 0) = false := by rw [beq_eq_false_iff_ne]; omega
  have hR := right_of hr
  have hfew := hR.few
  have hz : (((al.length : Nat) : Int) = 0) = False := eq_false (by omega)
  have wi : IntKind.i64.wrap ((ni : Nat) : Int) = ((ni : Nat) : Int) := wrap_in (by unfold Eng.in64; omega)
  have wk : IntKind.i64.wrap ((nk : Nat) : Int) = ((nk : Nat) : Int) := wrap_in (by unfold Eng.in64; omega)
  have mi : ((ni : Nat) : Int).tmod ((al.length : Nat) : Int) = ((ni % al.length : Nat) : Int) := rfl
  have mk : ((nk : Nat) : Int).tmod ((al.length : Nat) : Int) = ((nk % al.length : Nat) : Int) := rfl
  have ha : ni % al.length < al.length := Nat.mod_lt _ (by omega)
  have hb : nk % al.length < al.length := Nat.mod_lt _ (by omega)
  generalize ni % al.length = a at *
  generalize nk % al.length = b at *
  obtain ⟨x, tx, x1, x2, x3, x4, x5, x6⟩ := row_get h ha
  obtain ⟨y, ty, y1, y2, y3, y4, y5, y6⟩ := row_get h hb
  have hxy : x.length = y.length := by rw [hR.len x x2, hR.len y y2]
  have hxl : x.length ≤ 9 := by rw [hR.len x x2]; exact (hR.pos (by omega)).2
  have hne : al ≠ [] := by rw [← List.length_pos_iff]; omega
  obtain ⟨e1, e2, e3, e4⟩ := rowj_cells hj
  have hcl := fun s a' => clnA_ne (s := s) (es := 1) (ag := false) (a := a') hne (by unfold lenB at hl; omega) e4
  simp only [e1] at hcl
  simp only [pf9, ↓wpre, wset, wcore, ne_eq, if_true, if_false, exists_eq_left', true_implies, false_implies, exists_const, exists_eq_right, binA, intA, loadA, storeA, pickC, setAt, mapO, argsE, X.isC, resA, oneA, unA, boundA, eqiA, eqsA, fillA, fillE, ASt.fz, strA, Nat.reduceEqDiff, Nat.reduceLT, ↓reduceIte, reduceCtorEq, Nat.reduceAdd, Nat.reduceLeDiff, Int.reduceBEq, Int.reduceBNe, Int.reduceLT, Int.reduceLE, Int.reduceGT, Int.reduceGE, Nat.reduceDiv, Nat.reduceMul, Nat.reduceBEq, Nat.reduceMod, Nat.reduceSub, kf, c19, d1, d2, hz, wi, wk, mi, mk, hcl, x3, hall]
  refine W_loopE (fun j => x.length - j) (fun j E H T => ∃ t1 t2, H = [.cells false al] ∧ E 0 = .sl al t ∧ E 7 = .int (a : Nat) ∧ E 8 = .int (b : Nat) ∧ E 9 = .bs 0 0 al.length 1 false ∧ E 10 = .sl (ints (dblL (x.take j))) t1 ∧ E 11 = .sl (ints (sumL (x.take j) (y.take j))) t2 ∧ E 52 = .int x.length ∧ E 53 = .int (j : Nat) ∧ j ≤ x.length ∧ Two T (ints (dblL (x.take j))) t1 (ints (sumL (x.take j) (y.take j))) t2) ?_ 0 ⟨.nil, .nil, rfl, rfl, rfl, rfl, rfl, rfl, rfl, by show AV.int _ = _; rw [ints_len], rfl, Nat.zero_le _, app_start _, app_start _, fun _ _ _ h => by cases h⟩
  rintro j E H T ⟨t1, t2, rfl, e0, e7, e8, e9, e10, e11, e52, e53, hjx, hT⟩
  rcases Nat.lt_or_ge j x.length with hlt | hge
  · have hdec : decide ((j : Int) < ((x.length : Nat) : Int)) = true := by simpa using hlt
    obtain ⟨n, q1, _, q3⟩ := ints_get hlt
    obtain ⟨m, r1, _, r3⟩ := ints_get (show j < y.length by omega)
    have bn := hR.bnd x x2 n (List.mem_of_getElem? q1)
    have bm := hR.bnd y y2 m (List.mem_of_getElem? r1)
    have w1 : IntKind.i64.wrap (2 * n) = 2 * n := wrap_in (by unfold Eng.in64; omega)
    have w2 : IntKind.i64.wrap (n + m) = n + m := wrap_in (by unfold Eng.in64; omega)
    have hxa := ints_all x
    have hya := ints_all y
    obtain ⟨t1', t2', T1, T2, ap1, ap2, hT'⟩ := two_step (x := .int (2 * n)) (y := .int (n + m)) hT (by rw [ints_len]; simp [dblL]; unfold capB; omega) (by rw [ints_len]; simp [sumL]; unfold capB; omega) (ints_all _) (ints_all _) rfl rfl rfl rfl
    rw [← ints_snoc, ← ints_snoc, ← dbl_take q1, ← sum_take q1 r1] at hT'
    simp only [← ints_snoc, ← dbl_take q1] at ap1
    simp only [← ints_snoc, ← sum_take q1 r1] at ap2
    simp only [↓wpre, wset, wcore, ne_eq, if_true, if_false, exists_eq_left', true_implies, false_implies, exists_const, exists_eq_right, binA, intA, loadA, storeA, pickC, setAt, mapO, argsE, X.isC, resA, oneA, unA, boundA, eqiA, eqsA, fillA, fillE, ASt.fz, strA, Nat.reduceEqDiff, Nat.reduceLT, ↓reduceIte, reduceCtorEq, Nat.reduceAdd, Nat.reduceLeDiff, Int.reduceBEq, Int.reduceBNe, Int.reduceLT, Int.reduceLE, Int.reduceGT, Int.reduceGE, Nat.reduceDiv, Nat.reduceMul, Nat.reduceBEq, Nat.reduceMod, Nat.reduceSub, List.length_append, List.append_assoc, app_get_len, app_get_add, app_set_len, app_set_add, e0, e7, e8, e9, e10, e11, e52, e53, hdec, x3, y3, hall, q3, r3, hxa, hya, w1, w2, ap1, ap2]
    exact EQ_in ⟨j + 1, by omega, t1', t2', rfl, e0, e7, e8, e9, rfl, rfl, e52, next_ixv (by unfold lenB; omega), by omega, hT'⟩
  have hdec : decide ((j : Int) < ((x.length : Nat) : Int)) = false := by simpa using hge
  obtain rfl : j = x.length := by omega
  rw [List.take_of_length_le (by omega)] at e10 e11 hT
  rw [List.take_of_length_le (by omega)] at e11 hT
  have hkw : ((a : Int) < ((al.length : Nat) : Int)) = True := eq_true (by omega)
  have hdl : RowJ (dblL x) (.sl (ints (dblL x)) t1) := ⟨t1, rfl, by simp [dblL]; unfold lenB; omega, fun n hn => by
    obtain ⟨m, hm, rfl⟩ := List.mem_map.1 hn
    have := hR.bnd x x2 m hm
    unfold Eng.in64; omega⟩
  have hsl : RowJ (sumL x y) (.sl (ints (sumL x y)) t2) := ⟨t2, rfl, by simp [sumL]; unfold lenB; omega, fun n hn => by
    obtain ⟨m, hm, k, hk, rfl⟩ := addM_mem (p := 1) (q := 1) (n := n) (a := x) (b := y) (by simpa [addM, sumL] using hn)
    have := hR.bnd x x2 m hm
    have := hR.bnd y y2 k hk
    unfold Eng.in64; omega⟩
  have hset : al.take a ++ .sl (ints (dblL x)) t1 :: al.drop (a + 1) = al.set a (.sl (ints (dblL x)) t1) := by
    rw [List.set_eq_take_append_cons_drop, if_pos ha]
  have hM : LIs RowJ (rows.set a (dblL x)) (al.set a (.sl (ints (dblL x)) t1)) := hj.set a hdl
  obtain ⟨al1, p1, p2⟩ := pz_rowj (k := 17) (s := ⟨[.cells false (al.set a (.sl (ints (dblL x)) t1))], T⟩) hM
  have hpz : purify 20 ⟨[.cells false (al.set a (.sl (ints (dblL x)) t1))], T⟩ (.bs 0 0 al.length 1 false) = some (.sl al1 .none) := by
    have he := elems_rows (s := ⟨[.cells false (al.set a (.sl (ints (dblL x)) t1))], T⟩) (i := 0) (fz := false) hM rfl
    rw [List.length_set] at he
    rw [pz_bs, he]
    simp only [Option.bind_some, p1, Option.map_some]
  obtain ⟨_, ⟨u1, rfl, hu1⟩, k2⟩ := (refute_ret (t := .none) p2 rfl (by rw [p2.len, List.length_set]; omega)).callV (args := [.bs 0 0 al.length 1 false]) (s := ⟨[.cells false (al.set a (.sl (ints (dblL x)) t1))], T⟩) rfl (by simp only [mapO, hpz])
  obtain ⟨H1, f1, _⟩ := fz_args (H := [.cells false (al.set a (.sl (ints (dblL x)) t1))]) (T := T) [.bs 0 0 al.length 1 false]
  rw [f1] at k2
  have hcl2 := fun s a' => clnA_tl (s := s) (es := 1) (ag := false) (a := a') hne (by unfold lenB at hl; omega) e4
  obtain ⟨t3, T3, ap3, hA3, _⟩ := app_one (es := 1) (x := .sl (ints (sumL x y)) t2) (show App (T ++ [0]) al (.tl T.length 0) from .inr ⟨hne, _, _, rfl, by simp⟩) (by unfold capB; omega) e3 rfl rfl
  have hM2 : LIs RowJ (rows ++ [sumL x y]) (al ++ [.sl (ints (sumL x y)) t2]) := hj.append (.one hsl)
  obtain ⟨al2, p3, p4⟩ := pz_rowj (k := 17) (s := ⟨H1, T3⟩) hM2
  have hpz2 : purify 20 ⟨H1, T3⟩ (.sl (al ++ [.sl (ints (sumL x y)) t2]) t3) = some (.sl al2 t3.strip) := by
    rw [pz_sl, p3]; rfl
  obtain ⟨_, ⟨u2, rfl, hu2⟩, k3⟩ := (refute_ret (t := t3.strip) p4 (strip_pure _) (by rw [p4.len]; simp; unfold lenB; omega)).callV (args := [.sl (al ++ [.sl (ints (sumL x y)) t2]) t3]) (s := ⟨H1, T3⟩) rfl (by simp only [mapO, hpz2])
  obtain ⟨H2, f2, _⟩ := fz_args (H := H1) (T := T3) [.sl (al ++ [.sl (ints (sumL x y)) t2]) t3]
  rw [f2] at k3
  have s1 := scale_dbl hr x1
  have s2 := scale_sum hr x1 y1
  generalize refuteR rows = R0 at *
  generalize refuteR (rows.set a (dblL x)) = R1 at *
  generalize refuteR (rows ++ [sumL x y]) = R2 at *
  cases c0 : (R0.2.2 != 0)
  · have z0 : R0.2.2 = 0 := by simpa using c0
    cases c1 : (R1.2.2 != 0)
    · have z1 : R1.2.2 = 0 := by simpa using c1
      have q1 : (R0.2.1 == R1.2.1) = true := by rw [s1 z0 z1]; simp
      cases c2 : (R2.2.2 != 0)
      · have z2 : R2.2.2 = 0 := by simpa using c2
        have q2 : (R0.2.1 == R2.2.1) = true := by rw [s2 z0 z2]; simp
        simp only [↓wpre, wset, wcore, ne_eq, if_true, if_false, exists_eq_left', true_implies, false_implies, exists_const, exists_eq_right, binA, intA, loadA, storeA, pickC, setAt, mapO, argsE, X.isC, resA, oneA, unA, boundA, eqiA, eqsA, fillA, fillE, ASt.fz, strA, Nat.reduceEqDiff, Nat.reduceLT, ↓reduceIte, reduceCtorEq, Nat.reduceAdd, Nat.reduceLeDiff, Int.reduceBEq, Int.reduceBNe, Int.reduceLT, Int.reduceLE, Int.reduceGT, Int.reduceGE, Nat.reduceDiv, Nat.reduceMul, Nat.reduceBEq, Nat.reduceMod, Nat.reduceSub, List.length_append, List.append_assoc, app_get_len, app_get_add, app_set_len, app_set_add, e0, e7, e8, e9, e10, e11, e52, e53, hdec, hkw, hset, k1, k2, hcl2, ap3, k3, c0, c1, c2, q1, q2, aw, Nat.mul_one, List.getElem?_cons_zero, List.set_cons_zero]
        exact ha
      · simp only [↓wpre, wset, wcore, ne_eq, if_true, if_false, exists_eq_left', true_implies, false_implies, exists_const, exists_eq_right, binA, intA, loadA, storeA, pickC, setAt, mapO, argsE, X.isC, resA, oneA, unA, boundA, eqiA, eqsA, fillA, fillE, ASt.fz, strA, Nat.reduceEqDiff, Nat.reduceLT, ↓reduceIte, reduceCtorEq, Nat.reduceAdd, Nat.reduceLeDiff, Int.reduceBEq, Int.reduceBNe, Int.reduceLT, Int.reduceLE, Int.reduceGT, Int.reduceGE, Nat.reduceDiv, Nat.reduceMul, Nat.reduceBEq, Nat.reduceMod, Nat.reduceSub, List.length_append, List.append_assoc, app_get_len, app_get_add, app_set_len, app_set_add, e0, e7, e8, e9, e10, e11, e52, e53, hdec, hkw, hset, k1, k2, hcl2, ap3, k3, c0, c1, c2, q1, aw, Nat.mul_one, List.getElem?_cons_zero, List.set_cons_zero]
        exact ha
    · cases c2 : (R2.2.2 != 0)
      · have z2 : R2.2.2 = 0 := by simpa using c2
        have q2 : (R0.2.1 == R2.2.1) = true := by rw [s2 z0 z2]; simp
        simp only [↓wpre, wset, wcore, ne_eq, if_true, if_false, exists_eq_left', true_implies, false_implies, exists_const, exists_eq_right, binA, intA, loadA, storeA, pickC, setAt, mapO, argsE, X.isC, resA, oneA, unA, boundA, eqiA, eqsA, fillA, fillE, ASt.fz, strA, Nat.reduceEqDiff, Nat.reduceLT, ↓reduceIte, reduceCtorEq, Nat.reduceAdd, Nat.reduceLeDiff, Int.reduceBEq, Int.reduceBNe, Int.reduceLT, Int.reduceLE, Int.reduceGT, Int.reduceGE, Nat.reduceDiv, Nat.reduceMul, Nat.reduceBEq, Nat.reduceMod, Nat.reduceSub, List.length_append, List.append_assoc, app_get_len, app_get_add, app_set_len, app_set_add, e0, e7, e8, e9, e10, e11, e52, e53, hdec, hkw, hset, k1, k2, hcl2, ap3, k3, c0, c1, c2, q2, aw, Nat.mul_one, List.getElem?_cons_zero, List.set_cons_zero]
        exact ha
      · simp only [↓wpre, wset, wcore, ne_eq, if_true, if_false, exists_eq_left', true_implies, false_implies, exists_const, exists_eq_right, binA, intA, loadA, storeA, pickC, setAt, mapO, argsE, X.isC, resA, oneA, unA, boundA, eqiA, eqsA, fillA, fillE, ASt.fz, strA, Nat.reduceEqDiff, Nat.reduceLT, ↓reduceIte, reduceCtorEq, Nat.reduceAdd, Nat.reduceLeDiff, Int.reduceBEq, Int.reduceBNe, Int.reduceLT, Int.reduceLE, Int.reduceGT, Int.reduceGE, Nat.reduceDiv, Nat.reduceMul, Nat.reduceBEq, Nat.reduceMod, Nat.reduceSub, List.length_append, List.append_assoc, app_get_len, app_get_add, app_set_len, app_set_add, e0, e7, e8, e9, e10, e11, e52, e53, hdec, hkw, hset, k1, k2, hcl2, ap3, k3, c0, c1, c2, aw, Nat.mul_one, List.getElem?_cons_zero, List.set_cons_zero]
        exact ha
  · simp only [↓wpre, wset, wcore, ne_eq, if_true, if_false, exists_eq_left', true_implies, false_implies, exists_const, exists_eq_right, binA, intA, loadA, storeA, pickC, setAt, mapO, argsE, X.isC, resA, oneA, unA, boundA, eqiA, eqsA, fillA, fillE, ASt.fz, strA, Nat.reduceEqDiff, Nat.reduceLT, ↓reduceIte, reduceCtorEq, Nat.reduceAdd, Nat.reduceLeDiff, Int.reduceBEq, Int.reduceBNe, Int.reduceLT, Int.reduceLE, Int.reduceGT, Int.reduceGE, Nat.reduceDiv, Nat.reduceMul, Nat.reduceBEq, Nat.reduceMod, Nat.reduceSub, List.length_append, List.append_assoc, app_get_len, app_get_add, app_set_len, app_set_add, e0, e7, e8, e9, e10, e11, e52, e53, hdec, hkw, hset, k1, k2, hcl2, ap3, k3, c0, aw, Nat.mul_one, List.getElem?_cons_zero, List.set_cons_zero]
    exact ha
end Go.Proofs.Eng
