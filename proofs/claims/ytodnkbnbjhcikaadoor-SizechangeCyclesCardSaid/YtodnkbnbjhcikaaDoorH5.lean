/- The check of calls. No conditions beyond those in the theorems. -/
import Derived.Test.YtodnkbnbjhcikaaDoorH4
set_option linter.all false
set_option linter.deprecated false
set_option linter.unnecessarySimpa false
set_option linter.unusedVariables false
set_option linter.unusedSimpArgs false
set_option linter.defProp false
namespace Go.Proofs.Eng
open Go Go.Proofs
set_option maxRecDepth 100000
set_option maxHeartbeats 16000000
theorem dge1 {n : Nat} (h : 1 ≤ n) : decide ((n : Int) ≥ 1) = true := decide_eq_true (by omega)
theorem dge1' {n : Nat} (h : n < 1) : decide ((n : Int) ≥ 1) = false := decide_eq_false (by omega)
theorem dle16 {n : Nat} (h : n ≤ 16) : decide ((n : Int) ≤ 16) = true := decide_eq_true (by omega)
theorem dle16' {n : Nat} (h : 16 < n) : decide ((n : Int) ≤ 16) = false := decide_eq_false (by omega)
theorem formed_ret {c : Cl} {a : AV} (h : ClIs c a) : Out md pfs 42 [a] (· = .bool (formB c)) fun _ => False := by
  obtain ⟨al, t, rfl, h1, h2, h3, h4, h5⟩ := h.of
  have hal := rows_all h1
  have hla := h1.len
  refine out_of pf42_is (Nat.le_of_ble_eq_true rfl) ?_
  rcases Int.lt_or_le c.f 0 with hf | hf
  · have d1 := dneg hf
    have dd := formB_no (c := c) (fun h => by omega)
    simp only [pf42, ↓wpre, wset, wcore, wext, ne_eq, if_true, if_false, exists_eq_left', true_implies, false_implies, exists_const, exists_eq_right, binA, intA, loadA, storeA, pickC, setAt, mapO, argsE, X.isC, resA, oneA, unA, boundA, eqiA, eqsA, fillA, fillE, ASt.fz, strA, simprocAttr, d1, dd]
  have d1 := dneg' hf
  rcases Int.lt_or_le c.t 0 with ht | ht
  · have d2 := dneg ht
    have dd := formB_no (c := c) (fun h => by omega)
    simp only [pf42, ↓wpre, wset, wcore, wext, ne_eq, if_true, if_false, exists_eq_left', true_implies, false_implies, exists_const, exists_eq_right, binA, intA, loadA, storeA, pickC, setAt, mapO, argsE, X.isC, resA, oneA, unA, boundA, eqiA, eqsA, fillA, fillE, ASt.fz, strA, simprocAttr, d1, d2, dd]
  have d2 := dneg' ht
  rcases Nat.lt_or_ge al.length 1 with hl | hl
  · have d3 := dl1 hl
    have dd := formB_no (c := c) (fun h => by omega)
    simp only [pf42, ↓wpre, wset, wcore, wext, ne_eq, if_true, if_false, exists_eq_left', true_implies, false_implies, exists_const, exists_eq_right, binA, intA, loadA, storeA, pickC, setAt, mapO, argsE, X.isC, resA, oneA, unA, boundA, eqiA, eqsA, fillA, fillE, ASt.fz, strA, simprocAttr, d1, d2, d3, dd]
  have d3 := dl1' hl
  rcases Nat.lt_or_ge 16 al.length with hl2 | hl2
  · have d4 := dg16 hl2
    have dd := formB_no (c := c) (fun h => by omega)
    simp only [pf42, ↓wpre, wset, wcore, wext, ne_eq, if_true, if_false, exists_eq_left', true_implies, false_implies, exists_const, exists_eq_right, binA, intA, loadA, storeA, pickC, setAt, mapO, argsE, X.isC, resA, oneA, unA, boundA, eqiA, eqsA, fillA, fillE, ASt.fz, strA, simprocAttr, d1, d2, d3, d4, dd]
  have d4 := dg16' hl2
  obtain ⟨x0, tx0, y1, y2, y3, y4⟩ := head_is h1 hl
  rcases Nat.lt_or_ge x0.length 1 with hx | hx
  · have d5 := dge1' hx
    have dd := formB_no (c := c) (fun h => by omega)
    simp only [pf42, ↓wpre, wset, wcore, wext, ne_eq, if_true, if_false, exists_eq_left', true_implies, false_implies, exists_const, exists_eq_right, binA, intA, loadA, storeA, pickC, setAt, mapO, argsE, X.isC, resA, oneA, unA, boundA, eqiA, eqsA, fillA, fillE, ASt.fz, strA, simprocAttr, d1, d2, d3, d4, y1, hal, ints_len, d5, dd]
  have d5 := dge1 hx
  rcases Nat.lt_or_ge 16 x0.length with hx2 | hx2
  · have d6 := dle16' hx2
    have dd := formB_no (c := c) (fun h => by omega)
    simp only [pf42, ↓wpre, wset, wcore, wext, ne_eq, if_true, if_false, exists_eq_left', true_implies, false_implies, exists_const, exists_eq_right, binA, intA, loadA, storeA, pickC, setAt, mapO, argsE, X.isC, resA, oneA, unA, boundA, eqiA, eqsA, fillA, fillE, ASt.fz, strA, simprocAttr, d1, d2, d3, d4, y1, hal, ints_len, d5, d6, dd]
  have d6 := dle16 hx2
  have hco := containsR_ret (p := fun r => !rowB x0.length r) 55 [.ip [.int x0.length] 0] rfl (by simp [pvs_cons, pvs_nil, pv_ip, pv_v]) (t := t) (Tl.fast.pure h2) h1 h3 fun x a hx => f55_ret hx
  obtain ⟨_, rfl, hc⟩ := hco.callP rfl (s := ⟨[.cells false [.int c.f, .int c.t, .sl al t], .cells false [.int x0.length]], []⟩) (args := [.sl al t, .fn 55 [.ptr 1 0]]) (by
    have hpsl : pureAV (.sl al t) = true := by rw [pv_sl, Tl.fast.pure h2, rowsPure h1]; rfl
    simp only [mapO, purify20 hpsl, pz_fn, pz_ptr, List.getElem?_cons_succ, List.getElem?_cons_zero, List.length_cons, List.length_nil, Nat.zero_le, if_true, purify_pure (n := 17) pv_v, Option.map_some])
  have dd : formB c = !(c.m.any fun r => !rowB x0.length r) := by
    rw [List.any_eq_not_all_not]
    simp only [Bool.not_not]
    rw [Bool.eq_iff_iff, formB_iff, List.all_eq_true, y3]
    constructor
    · exact fun h => h.2.2.2.2.2.2
    · exact fun h => ⟨hf, ht, by omega, by omega, hx, hx2, h⟩
  simp only [pf42, ↓wpre, wset, wcore, wext, ne_eq, if_true, if_false, exists_eq_left', true_implies, false_implies, exists_const, exists_eq_right, binA, intA, loadA, storeA, pickC, setAt, mapO, argsE, X.isC, resA, oneA, unA, boundA, eqiA, eqsA, fillA, fillE, ASt.fz, strA, simprocAttr, d1, d2, d3, d4, y1, hal, ints_len, d5, d6, hc, dd]
theorem f41_ret {c : Cl} {a : AV} (h : ClIs c a) : Out md pfs 41 [a] (· = .bool (!formB c)) fun _ => False := by
  refine out_of pf41_is (Nat.le_of_ble_eq_true rfl) ?_
  obtain ⟨_, rfl, hc⟩ := (formed_ret h).call rfl (by simp [pvs_cons, pvs_nil, h.pure])
  obtain ⟨al, t, rfl, _⟩ := h.of
  simp only [pf41, ↓wpre, wset, wcore, wext, ne_eq, if_true, if_false, exists_eq_left', true_implies, false_implies, exists_const, exists_eq_right, binA, intA, loadA, storeA, pickC, setAt, mapO, argsE, X.isC, resA, oneA, unA, boundA, eqiA, eqsA, fillA, fillE, ASt.fz, strA, simprocAttr, hc]
/-! Tables of numbers -/
def mapI (L : List (Int × Int)) : List (AV × AV) := L.map fun p => (.int p.1, .int p.2)
def lookI (k : Int) : List (Int × Int) → Option Int
  | [] => none
  | p :: L => if k = p.1 then some p.2 else lookI k L
def upI (k v : Int) : List (Int × Int) → List (Int × Int)
  | [] => [(k, v)]
  | p :: L => if k = p.1 then (k, v) :: L else p :: upI k v L
theorem look_I {k : Int} : ∀ L : List (Int × Int), lookA (.int k) (mapI L) = some ((lookI k L).map fun v => .int v)
  | [] => rfl
  | p :: L => by
    have ih := look_I (k := k) L
    simp only [mapI, List.map_cons, lookA, keyEq, if_true, lookI] at ih ⊢
    by_cases h : k = p.1
    · rw [if_pos h, show (k == p.1) = true by simpa using h]; rfl
    · rw [if_neg h, show (k == p.1) = false by simpa using h]; exact ih
theorem up_I {k v : Int} : ∀ L : List (Int × Int), upA (.int k) (.int v) (mapI L) = some (mapI (upI k v L))
  | [] => rfl
  | p :: L => by
    have ih := up_I (k := k) (v := v) L
    simp only [mapI, List.map_cons, upA, keyEq, if_true, upI] at ih ⊢
    by_cases h : k = p.1
    · rw [if_pos h, show (k == p.1) = true by simpa using h]; simp
    · rw [if_neg h, show (k == p.1) = false by simpa using h]; simp [ih]
theorem look_up {k v x : Int} : ∀ L : List (Int × Int), lookI x (upI k v L) = if x = k then some v else lookI x L
  | [] => by simp only [upI, lookI]
  | p :: L => by
    have ih := look_up (k := k) (v := v) (x := x) L
    simp only [upI]
    by_cases h : k = p.1
    · rw [if_pos h]
      simp only [lookI]
      by_cases hx : x = k
      · rw [if_pos hx, if_pos hx]
      · rw [if_neg hx, if_neg hx, if_neg (by omega)]
    · rw [if_neg h]
      simp only [lookI, ih]
      by_cases hx : x = p.1
      · rw [if_pos hx, if_neg (by omega), if_pos hx]
      · rw [if_neg hx, if_neg hx]
structure KnI (F : Int → Option Int) (ps : List (Int × Int)) : Prop where
  cons : consB ps = true
  is : ∀ p ∈ ps, F p.1 = some p.2
  mem : ∀ x v, F x = some v → (x, v) ∈ ps
theorem knI_nil : KnI (fun _ => none) [] := ⟨rfl, fun _ h => by simp at h, fun _ _ h => by cases h⟩
theorem KnI.step {F : Int → Option Int} {ps : List (Int × Int)} (h : KnI F ps) {p : Int × Int} (hp : ∀ n, F p.1 = some n → n = p.2) {F' : Int → Option Int} (hF : ∀ x, F' x = if x = p.1 then some p.2 else F x) : KnI F' (ps ++ [p]) := by
  refine ⟨?_, fun q hq => ?_, fun x v hx => ?_⟩
  · rw [consB_snoc h.cons, List.all_eq_true]
    intro q hq
    by_cases e : q.1 = p.1
    · have := hp q.2 (by rw [← e]; exact h.is q hq)
      simp [this]
    · simp [e]
  · rw [hF]
    rcases List.mem_append.1 hq with hq | hq
    · by_cases e : q.1 = p.1
      · rw [if_pos e, hp q.2 (by rw [← e]; exact h.is q hq)]
      · rw [if_neg e]; exact h.is q hq
    · simp at hq; subst hq; simp
  · rw [hF] at hx
    by_cases e : x = p.1
    · rw [if_pos e] at hx; cases hx; subst e; simp
    · rw [if_neg e] at hx; exact List.mem_append_left _ (h.mem x v hx)
theorem KnI.bad {F : Int → Option Int} {ps qs : List (Int × Int)} (h : KnI F ps) {p : Int × Int} {n : Int} (hp : F p.1 = some n) (hn : n ≠ p.2) : consB (ps ++ p :: qs) = false := by
  cases e : consB (ps ++ p :: qs) with
  | false => rfl
  | true => exact absurd (consB_iff.1 e (p.1, n) (List.mem_append_left _ (h.mem _ _ hp)) p (by simp) rfl) hn
theorem prs_take {l : List Cl} {j : Nat} {c : Cl} (h : l[j]? = some c) : prs (l.take (j + 1)) = prs (l.take j) ++ prsC c := by
  rw [List.take_add_one, h]; simp [prs]
theorem prs_split {l : List Cl} {j : Nat} {c : Cl} (h : l[j]? = some c) : prs l = prs (l.take j) ++ (prsC c ++ prs (l.drop (j + 1))) := by
  conv => lhs; rw [← List.take_append_drop j l, drop_cons h]
  simp [prs]
theorem check_form {l : List Cl} (h : l.any (fun c => !formB c) = true) : checkR l = 3 := by
  unfold checkR
  rw [if_neg]
  intro h2
  rw [List.any_eq_true] at h
  obtain ⟨c, hc, h⟩ := h
  rw [List.all_eq_true] at h2
  rw [h2 c hc] at h; cases h
theorem check_two {l : List Cl} (h : l.any (fun c => !formB c) = false) : checkR l = if consB (prs l) = true then 0 else 1 := by
  unfold checkR
  rw [if_pos]
  rw [List.all_eq_true]
  intro c hc
  have := List.any_eq_false.1 h c hc
  simpa using this
theorem check_ret {l : List Cl} {al : List AV} {t : Tl} (h : LIs ClIs l al) (ht : t.pure = true) (hl : al.length ≤ lenB) : Out md pfs 29 [.sl al t] (· = .int (checkR l)) fun _ => False := by
  have hall := h.all clAgg
  have hln := h.len
  refine out_of pf29_is (Nat.le_of_ble_eq_true rfl) ?_
  obtain ⟨_, rfl, hc⟩ := (containsC_ret (p := fun c => !formB c) 41 rfl (t := t) ht h hl fun x a hx => f41_ret hx).call rfl (by simp [pvs_cons, pvs_nil, pv_sl, pv_fn, ht, clsPure h])
  cases hany : l.any fun c => !formB c
  case true =>
    have dd := check_form hany
    simp only [pf29, ↓wpre, wset, wcore, wext, ne_eq, if_true, if_false, exists_eq_left', true_implies, false_implies, exists_const, exists_eq_right, binA, intA, loadA, storeA, pickC, setAt, mapO, argsE, X.isC, resA, oneA, unA, boundA, eqiA, eqsA, fillA, fillE, ASt.fz, strA, simprocAttr, hc, hany, dd]
  have dd := check_two hany
  simp only [pf29, ↓wpre, wset, wcore, wext, ne_eq, if_true, if_false, exists_eq_left', true_implies, false_implies, exists_const, exists_eq_right, binA, intA, loadA, storeA, pickC, setAt, mapO, argsE, X.isC, resA, oneA, unA, boundA, eqiA, eqsA, fillA, fillE, ASt.fz, strA, simprocAttr, hc, hany]
  refine W_loopE (fun j => al.length - j) (fun j E H T => E 3 = .mp 0 ∧ E 13 = .sl al t ∧ E 14 = .int al.length ∧ E 15 = .int (j : Nat) ∧ j ≤ al.length ∧ ∃ L, H[0]? = some (.map (mapI L)) ∧ KnI (fun x => lookI x L) (prs (l.take j))) ?_ 0 ⟨rfl, rfl, rfl, rfl, Nat.zero_le _, [], rfl, knI_nil⟩
  rintro j E H T ⟨e3, e13, e14, e15, hj, L, h0, hK⟩
  rcases Nat.lt_or_ge j al.length with hlt | hge
  · have q1 := dlt hlt
    obtain ⟨c, a, g1, g2, g3, g4⟩ := cl_get h hlt
    have hcf : formB c = true := by
      have := List.any_eq_false.1 hany c g2
      simpa using this
    obtain ⟨bl, u, rfl, k1, k2, k3, k4, k5⟩ := g4.of
    have hbl := rows_all k1
    have hlb := k1.len
    have hff := formB_iff.1 hcf
    obtain ⟨x0, tx0, y1, y2, y3, y4⟩ := head_is k1 (by omega)
    have l0 := lt_of_get h0
    have hl1 := look_I (k := c.f) L
    have p1 : prsC c = [(c.f, ((colN c : Nat) : Int)), (c.t, ((c.m.length : Nat) : Int))] := rfl
    have hsplit := prs_split g1
    by_cases hbad : ∃ n, lookI c.f L = some n ∧ n ≠ (x0.length : Int)
    · obtain ⟨n, hn1, hn2⟩ := hbad
      rw [hn1] at hl1
      have q2 : (n != (x0.length : Int)) = true := ibne hn2
      have hno := hK.bad (qs := (c.t, (c.m.length : Int)) :: prs (l.drop (j + 1))) (p := (c.f, (colN c : Nat))) (n := n) hn1 (by rw [y3]; exact hn2)
      rw [hsplit, p1] at dd
      simp only [List.cons_append, List.nil_append] at dd
      rw [if_neg (by rw [hno]; simp)] at dd
      simp only [↓wpre, wset, wcore, wext, ne_eq, if_true, if_false, exists_eq_left', true_implies, false_implies, exists_const, exists_eq_right, binA, intA, loadA, storeA, pickC, setAt, mapO, argsE, X.isC, resA, oneA, unA, boundA, eqiA, eqsA, fillA, fillE, ASt.fz, strA, simprocAttr, List.length_append, List.append_assoc, app_get_len, app_get_add, app_set_len, app_set_add, e3, e13, e14, e15, q1, g3, hall, app_get_of h0, hl1, keyOK, Option.map_some, y1, hbl, ints_len, q2, dd]
    · have hok1 : ∀ n, lookI c.f L = some n → n = (x0.length : Int) := fun n hn => Classical.byContradiction fun h => hbad ⟨n, hn, h⟩
      have hK1 := hK.step (p := (c.f, ((colN c : Nat) : Int))) (fun n hn => by rw [y3]; exact hok1 n hn) (F' := fun x => lookI x (upI c.f (x0.length : Int) L)) (fun x => by rw [y3]; exact look_up L)
      have up1 := up_I (k := c.f) (v := (x0.length : Int)) L
      generalize upI c.f (x0.length : Int) L = L1 at hK1 up1
      have hl2 := look_I (k := c.t) L1
      have up2 := up_I (k := c.t) (v := (bl.length : Int)) L1
      have j0 : ∀ B : AObj, ((H ++ [B]).set 0 (.map (mapI L1)))[0]? = some (.map (mapI L1)) := fun B => by
        rw [List.getElem?_set, if_pos rfl, if_pos (by simp)]
      have j3 : ∀ B : AObj, ((H ++ [B]).set 0 (.map (mapI L1)))[H.length]? = some B := fun B => by
        rw [List.getElem?_set, if_neg (by omega), List.getElem?_append_right (Nat.le_refl _), Nat.sub_self]; rfl
      rw [p1] at hsplit
      simp only [List.cons_append, List.nil_append] at hsplit
      by_cases hbad2 : ∃ n, lookI c.t L1 = some n ∧ n ≠ (bl.length : Int)
      · obtain ⟨n, hn1, hn2⟩ := hbad2
        rw [hn1] at hl2
        have q3 : (n != (bl.length : Int)) = true := ibne hn2
        have hno := hK1.bad (qs := prs (l.drop (j + 1))) (p := (c.t, ((c.m.length : Nat) : Int))) (n := n) hn1 (by rw [← hlb]; exact hn2)
        rw [List.append_assoc, List.cons_append, List.nil_append] at hno
        rw [hsplit, if_neg (by rw [hno]; simp)] at dd
        cases hc1 : lookI c.f L with
        | none =>
          rw [hc1] at hl1
          simp only [↓wpre, wset, wcore, wext, ne_eq, if_true, if_false, exists_eq_left', true_implies, false_implies, exists_const, exists_eq_right, binA, intA, loadA, storeA, pickC, setAt, mapO, argsE, X.isC, resA, oneA, unA, boundA, eqiA, eqsA, fillA, fillE, ASt.fz, strA, simprocAttr, List.length_append, List.append_assoc, app_get_len, app_get_add, app_set_len, app_set_add, e3, e13, e14, e15, q1, g3, hall, app_get_of h0, hl1, keyOK, Option.map_some, Option.map_none, y1, hbl, ints_len, dd, up1, j0, j3, hl2, q3]
        | some m =>
          rw [hc1] at hl1
          have q2 : (m != (x0.length : Int)) = false := ibne' (hok1 m hc1)
          simp only [↓wpre, wset, wcore, wext, ne_eq, if_true, if_false, exists_eq_left', true_implies, false_implies, exists_const, exists_eq_right, binA, intA, loadA, storeA, pickC, setAt, mapO, argsE, X.isC, resA, oneA, unA, boundA, eqiA, eqsA, fillA, fillE, ASt.fz, strA, simprocAttr, List.length_append, List.append_assoc, app_get_len, app_get_add, app_set_len, app_set_add, e3, e13, e14, e15, q1, g3, hall, app_get_of h0, hl1, keyOK, Option.map_some, Option.map_none, y1, hbl, ints_len, dd, up1, j0, j3, hl2, q2, q3]
      · have hok2 : ∀ n, lookI c.t L1 = some n → n = (bl.length : Int) := fun n hn => Classical.byContradiction fun h => hbad2 ⟨n, hn, h⟩
        have hK2 := hK1.step (p := (c.t, ((c.m.length : Nat) : Int))) (fun n hn => by rw [← hlb]; exact hok2 n hn) (F' := fun x => lookI x (upI c.t (bl.length : Int) L1)) (fun x => by rw [← hlb]; exact look_up L1)
        generalize upI c.t (bl.length : Int) L1 = L2 at hK2 up2
        have hpt : prs (l.take (j + 1)) = prs (l.take j) ++ [(c.f, ((colN c : Nat) : Int))] ++ [(c.t, ((c.m.length : Nat) : Int))] := by rw [prs_take g1, p1]; simp
        rw [← hpt] at hK2
        have j4 : ∀ B : AObj, (((H ++ [B]).set 0 (.map (mapI L1))).set 0 (.map (mapI L2)))[0]? = some (.map (mapI L2)) := fun B => by
          rw [List.getElem?_set, if_pos rfl, if_pos (by simp)]
        cases hc1 : lookI c.f L with
        | none =>
          rw [hc1] at hl1
          cases hc2 : lookI c.t L1 with
          | none =>
            rw [hc2] at hl2
            simp only [↓wpre, wset, wcore, wext, ne_eq, if_true, if_false, exists_eq_left', true_implies, false_implies, exists_const, exists_eq_right, binA, intA, loadA, storeA, pickC, setAt, mapO, argsE, X.isC, resA, oneA, unA, boundA, eqiA, eqsA, fillA, fillE, ASt.fz, strA, simprocAttr, List.length_append, List.append_assoc, app_get_len, app_get_add, app_set_len, app_set_add, e3, e13, e14, e15, q1, g3, hall, app_get_of h0, hl1, keyOK, Option.map_some, Option.map_none, y1, hbl, ints_len, up1, up2, j0, j3, hl2]
            exact EQ_in ⟨j + 1, by omega, e3, e13, e14, next_ixv (by omega), by omega, L2, j4 _, hK2⟩
          | some m2 =>
            rw [hc2] at hl2
            have q3 : (m2 != (bl.length : Int)) = false := ibne' (hok2 m2 hc2)
            simp only [↓wpre, wset, wcore, wext, ne_eq, if_true, if_false, exists_eq_left', true_implies, false_implies, exists_const, exists_eq_right, binA, intA, loadA, storeA, pickC, setAt, mapO, argsE, X.isC, resA, oneA, unA, boundA, eqiA, eqsA, fillA, fillE, ASt.fz, strA, simprocAttr, List.length_append, List.append_assoc, app_get_len, app_get_add, app_set_len, app_set_add, e3, e13, e14, e15, q1, g3, hall, app_get_of h0, hl1, keyOK, Option.map_some, Option.map_none, y1, hbl, ints_len, up1, up2, j0, j3, hl2, q3]
            exact EQ_in ⟨j + 1, by omega, e3, e13, e14, next_ixv (by omega), by omega, L2, j4 _, hK2⟩
        | some m =>
          rw [hc1] at hl1
          have q2 : (m != (x0.length : Int)) = false := ibne' (hok1 m hc1)
          cases hc2 : lookI c.t L1 with
          | none =>
            rw [hc2] at hl2
            simp only [↓wpre, wset, wcore, wext, ne_eq, if_true, if_false, exists_eq_left', true_implies, false_implies, exists_const, exists_eq_right, binA, intA, loadA, storeA, pickC, setAt, mapO, argsE, X.isC, resA, oneA, unA, boundA, eqiA, eqsA, fillA, fillE, ASt.fz, strA, simprocAttr, List.length_append, List.append_assoc, app_get_len, app_get_add, app_set_len, app_set_add, e3, e13, e14, e15, q1, g3, hall, app_get_of h0, hl1, keyOK, Option.map_some, Option.map_none, y1, hbl, ints_len, up1, up2, j0, j3, hl2, q2]
            exact EQ_in ⟨j + 1, by omega, e3, e13, e14, next_ixv (by omega), by omega, L2, j4 _, hK2⟩
          | some m2 =>
            rw [hc2] at hl2
            have q3 : (m2 != (bl.length : Int)) = false := ibne' (hok2 m2 hc2)
            simp only [↓wpre, wset, wcore, wext, ne_eq, if_true, if_false, exists_eq_left', true_implies, false_implies, exists_const, exists_eq_right, binA, intA, loadA, storeA, pickC, setAt, mapO, argsE, X.isC, resA, oneA, unA, boundA, eqiA, eqsA, fillA, fillE, ASt.fz, strA, simprocAttr, List.length_append, List.append_assoc, app_get_len, app_get_add, app_set_len, app_set_add, e3, e13, e14, e15, q1, g3, hall, app_get_of h0, hl1, keyOK, Option.map_some, Option.map_none, y1, hbl, ints_len, up1, up2, j0, j3, hl2, q2, q3]
            exact EQ_in ⟨j + 1, by omega, e3, e13, e14, next_ixv (by omega), by omega, L2, j4 _, hK2⟩
  · have q1 := dltf hge
    rw [List.take_of_length_le (by omega)] at hK
    rw [if_pos hK.cons] at dd
    simp only [↓wpre, wset, wcore, wext, ne_eq, if_true, if_false, exists_eq_left', true_implies, false_implies, exists_const, exists_eq_right, binA, intA, loadA, storeA, pickC, setAt, mapO, argsE, X.isC, resA, oneA, unA, boundA, eqiA, eqsA, fillA, fillE, ASt.fz, strA, simprocAttr, e3, e13, e14, e15, q1, dd]
end Go.Proofs.Eng
