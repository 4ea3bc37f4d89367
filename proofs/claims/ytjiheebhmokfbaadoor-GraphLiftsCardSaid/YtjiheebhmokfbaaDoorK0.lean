/- What the rows' list of laid variables gives. No conditions beyond those in the theorems. -/
import Derived.Test.YtjiheebhmokfbaaDoorT3
import Derived.Test.YtjiheebhmokfbaaDoorWX
import Derived.Test.YtjiheebhmokfbaaDoorC2
import Derived.Test.YtjiheebhmokfbaaDoorG5
import Derived.Test.YtjiheebhmokfbaaDoorG4
import Derived.Test.YtjiheebhmokfbaaDoorD5
import Derived.Test.YtjiheebhmokfbaaDoorRows
import Derived.Lib.LaidTab
import Derived.Lay
import Derived.MakeChecks
import Derived.ProofKit
set_option linter.all false
set_option linter.deprecated false
set_option linter.unnecessarySimpa false
set_option linter.unusedVariables false
set_option linter.unusedSimpArgs false
set_option linter.defProp false
namespace Go.Proofs.Eng
open Go Go.Proofs
set_option maxRecDepth 100000
theorem cells3 : 0 < Tryd.prog.cellsOf 3 := by rw [show Tryd.prog.cellsOf 3 = 1 from by kernel_rfl]; decide
theorem oft_int {n : Nat} {l : List AV} (h : OfT Tryd.prog n 3 l) : ∃ i, l = [.int i] ∧ in64 i := by
  cases n with
  | zero => exact h.elim
  | succ n =>
    simp only [OfT, Tryd.underlying3] at h
    obtain ⟨i, rfl, hw⟩ := h
    refine ⟨i, rfl, ?_⟩
    unfold in64
    simp [Lit.wf, IntKind.min, IntKind.max, IntKind.signed, IntKind.bits] at hw
    omega
theorem oft_str {n : Nat} {l : List AV} (h : OfT Tryd.prog n 9 l) : ∃ s, l = [.str s] ∧ s.size ≤ lenB := by
  cases n with
  | zero => exact h.elim
  | succ n =>
    simp only [OfT, Tryd.underlying9] at h
    obtain ⟨s, rfl, hw⟩ := h
    exact ⟨s, rfl, by unfold lenB; simpa [maxLen] using hw⟩
theorem oft_slice {α : Type} {R : α → AV → Prop} {n : Nat} {t e : TypeId} {l : List AV} (hu : Tryd.prog.underlying t = some (.slice e)) (hc : 0 < Tryd.prog.cellsOf e) (hR : ∀ n l, OfT Tryd.prog n e l → ∃ x, R x (mkE (isAgg Tryd.prog e) l)) (h : OfT Tryd.prog n t l) : ∃ (xs : List α) (al : List AV) (tl : Tl), l = [.sl al tl] ∧ LIs R xs al ∧ tl.pure = true ∧ al.length ≤ lenB := by
  cases n with
  | zero => exact h.elim
  | succ n =>
    simp only [OfT, hu, if_pos hc] at h
    obtain ⟨xs, tl, rfl, h1, h2, h3⟩ := h
    have key : ∀ xs : List (List AV), (∀ x ∈ xs, OfT Tryd.prog n e x) → ∃ ys : List α, LIs R ys (xs.map (mkE (isAgg Tryd.prog e))) := by
      intro xs
      induction xs with
      | nil => intro _; exact ⟨[], trivial⟩
      | cons x xs ih =>
        intro h
        obtain ⟨y, hy⟩ := hR n x (h x (by simp))
        obtain ⟨ys, hys⟩ := ih fun z hz => h z (by simp [hz])
        exact ⟨y :: ys, hy, hys⟩
    obtain ⟨ys, hys⟩ := key xs h3
    refine ⟨ys, _, tl, rfl, hys, ?_, by rw [List.length_map]; unfold lenB; simpa [maxLen] using h2⟩
    rcases h1 with rfl | ⟨rfl, _⟩ <;> rfl
theorem purify_v_inv {n : Nat} {s : ASt} {x : AV} {y : Value} (h : purify n s x = some (.v y)) : x = .v y := by
  cases n with
  | zero => rw [purify] at h; cases h
  | succ n =>
    unfold purify at h
    split at h
    · cases h; rfl
    · split at h
      all_goals first
        | (cases h; done)
        | (rw [Option.map_eq_some_iff] at h; obtain ⟨_, _, h⟩ := h; cases h; done)
        | skip
      split at h
      · split at h
        · rw [Option.map_eq_some_iff] at h; obtain ⟨_, _, h⟩ := h; cases h
        · cases h
      · cases h
theorem law_true {f : FuncId} {ls : List AV} (h : Out md pfs f ls (· = .bool true) fun _ => False) : ∃ s', run md pfs f ls ⟨[], []⟩ = some (.ret (.v (.bool true)), s') := by
  obtain ⟨out, s, out', h1, h2, h3⟩ := h
  cases out' with
  | pan v => exact h3.elim
  | ret v =>
    subst h3
    cases out with
    | pan w => simp [Outc.purify] at h2
    | ret w =>
      simp only [Outc.purify, Option.map_eq_some_iff] at h2
      obtain ⟨y, h2, h3⟩ := h2
      cases h3
      exact ⟨s, by rw [h1, purify_v_inv h2]⟩
theorem cells105 : 0 < Tryd.prog.cellsOf 105 := by rw [show Tryd.prog.cellsOf 105 = 2 from by kernel_rfl]; decide
theorem cells67 : 0 < Tryd.prog.cellsOf 67 := by rw [show Tryd.prog.cellsOf 67 = 2 from by kernel_rfl]; decide
theorem five {α : Type} {l : List α} (h : l.length = 5) : ∃ a b c d e, l = [a, b, c, d, e] := by
  match l, h with
  | [a, b, c, d, e], _ => exact ⟨a, b, c, d, e, rfl⟩
theorem two {α : Type} {l : List α} (h : l.length = 2) : ∃ a b, l = [a, b] := by
  match l, h with
  | [a, b], _ => exact ⟨a, b, rfl⟩
theorem oft_var {n : Nat} {l : List AV} (h : OfT Tryd.prog n 105 l) : ∃ v : Int × Int, varIs v (.agg l) := by
  cases n with
  | zero => exact h.elim
  | succ n =>
    simp only [OfT, Tryd.underlying105] at h
    rw [if_pos (by kernel_rfl)] at h
    obtain ⟨xs, rfl, hl, hx⟩ := h
    obtain ⟨a, b, rfl⟩ := two hl
    obtain ⟨i, rfl, hi⟩ := oft_int (hx 0 _ a rfl rfl)
    obtain ⟨p, rfl, hp⟩ := oft_int (hx 1 _ b rfl rfl)
    exact ⟨(i, p), rfl, hi, hp⟩
theorem oft_lv {n : Nat} {l : List AV} (h : OfT Tryd.prog n 67 l) : ∃ e : Lv, e.Is (.agg l) := by
  cases n with
  | zero => exact h.elim
  | succ n =>
    simp only [OfT, Tryd.underlying67] at h
    rw [if_pos (by kernel_rfl)] at h
    obtain ⟨xs, rfl, hl, hx⟩ := h
    obtain ⟨a, b, rfl⟩ := two hl
    obtain ⟨c, rfl, hc⟩ := oft_int (hx 0 _ a rfl rfl)
    obtain ⟨vs, al, tl, rfl, g1, g2, g3⟩ := oft_slice (R := varIs) Tryd.underlying65 cells105 (fun n l h => by
      obtain ⟨v, hv⟩ := oft_var h
      exact ⟨v, by rw [show isAgg Tryd.prog 105 = true from by kernel_rfl]; exact hv⟩) (hx 1 _ b rfl rfl)
    exact ⟨⟨c, vs⟩, tl, al, rfl, g2, hc, g3, g1⟩
theorem oft_ints {n : Nat} {l : List AV} (h : OfT Tryd.prog n 45 l) : ∃ (xs : List Int) (tl : Tl), l = [.sl (ints xs) tl] ∧ tl.pure = true ∧ xs.length ≤ lenB ∧ ∀ x ∈ xs, in64 x := by
  obtain ⟨ys, al, tl, rfl, h1, h2, h3⟩ := oft_slice (R := fun (i : Int) a => a = .int i ∧ in64 i) Tryd.underlying45 cells3 (fun n l h => by
    obtain ⟨i, rfl, hi⟩ := oft_int h
    exact ⟨i, by rw [show isAgg Tryd.prog 3 = false from by kernel_rfl]; exact ⟨rfl, hi⟩⟩) h
  have key : ∀ {ys : List Int} {al : List AV}, LIs (fun (i : Int) a => a = .int i ∧ in64 i) ys al → al = ints ys ∧ ∀ x ∈ ys, in64 x := by
    intro ys
    induction ys with
    | nil => intro al h; cases al with
      | nil => exact ⟨rfl, by simp⟩
      | cons a al => simp [LIs] at h
    | cons y ys ih => intro al h; cases al with
      | nil => simp [LIs] at h
      | cons a al =>
        simp only [LIs] at h
        obtain ⟨e1, e2⟩ := ih h.2
        obtain ⟨⟨rfl, h0⟩, _⟩ := h
        exact ⟨by rw [e1]; rfl, fun x hx => by
          rcases List.mem_cons.1 hx with rfl | hx
          · exact h0
          · exact e2 x hx⟩
  obtain ⟨rfl, h5⟩ := key h1
  rw [ints_len] at h3
  exact ⟨ys, tl, rfl, h2, h3, h5⟩
theorem cells47 : 0 < Tryd.prog.cellsOf 47 := by rw [show Tryd.prog.cellsOf 47 = 5 from by kernel_rfl]; decide
theorem oft_nd {n : Nat} {l : List AV} (h : OfT Tryd.prog n 47 l) : ∃ e : Nd, e.Is (.agg l) := by
  cases n with
  | zero => exact h.elim
  | succ n =>
    unfold OfT at h
    simp only [Tryd.underlying47] at h
    rw [if_pos (by kernel_rfl)] at h
    obtain ⟨xs, rfl, hl, hx⟩ := h
    obtain ⟨a, b, c, d, e, rfl⟩ := five hl
    obtain ⟨k, rfl, hk⟩ := oft_int (hx 0 _ a rfl rfl)
    obtain ⟨i, rfl, hi⟩ := oft_int (hx 1 _ b rfl rfl)
    obtain ⟨nm, rfl, hn⟩ := oft_str (hx 2 _ c rfl rfl)
    obtain ⟨ls, las, t1, rfl, g1, g2, g3⟩ := oft_slice (R := Lv.Is) Tryd.underlying30 cells67 (fun n l h => by
      obtain ⟨v, hv⟩ := oft_lv h
      exact ⟨v, by rw [show isAgg Tryd.prog 67 = true from by kernel_rfl]; exact hv⟩) (hx 3 _ d rfl rfl)
    obtain ⟨ks, t2, rfl, q1, q2, q3⟩ := oft_ints (hx 4 _ e rfl rfl)
    exact ⟨⟨k, i, nm, ls, ks⟩, t1, t2, las, rfl, g2, q1, hk, hi, hn, g3, q2, g1, q3⟩
theorem oft_g {n : Nat} {l : List AV} (h : OfT Tryd.prog n 24 l) : ∃ N : List Nd, GIs N (.agg l) := by
  cases n with
  | zero => exact h.elim
  | succ n =>
    unfold OfT at h
    simp only [Tryd.underlying24] at h
    rw [if_pos (by kernel_rfl)] at h
    obtain ⟨xs, rfl, hl, hx⟩ := h
    obtain ⟨a, rfl⟩ : ∃ a, xs = [a] := by
      match xs, hl with
      | [a], _ => exact ⟨a, rfl⟩
    obtain ⟨N, al, tl, rfl, g1, g2, g3⟩ := oft_slice (R := Nd.Is) Tryd.underlying22 cells47 (fun n l h => by
      obtain ⟨v, hv⟩ := oft_nd h
      exact ⟨v, by rw [show isAgg Tryd.prog 47 = true from by kernel_rfl]; exact hv⟩) (hx 0 _ a rfl rfl)
    exact ⟨N, al, tl, rfl, g2, g3, g1⟩
set_option maxHeartbeats 16000000
def zeroA : AV := .agg [.int 0, .int 0, .str ⟨#[]⟩, .sl [] .nil, .sl [] .nil]
def ShR (x : Tm) (b fr : Int) (v : AV) : Prop := ∃ bad : Bool, (bad = true ↔ fr < 0 ∨ b < -65536 ∨ 65536 < b) ∧ if bad = true then v = .tup [zeroA, .int 2] else if x.shE b (min fr 65536) 0 = true then v = .tup [zeroA, .int 24] else ∃ a, v = .tup [a, .int 0] ∧ (x.sh b (min fr 65536) 0).Is a
theorem ShR.bad {x : Tm} {b fr : Int} (h : fr < 0 ∨ b < -65536 ∨ 65536 < b) : ShR x b fr (.tup [zeroA, .int 2]) := ⟨true, by simp [h], by rw [if_pos rfl]⟩
theorem rshift_ret {x : Tm} {a : AV} (ha : x.Is a) (hr : ∀ z ∈ x.subs, z.right = true) (hd : x.dp ≤ 1000000) (b fr : Int) : Out md pfs 49 [a, .int b, .int fr] (ShR x b fr) fun _ => False := by
  obtain ⟨c, rfl, l1, l2, l3⟩ := tmCells ha
  refine out_of pf49_is (Nat.le_of_ble_eq_true rfl) ?_
  rcases Int.lt_or_le fr 0 with h3 | h3
  · have d3 : decide (fr < 0) = true := by simpa using h3
    simp only [pf49, ↓wpre, wall, simprocAttr, l1, l2, d3]
    exact ShR.bad (by simp [h3])
  have d3 : decide (fr < 0) = false := by simp only [decide_eq_false_iff_not]; omega
  rcases Int.lt_or_le b (-65536) with h4 | h4
  · have d4 : decide (b < -65536) = true := by simpa using h4
    simp only [pf49, ↓wpre, wall, simprocAttr, l1, l2, d3, d4]
    exact ShR.bad (by simp [h4])
  have d4 : decide (b < -65536) = false := by simp only [decide_eq_false_iff_not]; omega
  rcases Int.lt_or_le 65536 b with h5 | h5
  · have d5 : decide (b > 65536) = true := by simpa using h5
    simp only [pf49, ↓wpre, wall, simprocAttr, l1, l2, d3, d4, d5]
    exact ShR.bad (by simp [h5])
  have d5 : decide (b > 65536) = false := by simp only [decide_eq_false_iff_not]; omega
  have hm0 : 0 ≤ min fr 65536 := by omega
  have hm1 : min fr 65536 ≤ 4294967294 := by omega
  have hbad : (false = true ↔ fr < 0 ∨ b < -65536 ∨ 65536 < b) := by
    simp only [Bool.false_eq_true, false_iff, not_or]; omega
  have hres : ∀ v, (if x.shE b (min fr 65536) 0 = true then v = .tup [zeroA, .int 24] else ∃ a, v = .tup [a, .int 0] ∧ (x.sh b (min fr 65536) 0).Is a) → ShR x b fr v := fun v h => ⟨false, hbad, by rw [if_neg (by simp)]; exact h⟩
  generalize hfm : min fr 65536 = fm at *
  have hfm2 : (if (65536 : Int) < fr then 65536 else fr) = fm := by rw [← hfm]; split <;> omega
  obtain ⟨v, _, ⟨hv, H', V', rfl, hw, hS⟩, c76⟩ := (shift_sh (w := 2) (y := .int 0) h4 h5 hm0 hm1 x (e := false) (H := [.cells false c, .cells false [.int 0, .int 0, .str ⟨#[]⟩, .sl [] .nil, .sl [] .nil], wkc false (.int 0)]) (V := []) (d := 0) rfl ha hr (by omega)).callRet rfl
  rw [Bool.false_or] at hw
  have hx1 : H'[1]? = some (.cells false [.int 0, .int 0, .str ⟨#[]⟩, .sl [] .nil, .sl [] .nil]) := by rw [hS.keep 1 (by simp) (by decide)]; rfl
  obtain ⟨cv, rfl, m1, m2, m3⟩ := tmCells hv
  have hpv := tmPure _ hv
  rw [show (((0 : Nat)) : Int) = 0 from rfl, wkc] at c76
  simp only [Bool.false_eq_true, if_false] at c76
  have le3 := hS.le
  simp only [List.length_cons, List.length_nil] at le3
  cases he : x.shE b fm 0
  · rw [he, wkc] at hw
    simp only [Bool.false_eq_true, if_false] at hw
    have q0 : ((0 : Int) != 0) = false := rfl
    have hpp : ∀ (s : ASt), purify 1019 s (.agg cv) = some (.agg cv) := fun s => purify_pure hpv
    simp only [pf49, ↓wpre, wall, simprocAttr, l1, l2, d3, d4, d5, hfm2, List.length_append, List.append_assoc, app_get_len, app_get_add, app_set_len, app_set_add, c76, m1, m2, m3, app_get_of hw, app_get_of hx1, get_set (app_get_of hx1 _), q0, List.getLast?_cons_cons, List.getLast?_singleton, List.dropLast_cons_cons, List.dropLast_singleton, M1_t, M1_f, M3_some, JW_f, JW_t, hpp]
    exact hres _ (by rw [he, if_neg (by simp)]; exact ⟨_, rfl, hv⟩)
  · rw [he, wkc] at hw
    simp only [if_true] at hw
    have q0 : ((24 : Int) != 0) = true := rfl
    have hs2 : ∀ Y, ((H' ++ [AObj.cells false cv]).set 1 Y)[2]? = some (.cells false [.int 24, .int 0]) := fun Y => by rw [List.getElem?_set, if_neg (by decide)]; exact app_get_of hw _
    simp only [pf49, ↓wpre, wall, simprocAttr, l1, l2, d3, d4, d5, hfm2, List.length_append, List.append_assoc, app_get_len, app_get_add, app_set_len, app_set_add, c76, m1, m2, m3, app_get_of hw, app_get_of hx1, get_set (app_get_of hx1 _), q0, List.getLast?_cons_cons, List.getLast?_singleton, List.dropLast_cons_cons, List.dropLast_singleton, M1_t, M1_f, M3_some, JW_f, JW_t, hs2, eqI]
    exact hres _ (by rw [he, if_pos rfl]; rfl)
theorem in_ret {N : List Nd} {g : AV} (hg : GIs N g) (i : Int) : Out md pfs 48 [g, .int i] (· = .bool (decide (i ≥ 0) && decide (i < N.length))) fun _ => False := by
  obtain ⟨al, t, rfl, h1, h2, h3⟩ := hg
  rw [← h3.len]
  refine out_of pf48_is (Nat.le_of_ble_eq_true rfl) ?_
  cases c1 : decide (i ≥ 0)
  · simp only [pf48, ↓wpre, wall, simprocAttr, c1, Bool.false_and]
  · simp only [pf48, ↓wpre, wall, simprocAttr, c1, Bool.true_and]
theorem rLift_ret {N : List Nd} {T : List Tm} (hS : SmallG N T) {g : AV} (hg : GIs N g) (i b fr : Int) (hfr : fr ≤ 60000) : Out md pfs 22 [g, .int i, .int b, .int fr] (LiftR T i b fr) fun _ => False := by
  have hG := hS.good
  have hT := hS.len
  rw [hS.eq] at hg
  have hpg := gPure hg
  obtain ⟨_, rfl, c48⟩ := (in_ret hg i).call rfl (by simp [pvs_cons, pvs_nil, hpg, pv_v])
  rw [nodes_len] at c48
  obtain ⟨al, tg, rfl, hg2⟩ := hg
  have hg : GIs (nodesOf T) (.agg [.sl al tg]) := ⟨al, tg, rfl, hg2⟩
  refine out_of pf22_is (Nat.le_of_ble_eq_true rfl) ?_
  cases hin : (decide (i ≥ 0) && decide (i < T.length))
  · simp only [pf22, ↓wpre, wall, simprocAttr, c48, hin]
    refine LiftR.bad ?_
    rcases Int.lt_or_le i 0 with h | h
    · exact .inl h
    · have h1 : decide (i ≥ 0) = true := by simpa using h
      rw [h1, Bool.true_and, decide_eq_false_iff_not] at hin
      exact .inr (.inl (by omega))
  rw [Bool.and_eq_true, decide_eq_true_eq, decide_eq_true_eq] at hin
  have hin' : (decide (i ≥ 0) && decide (i < T.length)) = true := by rw [Bool.and_eq_true, decide_eq_true_eq, decide_eq_true_eq]; exact hin
  obtain ⟨x, hx⟩ : ∃ x, T[i.toNat]? = some x := ⟨T[i.toNat]'(by omega), List.getElem?_eq_getElem _⟩
  obtain ⟨z, hz⟩ : ∃ z, T[0]? = some z := ⟨T[0]'(by omega), List.getElem?_eq_getElem _⟩
  have hxT := List.mem_of_getElem? hx
  obtain ⟨_, hnm, _⟩ := good_at hG hx
  have hi : ((T.idxOf x : Nat) : Int) = i := by
    have := (idx_first hx fun y hy e => hnm (by rw [← e]; exact hy)).2
    omega
  have hdx := good_dp hG.good x hxT
  have hxs := hS.sz x hxT
  have hrx : ∀ y ∈ x.subs, y.right = true := fun y hy => hG.right y (hG.good.subs x hxT y hy)
  obtain ⟨ax, hax, c50⟩ := (unfold_ret hG hg x hxT).call rfl (by simp [pvs_cons, pvs_nil, hpg, pv_v])
  rw [hi] at c50
  obtain ⟨v, ⟨bad, hb1, hb2⟩, c49⟩ := (rshift_ret hax hrx (by omega) b fr).call rfl (by simp [pvs_cons, pvs_nil, tmPure _ hax, pv_v])
  cases bad
  rotate_left
  · rw [if_pos rfl] at hb2
    subst hb2
    have q0 : ((2 : Int) != 0) = true := rfl
    simp only [zeroA] at c49
    simp only [pf22, ↓wpre, wall, simprocAttr, c48, hin', c50, c49, q0]
    exact .bad (by have := hb1.1 rfl; omega)
  rw [if_neg (by simp)] at hb2
  have hnb : ¬ (fr < 0 ∨ b < -65536 ∨ 65536 < b) := fun h => by cases hb1.2 h
  have hm1 : min fr 65536 = fr := by omega
  have hm2 : min fr 4294967294 = fr := by omega
  have hbad : (false = true ↔ i < 0 ∨ (T.length : Int) ≤ i ∨ fr < 0 ∨ b < -65536 ∨ 65536 < b) := by
    simp only [Bool.false_eq_true, false_iff, not_or]; omega
  rw [hm1] at hb2
  obtain ⟨e1, e2⟩ := mv_sh (b := b) (fr := fr) (z := z) x (d := 0) hrx
  have hres : ∀ v, MoveR T (x.mv fr (lvar z b fr) 0) (x.me fr (lbad b fr) 0) v → LiftR T i b fr v := fun v h => ⟨false, hbad, by rw [if_neg (by simp)]; exact ⟨x, z, hx, hz, by rw [hm2]; exact h⟩⟩
  cases he : x.shE b fr 0
  · rw [he, if_neg (by simp)] at hb2
    obtain ⟨a, rfl, ha⟩ := hb2
    have hsz := mv_sz (fr := fr) (lvar_sz (b := b) (fr := fr) (zero_sz hG hz)) x 0
    have hmr := mv_right (fr := fr) (var := lvar z b fr) (x := x) (fun i d => by
      unfold lvar
      split
      · exact fun y hy => hG.right y (hG.good.subs z (List.mem_of_getElem? hz) y hy)
      · rename_i h
        have : 0 ≤ i + b ∧ i + b ≤ 65535 := by
          simp only [lbad, Bool.or_eq_true, decide_eq_true_eq, not_or] at h
          omega
        exact vr_right this.1 this.2) 0 hrx
    rw [← e2 (by rw [e1, he])] at ha
    obtain ⟨vw, hvw, c45⟩ := (whole_ret hG hg ha hmr (by omega)).call rfl (by simp [pvs_cons, pvs_nil, hpg, tmPure _ ha])
    have hvw' := hvw
    obtain ⟨ga, rfl, hga⟩ := hvw
    have hpga := gPure hga
    obtain ⟨al3, t3, rfl, hga'⟩ := hga
    obtain ⟨c, rfl, m1, m2, m3⟩ := tmCells ha
    have q0 : ((0 : Int) != 0) = false := rfl
    have hpp : ∀ (s : ASt), purify 1019 s (.agg [.sl al3 t3]) = some (.agg [.sl al3 t3]) := fun s => purify_pure hpga
    simp only [pf22, ↓wpre, wall, simprocAttr, c48, hin', c50, c49, m1, m2, m3, q0, c45, hpp]
    exact hres _ (by rw [MoveR, e1, he, if_neg (by simp)]; exact hvw')
  · rw [he, if_pos rfl] at hb2
    subst hb2
    have q0 : ((24 : Int) != 0) = true := rfl
    simp only [zeroA] at c49
    simp only [pf22, ↓wpre, wall, simprocAttr, c48, hin', c50, c49, q0]
    exact hres _ (by rw [MoveR, e1, he, if_pos rfl]; exact ⟨_, rfl, [], .nil, rfl, rfl, Nat.zero_le _, trivial⟩)
theorem LiftR.eq {T : List Tm} {i b fr : Int} {v : AV} (h : LiftR T i b fr v) : ∃ (N : List Nd) (j e : Int), (∀ w, LiftR T i b fr w → GRes N j e w) ∧ GRes N j e v := by
  obtain ⟨bad, h1, h2⟩ := h
  cases bad
  · rw [if_neg (by simp)] at h2
    obtain ⟨x, z, hx, hz, hm⟩ := h2
    obtain ⟨N, j, e, ha, hb⟩ := hm.eq
    refine ⟨N, j, e, fun w ⟨bad', k1, k2⟩ => ?_, hb⟩
    cases bad'
    · rw [if_neg (by simp)] at k2
      obtain ⟨x', z', hx', hz', hm'⟩ := k2
      rw [hx] at hx'; cases hx'
      rw [hz] at hz'; cases hz'
      exact ha w hm'
    · have := h1.2 (k1.1 rfl); cases this
  · rw [if_pos rfl] at h2
    refine ⟨_, _, _, fun w ⟨bad', k1, k2⟩ => ?_, h2⟩
    cases bad'
    · have := k1.2 (h1.1 rfl); cases this
    · rw [if_pos rfl] at k2; exact k2
theorem high_ret {n : Nd} {a : AV} (h : n.Is a) : Out md pfs 20 [a] (· = .bool (decide (n.i > 60000))) fun _ => False := by
  obtain ⟨t1, t2, las, rfl, _⟩ := h
  refine out_of pf20_is (Nat.le_of_ble_eq_true rfl) ?_
  simp only [pf20, ↓wpre, wall, simprocAttr]
theorem lifts_law {N : List Nd} {g : AV} (hg : GIs N g) (i b fr : Int) : Out md pfs 5 [g, .agg [.int i, .int b, .int fr]] (· = .bool true) fun _ => False := by
  have hpg := gPure hg
  obtain ⟨_, rfl, c11⟩ := awake_ret.call rfl pvs_nil
  obtain ⟨_, ⟨sm, rfl, hsm⟩, c15⟩ := (smallG_ret hg).call rfl (by simp [pvs_cons, pvs_nil, hpg])
  have hg' := hg
  obtain ⟨al, tg, rfl, k1, k2, k3⟩ := hg'
  obtain ⟨_, rfl, c19⟩ := (cont46_ret ndAgg 20 [] rfl rfl (fun n => decide (n.i > 60000)) (t := tg) k1 k3 k2 fun n _ a ha => high_ret ha).call rfl (by simp [pvs_cons, pvs_nil, pv_sl, pv_fn, k1, k3.pure fun _ _ h => ndPure h])
  refine out_of pf5_is (Nat.le_of_ble_eq_true rfl) ?_
  cases sm
  · simp only [pf5, ↓wpre, wall, simprocAttr, c15, c11]
  cases c1 : decide (fr > 60000)
  rotate_left
  · simp only [pf5, ↓wpre, wall, simprocAttr, c15, c1, c11]
  cases c2 : (N.any fun n => decide (n.i > 60000))
  rotate_left
  · simp only [pf5, ↓wpre, wall, simprocAttr, c15, c1, c19, c2, c11]
  simp only [decide_eq_false_iff_not] at c1
  have c1' : decide (fr > 60000) = false := by simpa using c1
  obtain ⟨T, hS⟩ := hsm rfl
  obtain ⟨v1, hv1, c21⟩ := (Lift_ret hS hg i b fr).call rfl (by simp [pvs_cons, pvs_nil, hpg, pv_v])
  obtain ⟨v2, hv2, c22⟩ := (rLift_ret hS hg i b fr (by omega)).call rfl (by simp [pvs_cons, pvs_nil, hpg, pv_v])
  obtain ⟨M, j, e, hall, hv1'⟩ := hv1.eq
  obtain ⟨al1, t1, rfl, q1⟩ := hv1'.eq (M := []) (j := 0) (f := 0)
  obtain ⟨al2, t2, rfl, q2⟩ := (hall _ hv2).eq (M := []) (j := 0) (f := 0)
  obtain ⟨_, rfl, c18⟩ := (rSame_ret q1 q2).call rfl (by simp [pvs_cons, pvs_nil, gPure q1, gPure q2])
  rw [decide_eq_true rfl] at c18
  have r1 : (j == j) = true := by simp
  have r2 : (e == e) = true := by simp
  simp only [pf5, ↓wpre, wall, simprocAttr, c15, c1', c19, c2, c21, c22, c18, c11, r1, r2]
theorem three {α : Type} {l : List α} (h : l.length = 3) : ∃ a b c, l = [a, b, c] := by
  match l, h with
  | [a, b, c], _ => exact ⟨a, b, c, rfl⟩
theorem oft_shift {n : Nat} {l : List AV} (h : OfT Tryd.prog n 43 l) : ∃ i b fr : Int, l = [.int i, .int b, .int fr] := by
  cases n with
  | zero => exact h.elim
  | succ n =>
    unfold OfT at h
    simp only [Tryd.underlying43] at h
    rw [if_pos (by kernel_rfl)] at h
    obtain ⟨xs, rfl, hl, hx⟩ := h
    obtain ⟨a, b, c, rfl⟩ := three hl
    obtain ⟨i, rfl, _⟩ := oft_int (hx 0 _ a rfl rfl)
    obtain ⟨j, rfl, _⟩ := oft_int (hx 1 _ b rfl rfl)
    obtain ⟨k, rfl, _⟩ := oft_int (hx 2 _ c rfl rfl)
    exact ⟨i, j, k, rfl⟩
open Go Go.Proofs Go.Proofs.YtjiheebhmokfbaaDoor
open Go.ChangeShapes Go.WideShapes Go.ChangeAt Go.RowKit
def laid50 : List (String × DataW Unit) := Rows.graphChecksRow.laid
theorem lm_tail {P : Program} {x : String × DataW Unit} {r : List (String × DataW Unit)} {w : World} (h : laidMet P (x :: r) w) : laidMet P r w := by
  obtain ⟨n, d⟩ := x
  obtain ⟨ps, ⟨g, t, cs, fuel, p, q, _, _, _, _, hq, rfl⟩, hn, hc⟩ := h
  exact ⟨q, hq, (List.nodup_append.1 hn).2.1, fun b off hm => hc b off (List.mem_append_right _ hm)⟩
theorem kn_of {W : World} (h : laidMetH Tryd.prog laid50 W) : Kn W := by
  rw [MakeChecks.laidMetH_plain _ _ _ (by kernel_rfl)] at h
  have h2 := lm_tail (lm_tail h)
  have h3 := Lib.tabIs_of_head (name := tabN) (zs := Lib.pow10Tab) (k := .u64) (g := 0) (t := 142) (e := 132) (n := 20) (by kernel_rfl) (by kernel_rfl) (by kernel_rfl) (by kernel_rfl) (by kernel_rfl) (by kernel_rfl) h2
  intro b hb
  obtain rfl : b = 0 := hb
  unfold Lib.TabIs World.var? at h3
  rw [show Tryd.prog.globalNamed tabN = some 0 from by kernel_rfl] at h3
  simp only [Option.bind_some] at h3
  split at h3
  · rename_i cs t z hh
    simp only [Option.some.injEq] at h3
    subst h3
    exact ⟨(Array.getElem?_eq_some_iff.1 hh).1, t, z, hh⟩
  · cases h3
theorem try_own : ownKnob Tryd.prog.godebug = none := by kernel_rfl
theorem try_laid : laidOutB Tryd.prog = true := by kernel_rfl
end Go.Proofs.Eng
