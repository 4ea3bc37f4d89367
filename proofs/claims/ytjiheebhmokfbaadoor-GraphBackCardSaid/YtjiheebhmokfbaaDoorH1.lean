/- Ascending lists of free variables: plain law. No conditions beyond those in the theorems. -/
import Derived.Test.YtjiheebhmokfbaaDoorF1
import Derived.Test.YtjiheebhmokfbaaDoorT3
import Derived.Test.YtjiheebhmokfbaaDoorWX
import Derived.Test.YtjiheebhmokfbaaDoorC2
import Derived.Test.YtjiheebhmokfbaaDoorG5
import Derived.Test.YtjiheebhmokfbaaDoorG4
import Derived.Test.YtjiheebhmokfbaaDoorE1
import Derived.Test.YtjiheebhmokfbaaDoorT11
set_option linter.all false
set_option linter.deprecated false
set_option linter.unnecessarySimpa false
set_option linter.unusedVariables false
set_option linter.unusedSimpArgs false
set_option linter.defProp false
namespace Go.Proofs.Eng
open Go Go.Proofs
set_option maxRecDepth 100000
set_option maxHeartbeats 16000000
theorem slice_pre {es : Nat} {al : List AV} {t : Tl} (ht : t.pure = true) {n : Nat} (hn : n ≤ al.length) : ∃ t', t'.pure = true ∧ sliceA es al t 0 n none = some (.sl (al.take n) t') := by
 unfold sliceA
 rw [if_pos ⟨Nat.zero_le _, hn⟩]
 simp only []
 by_cases h : True ∧ n = al.length
 ·rw [if_pos h]
  exact ⟨t, ht, by rw [h.2, List.take_length]⟩
 ·rw [if_neg h, List.drop_zero]
  refine ⟨_, ?_, rfl⟩
  cases t <;> simp [Tl.pure] at ht ⊢
theorem oft_int {n : Nat} {l : List AV} (h : OfT Tryd.prog n 3 l) : ∃ i, l = [.int i] ∧ in64 i := by
 cases n with
 | zero => exact h.elim
 | succ n =>
  simp only [OfT, Tryd.underlying3] at h
  obtain ⟨i, rfl, hw⟩ := h
  refine ⟨i, rfl, ?_⟩
  unfold in64
  simp [Lit.wf, IntKind.min, IntKind.max, IntKind.signed, IntKind.bits] at hw
  omega
theorem oft_str {n : Nat} {l : List AV} (h : OfT Tryd.prog n 9 l) : ∃ s, l = [.str s] ∧ s.size ≤ lenB := by
 cases n with
 | zero => exact h.elim
 | succ n =>
  simp only [OfT, Tryd.underlying9] at h
  obtain ⟨s, rfl, hw⟩ := h
  exact ⟨s, rfl, by unfold lenB; simpa [maxLen] using hw⟩
theorem oft_slice {α : Type} {R : α → AV → Prop} {n : Nat} {t e : TypeId} {l : List AV} (hu : Tryd.prog.underlying t = some (.slice e)) (hc : 0 < Tryd.prog.cellsOf e) (hR : ∀ n l, OfT Tryd.prog n e l → ∃ x, R x (mkE (isAgg Tryd.prog e) l)) (h : OfT Tryd.prog n t l) : ∃ (xs : List α) (al : List AV) (tl : Tl), l = [.sl al tl] ∧ LIs R xs al ∧ tl.pure = true ∧ al.length ≤ lenB := by
 cases n with
 | zero => exact h.elim
 | succ n =>
  simp only [OfT, hu, if_pos hc] at h
  obtain ⟨xs, tl, rfl, h1, h2, h3⟩ := h
  have key : ∀ xs : List (List AV), (∀ x ∈ xs, OfT Tryd.prog n e x) → ∃ ys : List α, LIs R ys (xs.map (mkE (isAgg Tryd.prog e))) := by
   intro xs
   induction xs with
   | nil => intro _; exact ⟨[], trivial⟩
   | cons x xs ih =>
    intro h
    obtain ⟨y, hy⟩ := hR n x (h x (by simp))
    obtain ⟨ys, hys⟩ := ih fun z hz => h z (by simp [hz])
    exact ⟨y :: ys, hy, hys⟩
  obtain ⟨ys, hys⟩ := key xs h3
  refine ⟨ys, _, tl, rfl, hys, ?_, by rw [List.length_map]; unfold lenB; simpa [maxLen] using h2⟩
  rcases h1 with rfl | ⟨rfl, _⟩ <;> rfl
theorem purify_v_inv {n : Nat} {s : ASt} {x : AV} {y : Value} (h : purify n s x = some (.v y)) : x = .v y := by
 cases n with
 | zero => rw [purify] at h; cases h
 | succ n =>
  unfold purify at h
  split at h
  ·cases h; rfl
  ·split at h
   all_goals first
    | (cases h; done)
    | (rw [Option.map_eq_some_iff] at h; obtain ⟨_, _, h⟩ := h; cases h; done)
    | skip
   split at h
   ·split at h
    ·rw [Option.map_eq_some_iff] at h; obtain ⟨_, _, h⟩ := h; cases h
    ·cases h
   ·cases h
theorem law_true {f : FuncId} {ls : List AV} (h : Out md pfs f ls (· = .bool true) fun _ => False) : ∃ s', run md pfs f ls ⟨[], []⟩ = some (.ret (.v (.bool true)), s') := by
 obtain ⟨out, s, out', h1, h2, h3⟩ := h
 cases out' with
 | pan v => exact h3.elim
 | ret v =>
  subst h3
  cases out with
  | pan w => simp [Outc.purify] at h2
  | ret w =>
   simp only [Outc.purify, Option.map_eq_some_iff] at h2
   obtain ⟨y, h2, h3⟩ := h2
   cases h3
   exact ⟨s, by rw [h1, purify_v_inv h2]⟩
theorem cells105 : 0 < Tryd.prog.cellsOf 105 := by rw [show Tryd.prog.cellsOf 105 = 2 from by kernel_rfl]; decide
theorem cells67 : 0 < Tryd.prog.cellsOf 67 := by rw [show Tryd.prog.cellsOf 67 = 2 from by kernel_rfl]; decide
theorem cells33 : 0 < Tryd.prog.cellsOf 33 := by rw [show Tryd.prog.cellsOf 33 = 5 from by kernel_rfl]; decide
theorem five {α : Type} {l : List α} (h : l.length = 5) : ∃ a b c d e, l = [a, b, c, d, e] := by
 match l, h with
 | [a, b, c, d, e], _ => exact ⟨a, b, c, d, e, rfl⟩
theorem two {α : Type} {l : List α} (h : l.length = 2) : ∃ a b, l = [a, b] := by
 match l, h with
 | [a, b], _ => exact ⟨a, b, rfl⟩
theorem oft_var {n : Nat} {l : List AV} (h : OfT Tryd.prog n 105 l) : ∃ v : Int × Int, varIs v (.agg l) := by
 cases n with
 | zero => exact h.elim
 | succ n =>
  simp only [OfT, Tryd.underlying105] at h
  rw [if_pos (by kernel_rfl)] at h
  obtain ⟨xs, rfl, hl, hx⟩ := h
  obtain ⟨a, b, rfl⟩ := two hl
  obtain ⟨i, rfl, hi⟩ := oft_int (hx 0 _ a rfl rfl)
  obtain ⟨p, rfl, hp⟩ := oft_int (hx 1 _ b rfl rfl)
  exact ⟨(i, p), rfl, hi, hp⟩
theorem oft_lv {n : Nat} {l : List AV} (h : OfT Tryd.prog n 67 l) : ∃ e : Lv, e.Is (.agg l) := by
 cases n with
 | zero => exact h.elim
 | succ n =>
  simp only [OfT, Tryd.underlying67] at h
  rw [if_pos (by kernel_rfl)] at h
  obtain ⟨xs, rfl, hl, hx⟩ := h
  obtain ⟨a, b, rfl⟩ := two hl
  obtain ⟨c, rfl, hc⟩ := oft_int (hx 0 _ a rfl rfl)
  obtain ⟨vs, al, tl, rfl, g1, g2, g3⟩ := oft_slice (R := varIs) Tryd.underlying65 cells105 (fun n l h => by
   obtain ⟨v, hv⟩ := oft_var h
   exact ⟨v, by rw [show isAgg Tryd.prog 105 = true from by kernel_rfl]; exact hv⟩) (hx 1 _ b rfl rfl)
  exact ⟨⟨c, vs⟩, tl, al, rfl, g2, hc, g3, g1⟩
theorem oft_tm : ∀ (n : Nat) (l : List AV), OfT Tryd.prog n 33 l → ∃ e : Tm, e.Is (.agg l)
 | 0, _, h => h.elim
 | 1, l, h => by
  simp only [OfT, Tryd.underlying33] at h
  rw [if_pos (by kernel_rfl)] at h
  obtain ⟨xs, rfl, hl, hx⟩ := h
  obtain ⟨a, b, c, d, e, rfl⟩ := five hl
  exact (hx 0 _ a rfl rfl).elim
 | n + 2, l, h => by
  unfold OfT at h
  simp only [Tryd.underlying33] at h
  rw [if_pos (by kernel_rfl)] at h
  obtain ⟨xs, rfl, hl, hx⟩ := h
  obtain ⟨a, b, c, d, e, rfl⟩ := five hl
  obtain ⟨k, rfl, hk⟩ := oft_int (hx 0 _ a rfl rfl)
  obtain ⟨i, rfl, hi⟩ := oft_int (hx 1 _ b rfl rfl)
  obtain ⟨nm, rfl, hn⟩ := oft_str (hx 2 _ c rfl rfl)
  obtain ⟨ls, las, t1, rfl, g1, g2, g3⟩ := oft_slice (R := Lv.Is) Tryd.underlying30 cells67 (fun n l h => by
   obtain ⟨v, hv⟩ := oft_lv h
   exact ⟨v, by rw [show isAgg Tryd.prog 67 = true from by kernel_rfl]; exact hv⟩) (hx 3 _ d rfl rfl)
  have he : OfT Tryd.prog (n + 1) 31 e := hx 4 _ e rfl rfl
  unfold OfT at he
  simp only [Tryd.underlying31] at he
  rw [if_pos cells33] at he
  obtain ⟨ys, t2, rfl, q1, q2, q3⟩ := he
  have key : ∀ ys : List (List AV), (∀ x ∈ ys, OfT Tryd.prog n 33 x) → ∃ kids : List Tm, LIs Tm.Is kids (ys.map (mkE (isAgg Tryd.prog 33))) := by
   intro ys
   induction ys with
   | nil => intro _; exact ⟨[], trivial⟩
   | cons x xs ih =>
    intro h
    obtain ⟨y, hy⟩ := oft_tm n x (h x (by simp))
    obtain ⟨ys, hys⟩ := ih fun z hz => h z (by simp [hz])
    exact ⟨y :: ys, by rw [show isAgg Tryd.prog 33 = true from by kernel_rfl]; exact hy, hys⟩
  obtain ⟨kids, hkk⟩ := key ys q3
  exact ⟨.mk k i nm ls kids, Tm.Is.mk g2 (by rcases q1 with rfl | ⟨rfl, _⟩ <;> rfl) hk hi hn g3 (by rw [List.length_map]; unfold lenB; simpa [maxLen] using q2) g1 hkk⟩
def zeroA : AV := .agg [.int 0, .int 0, .str ⟨#[]⟩, .sl [] .nil, .sl [] .nil]
def ShR (x : Tm) (b fr : Int) (v : AV) : Prop := ∃ bad : Bool, (bad = true ↔ fr < 0 ∨ b < -65536 ∨ 65536 < b) ∧ if bad = true then v = .tup [zeroA, .int 2] else if x.shE b (min fr 65536) 0 = true then v = .tup [zeroA, .int 24] else ∃ a, v = .tup [a, .int 0] ∧ (x.sh b (min fr 65536) 0).Is a
theorem ShR.bad {x : Tm} {b fr : Int} (h : fr < 0 ∨ b < -65536 ∨ 65536 < b) : ShR x b fr (.tup [zeroA, .int 2]) := ⟨true, by simp [h], by rw [if_pos rfl]⟩
theorem LiftR.eq {T : List Tm} {i b fr : Int} {v : AV} (h : LiftR T i b fr v) : ∃ (N : List Nd) (j e : Int), (∀ w, LiftR T i b fr w → GRes N j e w) ∧ GRes N j e v := by
 obtain ⟨bad, h1, h2⟩ := h
 cases bad
 ·rw [if_neg (by simp)] at h2
  obtain ⟨x, z, hx, hz, hm⟩ := h2
  obtain ⟨N, j, e, ha, hb⟩ := hm.eq
  refine ⟨N, j, e, fun w ⟨bad', k1, k2⟩ => ?_, hb⟩
  cases bad'
  ·rw [if_neg (by simp)] at k2
   obtain ⟨x', z', hx', hz', hm'⟩ := k2
   rw [hx] at hx'; cases hx'
   rw [hz] at hz'; cases hz'
   exact ha w hm'
  ·have := h1.2 (k1.1 rfl); cases this
 ·rw [if_pos rfl] at h2
  refine ⟨_, _, _, fun w ⟨bad', k1, k2⟩ => ?_, h2⟩
  cases bad'
  ·have := k1.2 (h1.1 rfl); cases this
  ·rw [if_pos rfl] at k2; exact k2
structure ArrP (n : Nat) (f : Nat → Int) (L : List Int) : Prop where
 len : L.length = n
 get : ∀ m, m < n → L[m]? = some (f m)
theorem ArrP.set {n : Nat} {f : Nat → Int} {L : List Int} (h : ArrP n f L) (i : Nat) (v : Int) : ArrP n (fun m => if m = i then v else f m) (L.set i v) :=
 ⟨by rw [List.length_set, h.len], fun m hm => by
  rw [List.getElem?_set]
  split
  ·rename_i e; subst e; rw [if_pos (by rw [h.len]; exact hm), if_pos rfl]
  ·rename_i e; rw [if_neg (Ne.symm e)]; exact h.get m hm⟩
theorem ArrP.ext {n : Nat} {f g : Nat → Int} {L : List Int} (h : ArrP n f L) (k : ∀ m, m < n → f m = g m) : ArrP n g L := ⟨h.len, fun m hm => by rw [h.get m hm, k m hm]⟩
theorem ArrP.head {n : Nat} {f : Nat → Int} {L : List Int} (h : ArrP n f L) {m : Nat} (hm : m < n) : ((ints L).drop m).head? = some (.int (f m)) := by
 rw [List.head?_drop, ints, List.getElem?_map, h.get m hm]; rfl
theorem ints_set (L : List Int) {i : Nat} (v : Int) (h : i < L.length) : (ints L).take i ++ [AV.v (.int .i64 v)] ++ (ints L).drop (i + 1) = ints (L.set i v) := by
 rw [List.set_eq_take_append_cons_drop, if_pos h]; simp [ints]
def szF (T : List Tm) (i m : Nat) : Int := if m < i then min ((T.getD m (vr 0)).sz : Int) 4097 else 0
def dpF (T : List Tm) (i m : Nat) : Int := if m < i then ((T.getD m (vr 0)).dp : Int) else 0
def TermR (x : Tm) (v : AV) : Prop := if 4096 < x.sz then v = .tup [zeroA, .int 5] else if 200 < x.dp then v = .tup [zeroA, .int 7] else ∃ a, v = .tup [a, .int 0] ∧ x.Is a
def TermG (T : List Tm) (i : Int) (v : AV) : Prop := if 0 ≤ i ∧ i < T.length then ∃ x, T[i.toNat]? = some x ∧ TermR x v else v = .tup [zeroA, .int 2]
theorem Term_ret {T : List Tm} (hG : GT T) (hT : T.length ≤ 1000) {g : AV} (hg : GIs (nodesOf T) g) (i : Int) : Out md pfs 29 [g, .int i] (TermG T i) fun _ => False := by
  have hpg := gPure hg
  obtain ⟨al, tg, rfl, k1, k2, k3⟩ := id hg
  have hln := k3.len
  rw [nodes_len] at hln
  refine out_of pf29_is (Nat.le_of_ble_eq_true rfl) ?_
  cases d1 : decide (i < 0)
  rotate_left
  · simp only [pf29, ↓wpre, wall, simprocAttr, d1]
    rw [TermG, if_neg (by simp only [decide_eq_true_eq] at d1; omega)]; rfl
  simp only [decide_eq_false_iff_not] at d1
  have d1' : decide (i < 0) = false := by simpa using d1
  cases d2 : decide (i ≥ al.length)
  rotate_left
  · simp only [pf29, ↓wpre, wall, simprocAttr, d1', d2]
    rw [TermG, if_neg (by simp only [decide_eq_true_eq] at d2; omega)]; rfl
  simp only [decide_eq_false_iff_not] at d2
  have d2' : decide (i ≥ al.length) = false := by simpa using d2
  obtain ⟨n, rfl⟩ := Int.eq_ofNat_of_zero_le (show 0 ≤ i from by omega)
  have hn : n < T.length := by omega
  obtain ⟨N, hN⟩ : ∃ N, N = n + 1 := ⟨_, rfl⟩
  have w24 : IntKind.i64.wrap ((n : Int) + 1) = (N : Int) := by rw [wrap_in (by unfold in64; omega)]; omega
  obtain ⟨t', ht', hsl⟩ := slice_pre (es := 5) k1 (n := N) (al := al) (by omega)
  have hall := k3.all ndAgg
  have hcn : ((N : Int) ≤ (al.length : Int)) = True := eq_true (by omega)
  have hcm : ((N : Int) ≤ 1073741824) = True := eq_true (by omega)
  have hrp : flat (List.replicate N (AV.v (.int .i64 0))) = ints (List.replicate N 0) := flat_rep _
  have hlt' : (al.take N).length = N := by rw [List.length_take]; omega
  have hz1 : ArrP N (szF T 0) (List.replicate N 0) := ⟨by simp, fun m hm => by rw [List.getElem?_replicate, if_pos hm, szF, if_neg (by omega)]⟩
  have hz2 : ArrP N (dpF T 0) (List.replicate N 0) := ⟨by simp, fun m hm => by rw [List.getElem?_replicate, if_pos hm, dpF, if_neg (by omega)]⟩
  have hkt := k3.take N
  have hktl := hkt.all ndAgg
  simp only [pf29, ↓wpre, wall, simprocAttr, d1', d2', w24, hcm, hcn, hrp, hsl, hall, hlt', Int.toNat_natCast, List.getLast?_cons_cons, List.getLast?_singleton, List.dropLast_cons_cons, List.dropLast_singleton, M1_t, M1_f, M3_some, M3_ite, JW_f, JW_t, kz_mksl]
  refine W_loopE (fun i => N - i) (fun i E H V => ∃ S D G, H = .cells false [.sl al tg] :: .cells false [.int 0, .int 0, .str ⟨#[]⟩, .sl [] .nil, .sl [] .nil] :: .cells false (ints S) :: .cells false (ints D) :: G ∧ ArrP N (szF T i) S ∧ ArrP N (dpF T i) D ∧ E 1 = .int (n : Nat) ∧ E 2 = .ptr 0 0 ∧ E 4 = .ptr 1 0 ∧ E 5 = .int 0 ∧ E 6 = .bs 2 0 N 1 false ∧ E 7 = .bs 3 0 N 1 false ∧ E 33 = .sl (al.take N) t' ∧ E 34 = .int (N : Nat) ∧ E 35 = .int (i : Nat) ∧ i ≤ N) ?_ 0 ⟨_, _, [], rfl, hz1, hz2, rfl, rfl, rfl, rfl, rfl, rfl, rfl, rfl, rfl, Nat.zero_le _⟩
  rintro i E H V ⟨S, D, G, rfl, hS, hD, e1, e2, e4, e5, e6, e7, e33, e34, e35, hi⟩
  have hSl := hS.len
  have hDl := hD.len
  rcases Nat.lt_or_ge i N with hlt | hge
  · have hdec : decide ((i : Int) < (N : Nat)) = true := by simp only [decide_eq_true_eq]; omega
    obtain ⟨x, hx⟩ : ∃ x, T[i]? = some x := ⟨T[i]'(by omega), List.getElem?_eq_getElem _⟩
    obtain ⟨hgk, _, _⟩ := good_at hG hx
    obtain ⟨nd, c, b0, b2, b3, b4, b5, b6, b7, b8⟩ := hkt.get ndAgg (i := i) (by omega)
    have hnd : nd = ndOf T x := by
      rw [List.getElem?_take, if_pos hlt, nodesOf, List.getElem?_map, hx] at b0
      exact (Option.some.inj b0).symm
    subst hnd
    obtain ⟨k, ix, nm, ls, kids⟩ := x
    have hrx := hG.right _ (List.mem_of_getElem? hx)
    have hk3 : kids.length ≤ 3 := by
      have h1 := (right_facts hrx).1.kids
      simp only [Tm.k, Tm.kids] at h1
      have : kidsN k ≤ 3 := by unfold kidsN; repeat' split
                               all_goals omega
      omega
    obtain ⟨t1, t2, las, hcc, _, _, _, _, _, _, hkl8, _, _⟩ := b8
    simp only [AV.agg.injEq] at hcc; subst hcc
    have hkl : (ndOf T (.mk k ix nm ls kids)).kids.length = kids.length := by simp [ndOf, Tm.kids]
    have hkg : ∀ (j : Nat) (y : Tm), kids[j]? = some y → (ndOf T (.mk k ix nm ls kids)).kids[j]? = some ((T.idxOf y : Nat) : Int) := fun j y hy => by simp [ndOf, Tm.kids, hy]
    have hgx : T.getD i (vr 0) = .mk k ix nm ls kids := by simp [List.getD, hx]
    generalize (ndOf T (.mk k ix nm ls kids)).kids = ks at *
    generalize (ndOf T (.mk k ix nm ls kids)).k = k0 at *
    generalize (ndOf T (.mk k ix nm ls kids)).i = i0 at *
    generalize (ndOf T (.mk k ix nm ls kids)).n = n0 at *
    have hia := ints_all ks
    have b5' : List.take 5 [AV.int k0, .int i0, .str n0, .sl las t1, .sl (ints ks) t2] = [AV.int k0, .int i0, .str n0, .sl las t1, .sl (ints ks) t2] := rfl
    have hs1 := ints_set S (i := i) 1 (by omega)
    have hc1 : (i + 1 ≤ (ints S).length) = True := eq_true (by rw [ints_len]; omega)
    have hlI : ((i : Int) < (N : Nat)) = True := eq_true (by omega)
    simp only [↓wpre, wall, simprocAttr, List.length_append, List.append_assoc, app_get_len, app_get_add, app_set_len, app_set_add, e1, e2, e4, e5, e6, e7, e33, e34, e35, hdec, b4, b5', hktl, hlI, hc1, hs1, Nat.zero_add, Nat.mul_one, ints_len]
    have hS1 := (hS.set i 1).ext (g := fun m => if m = i then min ((1 + tszL (kids.take 0) : Nat) : Int) 4097 else szF T i m) fun m hm => by simp only [List.take_zero, tszL]; split <;> rfl
    have hD1 := hD.ext (g := fun m => if m = i then ((tdpL (kids.take 0) : Nat) : Int) else dpF T i m) fun m hm => by
      split
      · rename_i e; rw [e, dpF, if_neg (by omega)]; simp [tdpL]
      · rfl
    refine ⟨by omega, ?_⟩
    refine W_loopE (fun j => ks.length - j) (fun j E H V => ∃ S D, H = .cells false [.sl al tg] :: .cells false [.int 0, .int 0, .str ⟨#[]⟩, .sl [] .nil, .sl [] .nil] :: .cells false (ints S) :: .cells false (ints D) :: (G ++ [.cells false [.int k0, .int i0, .str n0, .sl las t1, .sl (ints ks) t2]]) ∧ ArrP N (fun m => if m = i then min ((1 + tszL (kids.take j) : Nat) : Int) 4097 else szF T i m) S ∧ ArrP N (fun m => if m = i then ((tdpL (kids.take j) : Nat) : Int) else dpF T i m) D ∧ E 1 = .int (n : Nat) ∧ E 2 = .ptr 0 0 ∧ E 4 = .ptr 1 0 ∧ E 5 = .int 0 ∧ E 6 = .bs 2 0 N 1 false ∧ E 7 = .bs 3 0 N 1 false ∧ E 8 = .int (i : Nat) ∧ E 33 = .sl (al.take N) t' ∧ E 34 = .int (N : Nat) ∧ E 35 = .int (i : Nat) ∧ E 44 = .sl (ints ks) t2 ∧ E 45 = .int (ks.length : Nat) ∧ E 46 = .int (j : Nat) ∧ j ≤ ks.length) ?_ 0 ⟨_, _, rfl, hS1, hD1, e1, e2, e4, e5, e6, e7, rfl, e33, e34, e35, rfl, rfl, rfl, Nat.zero_le _⟩
    clear hS1 hD1 e1 e2 e4 e5 e6 e7 e33 e34 e35 hs1 hc1 hSl hDl hS hD S D E V
    rintro j E H V ⟨S, D, rfl, hS, hD, e1, e2, e4, e5, e6, e7, e8, e33, e34, e35, e44, e45, e46, hj⟩
    have hSl := hS.len
    have hDl := hD.len
    have hSi : ((ints S).drop i).head? = some (.int (min ((1 + tszL (kids.take j) : Nat) : Int) 4097)) := by have := hS.head hlt; simpa using this
    have hDi : ((ints D).drop i).head? = some (.int ((tdpL (kids.take j) : Nat) : Int)) := by have := hD.head hlt; simpa using this
    have hc1 : (i + 1 ≤ S.length) = True := eq_true (by omega)
    have hc2 : (i + 1 ≤ D.length) = True := eq_true (by omega)
    rcases Nat.lt_or_ge j ks.length with hjl | hjg
    · have hdec2 : decide ((j : Int) < ks.length) = true := by simpa using hjl
      obtain ⟨y, hy⟩ : ∃ y, kids[j]? = some y := ⟨kids[j]'(by omega), List.getElem?_eq_getElem _⟩
      obtain ⟨z, z0, z1, z2⟩ := ints_get hjl
      have hz : z = (T.idxOf y : Nat) := by
        have := hkg j y hy
        rw [this] at z0
        exact (Option.some.inj z0).symm
      subst hz
      have hym := List.mem_of_getElem? hy
      have hyT := hgk y hym
      have hyi : T.idxOf y < i := by
        have h1 := List.idxOf_lt_length_of_mem hyT
        rw [List.length_take] at h1
        have h2 := idx_app hyT (T.drop i)
        rw [List.take_append_drop] at h2
        omega
      have hyd : T.getD (T.idxOf y) (vr 0) = y := by
        have h3 : T.idxOf y < T.length := by omega
        rw [getD_at h3, List.getElem_idxOf]
      obtain ⟨s1, s2⟩ := tsz_split hy
      obtain ⟨p1, p2⟩ := tdp_split hy
      have hSq : ((ints S).drop (T.idxOf y)).head? = some (.int (min (y.sz : Int) 4097)) := by
        have := hS.head (m := T.idxOf y) (by omega)
        rw [this, if_neg (by omega), szF, if_pos hyi, hyd]
      have hDq : ((ints D).drop (T.idxOf y)).head? = some (.int (y.dp : Int)) := by
        have := hD.head (m := T.idxOf y) (by omega)
        rw [this, if_neg (by omega), dpF, if_pos hyi, hyd]
      have w60 : IntKind.i64.wrap (min ((1 + tszL (kids.take j) : Nat) : Int) 4097 + min (y.sz : Int) 4097) = min ((1 + tszL (kids.take j) : Nat) : Int) 4097 + min (y.sz : Int) 4097 := wrap_in (by unfold in64; omega)
      have w61 : (if (4097 : Int) < min ((1 + tszL (kids.take j) : Nat) : Int) 4097 + min (y.sz : Int) 4097 then 4097 else min ((1 + tszL (kids.take j) : Nat) : Int) 4097 + min (y.sz : Int) 4097) = min ((1 + tszL (kids.take (j + 1)) : Nat) : Int) 4097 := by
        rw [s1]; split <;> omega
      have w73 := i_max (tdpL (kids.take j)) y.dp
      rw [← p1] at w73
      have hs1 := ints_set S (i := i) (min ((1 + tszL (kids.take (j + 1)) : Nat) : Int) 4097) (by omega)
      have hs2 := ints_set D (i := i) ((tdpL (kids.take (j + 1)) : Nat) : Int) (by omega)
      have hqI : ((T.idxOf y : Int) < (N : Nat)) = True := eq_true (by omega)
      simp only [↓wpre, wall, simprocAttr, List.length_append, List.append_assoc, app_get_len, app_get_add, app_set_len, app_set_add, e1, e2, e4, e5, e6, e7, e8, e33, e34, e35, e44, e45, e46, hdec2, z2, hia, hlI, hqI, hSi, hSq, hDi, hDq, w60, w61, w73, hs1, hs2, hc1, hc2, Nat.zero_add, Nat.mul_one, ints_len]
      exact EQ_in ⟨j + 1, by omega, _, _, rfl, (hS.set i _).ext fun m hm => by split <;> rfl, (hD.set i _).ext fun m hm => by split <;> rfl, e1, e2, e4, e5, e6, e7, e8, e33, e34, e35, e44, e45, next_ixv (by omega), by omega⟩
    · have hdec2 : decide ((j : Int) < ks.length) = false := by simpa using hjg
      obtain rfl : j = ks.length := by omega
      rw [List.take_of_length_le (by omega)] at hS hD hSi hDi
      have hdpx : tdpL kids ≤ 1000 := by
        have := good_dp hG.good _ (List.mem_of_getElem? hx)
        rw [Tm.dp] at this; omega
      have w80 : IntKind.i64.wrap (((tdpL kids : Nat) : Int) + 1) = ((tdpL kids + 1 : Nat) : Int) := by rw [wrap_in (by unfold in64; omega)]; omega
      have hs2 := ints_set D (i := i) ((tdpL kids + 1 : Nat) : Int) (by omega)
      simp only [↓wpre, wall, simprocAttr, List.length_append, List.append_assoc, app_get_len, app_get_add, app_set_len, app_set_add, e1, e2, e4, e5, e6, e7, e8, e33, e34, e35, e44, e45, e46, hdec2, hlI, hDi, w80, hs2, hc2, Nat.zero_add, Nat.mul_one, ints_len]
      refine EQ_in ⟨i + 1, by omega, _, _, _, rfl, hS.ext fun m hm => ?_, (hD.set i _).ext fun m hm => ?_, e1, e2, e4, e5, e6, e7, e33, e34, next_ixv (by omega), by omega⟩
      · show (if m = i then _ else (if m < i then _ else _)) = (if m < i + 1 then min ((T.getD m (vr 0)).sz : Int) 4097 else 0)
        by_cases e : m = i
        · rw [if_pos e, if_pos (by omega), e, hgx, Tm.sz]
        · rw [if_neg e]
          by_cases e2 : m < i
          · rw [if_pos e2, if_pos (by omega)]
          · rw [if_neg e2, if_neg (by omega)]
      · show (if m = i then _ else (if m = i then _ else (if m < i then _ else _))) = (if m < i + 1 then ((T.getD m (vr 0)).dp : Int) else 0)
        by_cases e : m = i
        · rw [if_pos e, if_pos (by omega), e, hgx, Tm.dp]
        · rw [if_neg e, if_neg e]
          by_cases e2 : m < i
          · rw [if_pos e2, if_pos (by omega)]
          · rw [if_neg e2, if_neg (by omega)]
  · have hdec : decide ((i : Int) < (N : Nat)) = false := by simp only [decide_eq_false_iff_not]; omega
    obtain rfl : i = N := by omega
    obtain ⟨x, hx⟩ : ∃ x, T[n]? = some x := ⟨T[n]'(by omega), List.getElem?_eq_getElem _⟩
    have hxT := List.mem_of_getElem? hx
    have hgx : T.getD n (vr 0) = x := by simp [List.getD, hx]
    have hin : T.idxOf x = n := by
      obtain ⟨_, hnm, _⟩ := good_at hG hx
      exact (idx_first hx fun y hy e => hnm (by rw [← e]; exact hy)).2
    have hSn : ((ints S).drop n).head? = some (.int (min (x.sz : Int) 4097)) := by
      rw [hS.head (m := n) (by omega), szF, if_pos (by omega), hgx]
    have hDn : ((ints D).drop n).head? = some (.int (x.dp : Int)) := by
      rw [hD.head (m := n) (by omega), dpF, if_pos (by omega), hgx]
    have hnI : ((n : Int) < (i : Nat)) = True := eq_true (by omega)
    have hres : ∀ v, TermR x v → TermG T (n : Nat) v := fun v h => by rw [TermG, if_pos ⟨by omega, by omega⟩]; exact ⟨x, by rw [Int.toNat_natCast]; exact hx, h⟩
    cases c1 : decide (min (x.sz : Int) 4097 > 4096)
    rotate_left
    · simp only [↓wpre, wall, simprocAttr, List.length_append, List.append_assoc, app_get_len, app_get_add, app_set_len, app_set_add, e1, e2, e4, e5, e6, e7, e33, e34, e35, hdec, hnI, hSn, c1, Nat.zero_add, Nat.mul_one]
      refine hres _ ?_
      rw [TermR, if_pos (by simp only [decide_eq_true_eq] at c1; omega)]; rfl
    cases c2 : decide ((x.dp : Int) > 200)
    rotate_left
    · simp only [↓wpre, wall, simprocAttr, List.length_append, List.append_assoc, app_get_len, app_get_add, app_set_len, app_set_add, e1, e2, e4, e5, e6, e7, e33, e34, e35, hdec, hnI, hSn, hDn, c1, c2, Nat.zero_add, Nat.mul_one]
      refine hres _ ?_
      rw [TermR, if_neg (by simp only [decide_eq_false_iff_not] at c1; omega), if_pos (by simp only [decide_eq_true_eq] at c2; omega)]; rfl
    obtain ⟨v, _, ⟨hv, H', V', rfl, r1, r2, r3, r4⟩, c59⟩ := (gunf_sh hG hg (gi := 0) (ci := G.length + 4) x (H := .cells false [.sl al tg] :: .cells false [.int 0, .int 0, .str ⟨#[]⟩, .sl [] .nil, .sl [] .nil] :: .cells false (ints S) :: .cells false (ints D) :: (G ++ [.cells false [.fn 59 [.ptr 0 0, .ptr (G.length + 4) 0]]])) (V := V) hxT rfl (by simp)).callRet rfl
    rw [hin] at c59
    obtain ⟨cv, rfl, l1, l2, l3⟩ := tmCells hv
    have hpv := tmPure _ hv
    have hz : H'[1]? = some (.cells false [.int 0, .int 0, .str ⟨#[]⟩, .sl [] .nil, .sl [] .nil]) := by rw [r2 1 (by simp)]; rfl
    have hpp : ∀ (s : ASt), purify 1019 s (.agg cv) = some (.agg cv) := fun s => purify_pure hpv
    simp only [↓wpre, wall, simprocAttr, List.length_append, List.append_assoc, app_get_len, app_get_add, app_set_len, app_set_add, e1, e2, e4, e5, e6, e7, e33, e34, e35, hdec, hnI, hSn, hDn, c1, c2, Nat.zero_add, Nat.mul_one, c59, l1, l2, l3, hz, get_set hz, hpp]
    refine hres _ ?_
    rw [TermR, if_neg (by simp only [decide_eq_false_iff_not] at c1; omega), if_neg (by simp only [decide_eq_false_iff_not] at c2; omega)]
    exact ⟨_, rfl, hv⟩
def lstI (l : List Int) : Int := match l.getLast? with
 | none => 0
 | some x => x + 1
def maxL (l : List Int) : Prop := ∀ y ∈ l, y + 1 ≤ lstI l
structure AddP (l : List Int) (n : Int) (r : List Int) : Prop where
 mx : maxL r
 lst : lstI r = max (lstI l) (n + 1)
 len : r.length ≤ l.length + 1
 mem : ∀ y ∈ r, y ∈ l ∨ y = n
theorem AddP.same {l : List Int} {n : Int} (h : maxL l) (hn : n ∈ l) : AddP l n l := ⟨h, by have := h n hn; omega, by omega, fun _ h => .inl h⟩
structure InsP (l : List Int) (n : Int) (done : Bool) (r : List Int) : Prop where
 nin : n ∉ l
 dn : done = true ↔ ∃ x ∈ l, n < x
 no : done = false → r = l
 yes : done = true → r.getLast? = l.getLast? ∧ r.length = l.length + 1 ∧ ∀ y ∈ r, y ∈ l ∨ y = n
theorem InsP.nil (n : Int) : InsP [] n false [] := ⟨by simp, by simp, fun _ => rfl, fun h => by cases h⟩
theorem InsP.put {l r : List Int} {n x : Int} (h : InsP l n false r) (hx : n < x) : InsP (l ++ [x]) n true (r ++ [n] ++ [x]) := by
 have := h.no rfl
 subst this
 have hni : n ∉ r ++ [x] := by
  intro hm
  rcases List.mem_append.1 hm with hm | hm
  ·exact h.nin hm
  ·have := List.mem_singleton.1 hm; omega
 refine ⟨hni, ⟨fun _ => ⟨x, by simp, hx⟩, fun _ => rfl⟩, fun e => (by cases e), fun _ => ⟨by simp, by simp, fun y hy => ?_⟩⟩
 simp only [List.mem_append, List.mem_singleton] at hy ⊢
 rcases hy with (hy | hy) | hy
 ·exact .inl (.inl hy)
 ·exact .inr hy
 ·exact .inl (.inr hy)
theorem InsP.fin {l r : List Int} {n : Int} (h : InsP l n true r) (hl : maxL l) : AddP l n r := by
 obtain ⟨a, b, c⟩ := h.yes rfl
 obtain ⟨x, hx, hnx⟩ := h.dn.1 rfl
 have e : lstI r = lstI l := by rw [lstI, lstI, a]
 have := hl x hx
 refine ⟨fun y hy => ?_, by omega, by omega, c⟩
 rw [e]
 rcases c y hy with h | h
 ·exact hl y h
 ·omega
structure FreeP (l : List Int) (m : Nat) (s : Nat) (r : List Int) : Prop where
 mx : maxL r
 lst : lstI r = max (lstI l) (m : Nat)
 len : r.length ≤ l.length + s
 rng : ∀ y ∈ r, 0 ≤ y ∧ y ≤ 2147483647
theorem FreeP.trans {l r q : List Int} {m m' s s' : Nat} (h : FreeP l m s r) (h' : FreeP r m' s' q) : FreeP l (max m m') (s + s') q :=
 ⟨h'.mx, by have := h.lst; have := h'.lst; omega, by have := h.len; have := h'.len; omega, h'.rng⟩
end Go.Proofs.Eng
