/- What the rows' list of laid variables gives. No conditions beyond those in the theorems. -/
import Derived.Test.YtjiheebhmokfbaaDoorH1
import Derived.Test.YtjiheebhmokfbaaDoorE1
import Derived.Test.YtjiheebhmokfbaaDoorF1
import Derived.Test.YtjiheebhmokfbaaDoorC7
import Derived.Test.YtjiheebhmokfbaaDoorT15
import Derived.Test.YtjiheebhmokfbaaDoorRows
import Derived.Lib.LaidTab
import Derived.Lay
import Derived.MakeChecks
import Derived.ProofKit
set_option linter.all false
set_option linter.deprecated false
set_option linter.unnecessarySimpa false
set_option linter.unusedVariables false
set_option linter.unusedSimpArgs false
set_option linter.defProp false
namespace Go.Proofs.Eng
open Go Go.Proofs
set_option maxRecDepth 100000
set_option maxHeartbeats 16000000
theorem zeroIs : (vr 0).Is zeroA := vrIs (by omega) (by omega)
theorem TermG.eq {T : List Tm} {i : Int} {v : AV} (h : TermG T i v) : ∃ (t : Tm) (e : Int), (∀ w, TermG T i w → ∃ a, w = .tup [a, .int e] ∧ t.Is a) ∧ ((0 ≤ i ∧ i < T.length ∧ e ≠ 2 ∧ (e = 0 → T[i.toNat]? = some t ∧ t.sz ≤ 4096)) ∨ (¬ (0 ≤ i ∧ i < T.length) ∧ e = 2)) := by
 unfold TermG at h ⊢
 by_cases hin : 0 ≤ i ∧ i < T.length
 ·rw [if_pos hin] at h
  obtain ⟨x, hx, hR⟩ := h
  have key : ∀ (P : AV → Prop), (∀ w, TermR x w → P w) → ∀ w, (∃ y, T[i.toNat]? = some y ∧ TermR y w) → P w := fun P hP w ⟨y, hy, hw⟩ => by
   rw [hx] at hy; cases hy; exact hP w hw
  simp only [if_pos hin]
  by_cases h1 : 4096 < x.sz
  ·exact ⟨vr 0, 5, key _ fun w hw => by rw [TermR, if_pos h1] at hw; exact ⟨_, hw, zeroIs⟩, .inl ⟨hin.1, hin.2, by omega, by omega⟩⟩
  ·by_cases h2 : 200 < x.dp
   ·exact ⟨vr 0, 7, key _ fun w hw => by rw [TermR, if_neg h1, if_pos h2] at hw; exact ⟨_, hw, zeroIs⟩, .inl ⟨hin.1, hin.2, by omega, by omega⟩⟩
   ·exact ⟨x, 0, key _ fun w hw => by rw [TermR, if_neg h1, if_neg h2] at hw; exact hw, .inl ⟨hin.1, hin.2, by omega, fun _ => ⟨hx, by omega⟩⟩⟩
 ·simp only [if_neg hin]
  exact ⟨vr 0, 2, fun w hw => ⟨_, hw, zeroIs⟩, .inr ⟨hin, rfl⟩⟩
theorem gt_nil : GT [] := ⟨.nil, by simp⟩
theorem subsL_app {a b : List Tm} : subsL (a ++ b) = subsL a ++ subsL b := by
 induction a with
 | nil => simp [subsL]
 | cons x a ih => simp only [List.cons_append, subsL, ih, List.append_assoc]
theorem tszL_app {a b : List Tm} : tszL (a ++ b) = tszL a + tszL b := by
 induction a with
 | nil => simp [tszL]
 | cons x a ih => simp only [List.cons_append, tszL, ih, Nat.add_assoc]
theorem len_tszL : ∀ (l : List Tm), l.length ≤ tszL l
 | [] => by simp
 | x :: l => by
  have := len_tszL l
  obtain ⟨k, i, n, ls, kids⟩ := x
  simp only [tszL, Tm.sz, List.length_cons]; omega
structure Queue (l all todo : List Tm) : Prop where
 nd : all.Nodup
 mem : ∀ x, (x ∈ all ∨ x ∈ subsL todo) ↔ x ∈ subsL l
 sz : tszL todo ≤ tszL l
theorem Queue.start (l : List Tm) : Queue l [] l := ⟨List.nodup_nil, fun x => by simp, Nat.le_refl _⟩
theorem Queue.next {l all r : List Tm} {t : Tm} (h : Queue l all (t :: r)) : Queue l (if t ∈ all then all else all ++ [t]) (r ++ t.kids) ∧ tszL (r ++ t.kids) < tszL (t :: r) := by
 obtain ⟨k, i, n, ls, kids⟩ := t
 have hs : tszL (r ++ kids) < tszL (Tm.mk k i n ls kids :: r) := by rw [tszL_app, tszL, Tm.sz]; omega
 refine ⟨⟨?_, fun x => ?_, ?_⟩, hs⟩
 ·split
  ·exact h.nd
  ·rename_i hn
   rw [List.nodup_append]
   refine ⟨h.nd, by simp, fun a ha b hb => ?_⟩
   simp at hb; subst hb; rintro rfl; exact hn ha
 ·rw [← h.mem x, subsL_app, subsL, Tm.subs]
  show _ ∨ x ∈ subsL r ++ subsL kids ↔ _
  simp only [List.mem_append, List.mem_cons]
  split
  ·rename_i hm
   constructor
   ·rintro (h1 | h1 | h1) <;> simp [h1]
   ·rintro (h1 | (rfl | h1) | h1)
    ·exact .inl h1
    ·exact .inl hm
    ·exact .inr (.inr h1)
    ·exact .inr (.inl h1)
  ·simp only [List.mem_append, List.mem_singleton]
   constructor
   ·rintro ((h1 | h1) | h1 | h1) <;> simp [h1]
   ·rintro (h1 | (h1 | h1) | h1) <;> simp [h1]
 ·have := h.sz; show tszL (r ++ kids) ≤ _; omega
theorem Queue.len {l all todo : List Tm} (h : Queue l all todo) : all.length ≤ tszL l := by
 have key : ∀ t : Tm, t.subs.length = t.sz := by
  intro t
  induction t using Tm.ind with
  | h k i n ls kids ih =>
   have : ∀ m : List Tm, (∀ x ∈ m, x ∈ kids) → (subsL m).length = tszL m := by
    intro m
    induction m with
    | nil => intro _; simp [subsL, tszL]
    | cons x m ihm =>
     intro hm
     rw [subsL, tszL, List.length_append, ih x (hm x (by simp)), ihm fun y hy => hm y (by simp [hy])]
   rw [Tm.subs, Tm.sz, List.length_cons, this kids fun _ h => h]; omega
 have hL : ∀ m : List Tm, (subsL m).length = tszL m := by
  intro m
  induction m with
  | nil => simp [subsL, tszL]
  | cons x m ihm => rw [subsL, tszL, List.length_append, key x, ihm]
 have := nodup_len h.nd fun x hx => (h.mem x).1 (.inl hx)
 rw [hL] at this; exact this
theorem Queue.done {l all : List Tm} (h : Queue l all []) (ha : allRL l = true) : (enterL [] l).length = all.length := by
 obtain ⟨ok, _⟩ := table_ok ha
 refine nodup_eq ok.good.nodup h.nd fun x => ?_
 rw [ok.mem x, ← h.mem x]; simp [subsL]
def TlQ (i : Nat) (T : List Nat) (t : Tl) : Prop := ∃ v, T[i]? = some v ∧ (t = .tl i v ∨ t = .tls i v 5)
def AllQ (i : Nat) (T : List Nat) (l : List AV) (t : Tl) : Prop := (l = [] ∧ t = .nil) ∨ (l ≠ [] ∧ ∃ id v, t = .tl id v ∧ T[id]? = some v ∧ id ≠ i)
theorem TlQ.slice {i : Nat} {T : List Nat} {t : Tl} {l : List AV} (h : TlQ i T t) (hl : 0 < l.length) : ∃ v, T[i]? = some v ∧ sliceA 5 l t 1 l.length none = some (.sl (l.drop 1) (.tls i v 5)) := by
 have h1 : 1 ≤ l.length := hl
 obtain ⟨v, hv, rfl | rfl⟩ := h
 ·refine ⟨v, hv, ?_⟩
  rw [sliceA, if_pos ⟨h1, Nat.le_refl _⟩]
  simp
 ·refine ⟨v, hv, ?_⟩
  rw [sliceA, if_pos ⟨h1, Nat.le_refl _⟩]
  simp
theorem AllQ.keep {i : Nat} {T T' : List Nat} {l : List AV} {t : Tl} (h : AllQ i T l t) (hk : ∀ j, j ≠ i → T'[j]? = T[j]?) : AllQ i T' l t := by
 rcases h with h | ⟨h1, id, v, h2, h3, h4⟩
 ·exact .inl h
 ·exact .inr ⟨h1, id, v, h2, by rw [hk id h4]; exact h3, h4⟩
theorem AllQ.one {i : Nat} {T : List Nat} {l : List AV} {t tq : Tl} {x : AV} (h : AllQ i T l t) (hq : TlQ i T tq) (hl : l.length < capB) (ha : (l.all fun x => x.cells.length == 5) = true) (hx : x.cells.length = 5) (ho : x.cells.all oneCell = true) :
  ∃ t' T', (∀ H, appA ⟨H, T⟩ 5 none l t [x] = some (.sl (l ++ [x]) t', ⟨H, T'⟩)) ∧ AllQ i T' (l ++ [x]) t' ∧ TlQ i T' tq := by
 have hn' : l.length + 1 ≤ 1073741824 := by unfold capB at hl; omega
 obtain ⟨v, hv, hq⟩ := hq
 have hi : i < T.length := (List.getElem?_eq_some_iff.1 hv).1
 rcases h with ⟨rfl, rfl⟩ | ⟨hne, id, ver, rfl, hT, hid⟩
 ·refine ⟨.tl T.length 0, T ++ [0], fun H => ?_, .inr ⟨by simp, _, _, rfl, by simp, by omega⟩, v, by rw [List.getElem?_append_left hi]; exact hv, hq⟩
  simp [appA, hx]
  simpa using ho
 ·have : id < T.length := (List.getElem?_eq_some_iff.1 hT).1
  refine ⟨.tl id (ver + 1), T.set id (ver + 1), fun H => ?_, .inr ⟨by simp, _, _, rfl, by simp [List.getElem?_set, this], hid⟩, v, by rw [List.getElem?_set_ne hid]; exact hv, hq⟩
  simp only [appA, List.length_cons, List.length_nil, hT, ha, hx, List.all_cons, List.all_nil, ho, beq_self_eq_true, Bool.and_self]
  simp [hn', hne]
theorem slice3 {l : List AV} (t : Tl) (h : 0 < l.length) : ∃ t', (t' = .cap (l.length - 1) ∨ t' = .lim (l.length - 1)) ∧ sliceA 5 l t 1 l.length (some l.length) = some (.sl (l.drop 1) t') := by
 have h1 : 1 ≤ l.length := h
 unfold sliceA
 rw [if_pos ⟨h1, Nat.le_refl _⟩]
 simp only [Nat.le_refl, and_self, if_true, List.take_length]
 cases t with
 | cap c => exact ⟨_, .inl rfl, rfl⟩
 | al => exact ⟨_, .inl rfl, rfl⟩
 | nil => exact ⟨_, .inl rfl, rfl⟩
 | _ => exact ⟨_, .inr rfl, rfl⟩
theorem app3 {l xs : List AV} {T : List Nat} {t : Tl} (ht : t = .cap l.length ∨ t = .lim l.length) (hl : l.length + xs.length ≤ capB) (ha : (l.all fun x => x.cells.length == 5) = true) (hx : (xs.all fun x => x.cells.length == 5 && x.cells.all oneCell) = true) :
  ∃ t' T', (∀ H, appA ⟨H, T⟩ 5 none l t xs = some (.sl (l ++ xs) t', ⟨H, T'⟩)) ∧ ∀ (i v : Nat), T[i]? = some v → T'[i]? = some v := by
 have hn : l.length + xs.length ≤ 1073741824 := hl
 cases xs with
 | nil => exact ⟨t, T, fun H => by simp [appA], fun _ _ h => h⟩
 | cons x xs =>
  refine ⟨.tl T.length 0, T ++ [0], fun H => ?_, fun i v h => by rw [List.getElem?_append_left (List.getElem?_eq_some_iff.1 h).1]; exact h⟩
  have h4 : l.length < l.length + (x :: xs).length := by simp only [List.length_cons]; omega
  unfold appA
  simp only []
  rw [if_pos ⟨.inl hn, ha, hx⟩]
  rcases ht with rfl | rfl <;> simp only [h4, if_true]
theorem App.ext {T T' : List Nat} {l : List AV} {t : Tl} (h : App T l t) (k : ∀ (i v : Nat), T[i]? = some v → T'[i]? = some v) : App T' l t := by
 rcases h with h | ⟨h1, i, v, h2, h3⟩
 ·exact .inl h
 ·exact .inr ⟨h1, i, v, h2, k _ _ h3⟩
theorem diff_ret {t u : Tm} {a b : AV} (ha : t.Is a) (hb : u.Is b) (hs : t.sz + u.sz ≤ 1000) : Out md pfs 28 [.sl [a, b] (.cap 2)] (fun v => ∃ all : List Tm, v = .int (all.length : Nat) ∧ Queue [t, u] all []) fun _ => False := by
 have hab : LIs Tm.Is [t, u] [a, b] := ⟨ha, hb, trivial⟩
 have hsz : tszL [t, u] ≤ 1000 := by simp only [tszL]; omega
 refine out_of pf28_is (Nat.le_of_ble_eq_true rfl) ?_
 simp only [pf28, ↓wpre, wall, simprocAttr]
 refine W_loopE (fun p => tszL p.2) (fun (p : List Tm × List Tm) E H V => ∃ aal ta qal tq, E 0 = .sl qal tq ∧ E 3 = .sl aal ta ∧ LIs Tm.Is p.1 aal ∧ LIs Tm.Is p.2 qal ∧ Queue [t, u] p.1 p.2 ∧ App V aal ta) ?_ ([], [t, u]) ⟨[], .nil, _, _, rfl, rfl, trivial, hab, .start _, app_start _⟩
 rintro ⟨all, todo⟩ E H V ⟨aal, ta, qal, tq, e0, e3, hA, hQ, hK, hT⟩
 simp only at hA hQ hK
 have hq0 := hQ.len
 cases todo with
 | nil =>
  have hd : decide ((qal.length : Int) > 0) = false := by rw [hq0]; rfl
  simp only [↓wpre, wall, simprocAttr, e0, e3, hd]
  exact ⟨all, by rw [hA.len], hK⟩
 | cons x r =>
  have hlt : 0 < qal.length := by rw [hq0]; simp
  have hd : decide ((qal.length : Int) > 0) = true := by simp only [decide_eq_true_eq]; omega
  obtain ⟨x', c, d0, d1, d3, d4, d5, d6, d7, d8⟩ := hQ.get tmAgg hlt
  simp at d0; subst d0
  obtain ⟨xk, xi, xn, xls, kids⟩ := x
  obtain ⟨t1, t2, las, kas, hc, _, ht2, _, _, _, _, hkl, _, hks⟩ := d8.opn
  have hc' : c = [.int xk, .int xi, .str xn, .sl las t1, .sl kas t2] := by simpa using hc
  subst hc'
  have hQ2 := hK.next
  have hz := hK.sz
  have hzl := hK.len
  have hal := hA.len
  have hkz := hks.len
  have hrz := len_tszL r
  have hkz2 := len_tszL kids
  have hsx : tszL (Tm.mk xk xi xn xls kids :: r) = 1 + tszL kids + tszL r := by rw [tszL, Tm.sz]
  have hq1 : qal.length = r.length + 1 := by rw [hq0, List.length_cons]
  have hrq : LIs Tm.Is r (qal.drop 1) := hQ.drop 1
  obtain ⟨t3, ht3, hsl⟩ := slice3 tq hlt
  have hdl : (qal.drop 1).length = qal.length - 1 := by rw [List.length_drop]
  obtain ⟨t4, V1, hap, hV1⟩ := app3 (T := V) (xs := kas) (by rw [hdl]; exact ht3) (by rw [hdl]; unfold capB; omega) (hrq.all tmAgg) (hks.all2 tmAgg)
  have hT1 := hT.ext hV1
  have hall := hQ.all tmAgg
  have h1q : ((1 : Int) ≤ (qal.length : Int)) = True := by rw [hq1]; simp; omega
  have h2q : ((qal.length : Int) ≤ (qal.length : Int)) = True := by simp
  simp only [↓wpre, wall, simprocAttr, List.length_append, List.append_assoc, app_get_len, app_get_add, app_set_len, app_set_add, e0, e3, hd, d4, d5, d6, d7, hsl, hap, hall, h1q, h2q]
  refine W_loopE (fun j => aal.length - j) (fun j E H' V' => V' = V1 ∧ H'[H.length]? = some (.cells false [.int xk, .int xi, .str xn, .sl las t1, .sl kas t2]) ∧ E 0 = .sl (qal.drop 1 ++ kas) t4 ∧ E 3 = .sl aal ta ∧ E 4 = .ptr H.length 0 ∧ E 5 = .bool (decide (Tm.mk xk xi xn xls kids ∈ all.take j)) ∧ E 23 = .sl aal ta ∧ E 24 = .int aal.length ∧ E 25 = .int (j : Nat) ∧ j ≤ aal.length) ?_ 0 ⟨rfl, by simp, rfl, e3, rfl, by rw [List.take_zero]; rfl, rfl, rfl, rfl, Nat.zero_le _⟩
  clear e0 e3
  rintro j E H' V' ⟨rfl, hH, e0, e3, e4, e5, e23, e24, e25, hj⟩
  have hHl : H.length < H'.length := (List.getElem?_eq_some_iff.1 hH).1
  have hHa : ∀ L, (H' ++ L)[H.length]? = some (.cells false [.int xk, .int xi, .str xn, .sl las t1, .sl kas t2]) := fun L => app_get_of hH L
  have halla := hA.all tmAgg
  rcases Nat.lt_or_ge j aal.length with hlt | hge
  ·have hdec : decide ((j : Int) < aal.length) = true := by simpa using hlt
   obtain ⟨y, c, b0, b2, b3, b4, b5, b6, b7, b8⟩ := hA.get tmAgg hlt
   obtain ⟨_, rfl, cs⟩ := (tsame_ret y b8 d8).call rfl (by simp [pvs_cons, pvs_nil, tmPure _ b8, tmPure _ d8])
   have htk : all.take (j + 1) = all.take j ++ [y] := by rw [List.take_add_one, b0]; rfl
   cases hs : decide (Tm.mk xk xi xn xls kids ∈ all.take j)
   ·rw [hs] at e5
    simp only [↓wpre, wall, simprocAttr, List.length_append, List.append_assoc, app_get_len, app_get_add, app_set_len, app_set_add, e3, e4, e5, e23, e24, e25, hdec, b4, b5, b6, b7, halla, hH, hHa, cs]
    have hm : decide (Tm.mk xk xi xn xls kids ∈ all.take (j + 1)) = decide (y = Tm.mk xk xi xn xls kids) := by
     rw [htk]; simp only [decide_eq_false_iff_not] at hs; simp [hs, eq_comm]
    exact EQ_in ⟨j + 1, by omega, rfl, hHa _, e0, e3, e4, by rw [hm]; rfl, e23, e24, next_ixv (by unfold lenB; omega), by omega⟩
   ·rw [hs] at e5
    simp only [↓wpre, wall, simprocAttr, List.length_append, List.append_assoc, app_get_len, app_get_add, app_set_len, app_set_add, e3, e4, e5, e23, e24, e25, hdec, b4, b5, b6, b7, halla, hH, hHa]
    have hm : decide (Tm.mk xk xi xn xls kids ∈ all.take (j + 1)) = true := by
     rw [htk]; simp only [decide_eq_true_eq] at hs; simp [hs]
    exact EQ_in ⟨j + 1, by omega, rfl, hHa _, e0, e3, e4, by rw [hm]; rfl, e23, e24, next_ixv (by unfold lenB; omega), by omega⟩
  ·have hdec : decide ((j : Int) < aal.length) = false := by simpa using hge
   rw [List.take_of_length_le (by omega)] at e5
   obtain ⟨ta', V2, ap2, hA2, _⟩ := app_one (x := .agg [.int xk, .int xi, .str xn, .sl las t1, .sl kas t2]) hT1 (by unfold capB; omega) halla rfl rfl
   by_cases hm : Tm.mk xk xi xn xls kids ∈ all
   ·rw [decide_eq_true hm] at e5
    rw [if_pos hm] at hQ2
    simp only [↓wpre, wall, simprocAttr, List.length_append, List.append_assoc, app_get_len, app_get_add, app_set_len, app_set_add, e3, e4, e5, e23, e24, e25, hdec]
    exact EQ_in ⟨(all, r ++ kids), hQ2.2, aal, ta, qal.drop 1 ++ kas, t4, e0, e3, hA, hrq.append hks, hQ2.1, hT1⟩
   ·rw [decide_eq_false hm] at e5
    rw [if_neg hm] at hQ2
    simp only [↓wpre, wall, simprocAttr, List.length_append, List.append_assoc, app_get_len, app_get_add, app_set_len, app_set_add, e3, e4, e5, e23, e24, e25, hdec, hH, ap2]
    exact EQ_in ⟨(all ++ [Tm.mk xk xi xn xls kids], r ++ kids), hQ2.2, aal ++ [.agg [.int xk, .int xi, .str xn, .sl las t1, .sl kas t2]], ta', qal.drop 1 ++ kas, t4, e0, rfl, hA.append (LIs.one d8), hrq.append hks, hQ2.1, hA2⟩
theorem enc_zero {t : Tm} : (encErr t != 0) = !t.allR := by unfold encErr; cases t.allR <;> rfl
theorem back_law {a b : AV} {t u : Tm} (ha : t.Is a) (hb : u.Is b) : Out md pfs 8 [a, b] (· = .bool true) fun _ => False := by
 have hpt := tmPure _ ha
 have hpu := tmPure _ hb
 obtain ⟨_, rfl, c11⟩ := awake_ret.call rfl pvs_nil
 obtain ⟨v1, hv1, c14⟩ := (short_ret t (nodes := 60) ha (by omega) (by unfold in64; omega)).call rfl (by simp [pvs_cons, pvs_nil, pv_v, hpt])
 obtain ⟨v2, hv2, c14b⟩ := (short_ret u (nodes := 60) hb (by omega) (by unfold in64; omega)).call rfl (by simp [pvs_cons, pvs_nil, pv_v, hpu])
 obtain ⟨c, rfl, l1, l2, l3⟩ := tmCells ha
 obtain ⟨d, rfl, m1, m2, m3⟩ := tmCells hb
 refine out_of pf8_is (Nat.le_of_ble_eq_true rfl) ?_
 rcases hv1 with rfl | ⟨rfl, hle, hsl⟩
 ·simp only [pf8, ↓wpre, wall, simprocAttr, l1, l2, l3, m1, m2, m3, c14, c11]
 have hdt := dp_sz t
 obtain ⟨_, rfl, c27⟩ := (rEncodable_ret ha (by omega) (by omega)).call rfl (by simp [pvs_cons, pvs_nil, hpt])
 cases hr1 : t.allR
 ·have e1 : (encErr t != 0) = true := by rw [enc_zero, hr1]; rfl
  simp only [pf8, ↓wpre, wall, simprocAttr, l1, l2, l3, m1, m2, m3, c14, c27, e1, c11]
 have e1 : (encErr t != 0) = false := by rw [enc_zero, hr1]; rfl
 rcases hv2 with rfl | ⟨rfl, hle2, hsl2⟩
 ·simp only [pf8, ↓wpre, wall, simprocAttr, l1, l2, l3, m1, m2, m3, c14, c27, e1, c14b, c11]
 have hdu := dp_sz u
 obtain ⟨_, rfl, c27b⟩ := (rEncodable_ret hb (by omega) (by omega)).call rfl (by simp [pvs_cons, pvs_nil, hpu])
 cases hr2 : u.allR
 ·have e2 : (encErr u != 0) = true := by rw [enc_zero, hr2]; rfl
  simp only [pf8, ↓wpre, wall, simprocAttr, l1, l2, l3, m1, m2, m3, c14, c27, e1, c14b, c27b, e2, c11]
 have e2 : (encErr u != 0) = false := by rw [enc_zero, hr2]; rfl
 have hE1 := enter_len t []
 have hE2 := enter_len u (t.enter [])
 simp only [List.length_nil, Nat.zero_add] at hE1
 obtain ⟨hG1, _, hm1⟩ := enter_pre gt_nil (allR_subs t hr1)
 obtain ⟨hG2, ⟨mm, hmm⟩, hm2⟩ := enter_pre hG1 (allR_subs u hr2)
 have hgn : GIs (nodesOf []) (.agg [.sl [] .nil]) := ⟨[], .nil, rfl, rfl, Nat.zero_le _, trivial⟩
 obtain ⟨v3, hv3, c16⟩ := (add_ret gt_nil hgn ha hsl (by omega) (by simp)).call rfl (by simp [pvs_cons, pvs_nil, gPure hgn, hpt])
 rw [AddR, if_pos hr1] at hv3
 obtain ⟨al1, t1, rfl, hg1⟩ := hv3.eq (M := []) (j := 0) (f := 0)
 have hpg1 := gPure hg1
 obtain ⟨v4, hv4, c16b⟩ := (add_ret hG1 hg1 hb hsl2 (by omega) (by omega)).call rfl (by simp [pvs_cons, pvs_nil, hpg1, hpu])
 rw [AddR, if_pos hr2] at hv4
 obtain ⟨al2, t2, rfl, hg2⟩ := hv4.eq (M := []) (j := 0) (f := 0)
 have hpg2 := gPure hg2
 obtain ⟨al2', t2', he2, q1, q2, q3⟩ := id hg2
 simp only [AV.agg.injEq, List.cons.injEq, AV.sl.injEq, and_true] at he2
 obtain ⟨rfl, rfl⟩ := he2
 have hl2 := q3.len
 rw [nodes_len] at hl2
 obtain ⟨_, ⟨all, rfl, hQ⟩, c28⟩ := (diff_ret ha hb (by omega)).call rfl (by simp [pvs_cons, pvs_nil, pv_sl, hpt, hpu, Tl.pure])
 have hQl : (u.enter (t.enter [])).length = all.length := by
  have := hQ.done (l := [t, u]) (by simp [allRL, hr1, hr2])
  simpa [enterL] using this
 have b73 : (((al2.length : Nat) : Int) != (all.length : Nat)) = false := by simp; omega
 obtain ⟨_, rfl, c12⟩ := (check_ret hg2).call rfl (by simp [pvs_cons, pvs_nil, hpg2])
 rw [check_of hG2 (by omega)] at c12
 have htT : t ∈ u.enter (t.enter []) := (hm2 t).2 (.inl ((hm1 t).2 (.inr (subs_self t))))
 have htT1 : t ∈ t.enter [] := (hm1 t).2 (.inr (subs_self t))
 have huT : u ∈ u.enter (t.enter []) := (hm2 u).2 (.inr (subs_self u))
 have hit : (t.enter []).idxOf t = (u.enter (t.enter [])).idxOf t := by rw [hmm, idx_pre htT1]
 have hgt : ∀ {x : Tm}, x ∈ u.enter (t.enter []) → (u.enter (t.enter []))[(((u.enter (t.enter [])).idxOf x : Nat) : Int).toNat]? = some x := fun {x} hx => by
  have := List.idxOf_lt_length_of_mem hx
  rw [Int.toNat_natCast, List.getElem?_eq_getElem this, List.getElem_idxOf]
 have hTm : ∀ {x : Tm} {w : AV}, x ∈ u.enter (t.enter []) → x.sz ≤ 60 → TermG (u.enter (t.enter [])) (((u.enter (t.enter [])).idxOf x : Nat) : Int) w → ∃ a, w = .tup [a, .int 0] ∧ x.Is a := fun {x w} hx hz h => by
  have := List.idxOf_lt_length_of_mem hx
  have hd := dp_sz x
  rw [TermG, if_pos ⟨by omega, by omega⟩] at h
  obtain ⟨y, hy, h⟩ := h
  rw [hgt hx] at hy; cases hy
  rw [TermR, if_neg (by omega), if_neg (by omega)] at h
  exact h
 obtain ⟨w1, hw1, c29⟩ := (Term_ret hG2 (by omega) hg2 (((u.enter (t.enter [])).idxOf t : Nat) : Int)).call rfl (by simp [pvs_cons, pvs_nil, hpg2, pv_v])
 obtain ⟨w2, hw2, c29b⟩ := (Term_ret hG2 (by omega) hg2 (((u.enter (t.enter [])).idxOf u : Nat) : Int)).call rfl (by simp [pvs_cons, pvs_nil, hpg2, pv_v])
 obtain ⟨x1, rfl, hx1⟩ := hTm htT (by omega) hw1
 obtain ⟨x2, rfl, hx2⟩ := hTm huT (by omega) hw2
 obtain ⟨_, rfl, c30⟩ := (tsame_ret t hx1 ha).call rfl (by simp [pvs_cons, pvs_nil, tmPure _ hx1, hpt])
 obtain ⟨_, rfl, c30b⟩ := (tsame_ret u hx2 hb).call rfl (by simp [pvs_cons, pvs_nil, tmPure _ hx2, hpu])
 obtain ⟨_, rfl, c30c⟩ := (tsame_ret t ha hb).call rfl (by simp [pvs_cons, pvs_nil, hpt, hpu])
 rw [decide_eq_true rfl] at c30 c30b
 obtain ⟨y1, rfl, n1, n2, n3⟩ := tmCells hx1
 obtain ⟨y2, rfl, o1, o2, o3⟩ := tmCells hx2
 have heq : ((((u.enter (t.enter [])).idxOf t : Nat) : Int) == (((u.enter (t.enter [])).idxOf u : Nat) : Int)) = decide (t = u) := by
  rw [Bool.eq_iff_iff, beq_iff_eq, decide_eq_true_eq]
  constructor
  ·intro h; exact idx_inj htT huT (by omega)
  ·rintro rfl; rfl
 rw [hit] at c16
 have f0 : ((0 : Int) != 0) = false := rfl
 have f1 : ((0 : Int) == 0) = true := rfl
 have f2 : (decide (t = u) == decide (t = u)) = true := by simp
 simp only [pf8, ↓wpre, wall, simprocAttr, l1, l2, l3, m1, m2, m3, n1, n2, n3, o1, o2, o3, c14, c27, e1, c14b, c27b, e2, c16, c16b, f0, f1, c28, b73, c12, c29, c29b, c30, c30b, c30c, heq, f2, c11]
open Go Go.Proofs Go.Proofs.YtjiheebhmokfbaaDoor
open Go.ChangeShapes Go.WideShapes Go.ChangeAt Go.RowKit
def laid50 : List (String × DataW Unit) := Rows.graphChecksRow.laid
theorem lm_tail {P : Program} {x : String × DataW Unit} {r : List (String × DataW Unit)} {w : World} (h : laidMet P (x :: r) w) : laidMet P r w := by
 obtain ⟨n, d⟩ := x
 obtain ⟨ps, ⟨g, t, cs, fuel, p, q, _, _, _, _, hq, rfl⟩, hn, hc⟩ := h
 exact ⟨q, hq, (List.nodup_append.1 hn).2.1, fun b off hm => hc b off (List.mem_append_right _ hm)⟩
theorem kn_of {W : World} (h : laidMetH Tryd.prog laid50 W) : Kn W := by
 rw [MakeChecks.laidMetH_plain _ _ _ (by kernel_rfl)] at h
 have h2 := lm_tail (lm_tail h)
 have h3 := Lib.tabIs_of_head (name := tabN) (zs := Lib.pow10Tab) (k := .u64) (g := 0) (t := 142) (e := 132) (n := 20) (by kernel_rfl) (by kernel_rfl) (by kernel_rfl) (by kernel_rfl) (by kernel_rfl) (by kernel_rfl) h2
 intro b hb
 obtain rfl : b = 0 := hb
 unfold Lib.TabIs World.var? at h3
 rw [show Tryd.prog.globalNamed tabN = some 0 from by kernel_rfl] at h3
 simp only [Option.bind_some] at h3
 split at h3
 ·rename_i cs t z hh
  simp only [Option.some.injEq] at h3
  subst h3
  exact ⟨(Array.getElem?_eq_some_iff.1 hh).1, t, z, hh⟩
 ·cases h3
theorem try_own : ownKnob Tryd.prog.godebug = none := by kernel_rfl
theorem try_laid : laidOutB Tryd.prog = true := by kernel_rfl
end Go.Proofs.Eng
