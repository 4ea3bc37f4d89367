/- The reference's Add, Same and Size; small graphs; the law of Add. No conditions beyond those in the theorems. -/
import Derived.Test.YtjiheebhmokfbaaDoorC2
import Derived.Test.YtjiheebhmokfbaaDoorT15
import Derived.Test.YtjiheebhmokfbaaDoorPf50
import Derived.KernelRfl
set_option linter.all false
set_option linter.deprecated false
set_option linter.unnecessarySimpa false
set_option linter.unusedVariables false
set_option linter.unusedSimpArgs false
set_option linter.defProp false
namespace Go.Proofs.Eng
open Go Go.Proofs
set_option maxRecDepth 100000
set_option maxHeartbeats 16000000
theorem idx_first {T : List Tm} {e : Tm} {j : Nat} (h : T[j]? = some e) (hn : ∀ x ∈ T.take j, x ≠ e) : e ∈ T ∧ T.idxOf e = j := by
 induction T generalizing j with
 | nil => simp at h
 | cons y T ih =>
  cases j with
  | zero => simp at h; subst h; simp
  | succ j =>
   have h1 : y ≠ e := hn y (by simp)
   obtain ⟨a, b⟩ := ih (by simpa using h) fun x hx => hn x (by simp [hx])
   exact ⟨List.mem_cons_of_mem _ a, by rw [List.idxOf_cons, beq_false_of_ne h1, b]; rfl⟩
theorem GRes.pure {N : List Nd} {id e : Int} {v : AV} (h : GRes N id e v) : pureAV v = true := by
 obtain ⟨ga, rfl, h1⟩ := h
 simp [pv_tup, pvs_cons, pvs_nil, gPure h1, pv_v]
def AddR (T : List Tm) (t : Tm) (v : AV) : Prop := if t.allR = true then GRes (nodesOf (t.enter T)) ((t.enter T).idxOf t : Nat) 0 v else GRes [] 0 3 v
theorem allRL_one (t : Tm) : allRL [t] = t.allR := by rw [allRL, allRL, Bool.and_true]
theorem add_ret {T : List Tm} (hG : GT T) {g a : AV} (hg : GIs (nodesOf T) g) {t : Tm} (ha : t.Is a) (hs : t.slim) (h60 : t.sz ≤ 60) (hT : T.length ≤ 60) : Out md pfs 16 [g, a] (AddR T t) fun _ => False := by
 have hpt := tmPure _ ha
 have hfew : FewP [t] := ⟨by simp, by rw [tszL, tszL]; omega, fun x hx => by rw [List.mem_singleton.1 hx]; exact hs⟩
 obtain ⟨z1, z2, z3⟩ := few_sizes hfew
 obtain ⟨_, rfl, c41⟩ := (PutTerms_ret (t := .cap 1) (.one ha) rfl (by simp) z1 (fun h => by have := z2 h; unfold entB; omega) (fun _ => by unfold entB; omega)).call rfl (by simp [pvs_cons, pvs_nil, pv_sl, hpt, Tl.pure])
 obtain ⟨c, rfl, l1, l2, l3⟩ := tmCells ha
 obtain ⟨al, tg, rfl, hg2⟩ := hg
 have hg : GIs (nodesOf T) (.agg [.sl al tg]) := ⟨al, tg, rfl, hg2⟩
 refine out_of pf16_is (Nat.le_of_ble_eq_true rfl) ?_
 cases hr : t.allR
 ·have e1 : (putR [t]).2 = 3 := by rw [putR, allRL_one, hr]; rfl
  have n3 : ((3 : Int) != 0) = true := rfl
  simp only [pf16, ↓wpre, wall, simprocAttr, l1, l2, c41, e1, n3]
  unfold AddR
  rw [if_neg (by rw [hr]; simp)]
  exact ⟨_, rfl, [], .nil, rfl, rfl, Nat.zero_le _, trivial⟩
 ·have e1 : (putR [t]).2 = 0 := by rw [putR, allRL_one, hr]; rfl
  have n0 : ((0 : Int) != 0) = false := rfl
  have hrs := allR_subs t hr
  obtain ⟨hG', _, _⟩ := enter_pre (t := t) hG hrs
  have hle := enter_len t T
  obtain ⟨_, _, ⟨bi, mi, H1, V1, rfl, rfl, hB, l4, l5, _, hk, _⟩, c42⟩ := (begin_rw hG (by omega) hg (H := [.cells false [.sl al tg], .cells false c, .cells false [.sl [] .nil]]) (V := [])).call rfl
  have k1 : H1[1]? = some (.cells false c) := by rw [hk 1 (by simp)]; rfl
  obtain ⟨_, _, ⟨rfl, H2, V2, rfl, hB2, hS2⟩, c44⟩ := (term_sh t hB hG ha hrs (by omega)).callRet rfl
  simp only [List.length_cons, List.length_nil] at l4 l5
  have k2 := hS2.get (k := 2) (o := .cells false [.sl [] .nil]) (by rw [hk 2 (by simp)]; rfl) (by omega) (by omega)
  obtain ⟨v3, _, ⟨hv3, H3, V3, rfl, hk3⟩, c43⟩ := (result_sh hB2 (by omega) ((t.enter T).idxOf t : Nat)).callRet rfl
  rw [if_neg (by simp)] at hv3
  obtain ⟨ga, rfl, hga⟩ := hv3
  have k3 := hk3.2 2 _ k2 fun fz ks h => by
   simp only [AObj.cells.injEq] at h
   have := h.2
   cases ks with
   | nil => simp [ints] at this
   | cons x l => simp [ints] at this
  have hpg := gPure hga
  obtain ⟨al3, t3, rfl, hga'⟩ := hga
  have hs3 : ∀ Y, (H3.set 2 Y)[2]? = some Y := fun Y => by rw [List.getElem?_set, if_pos rfl, if_pos (lt_of_get k3)]
  have hpsl : pureAV (.sl al3 t3) = true := by simpa [pv_agg, pvs_cons, pvs_nil] using hpg
  have hpp : ∀ (s : ASt), purify 1019 s (.agg [.sl al3 t3]) = some (.agg [.sl al3 t3]) := fun s => purify_pure hpg
  simp only [pf16, ↓wpre, wall, simprocAttr, l1, l2, c41, e1, n0, c42, k1, c44, c43, k3, hs3, hpp]
  unfold AddR
  rw [if_pos hr]
  exact ⟨_, rfl, al3, t3, rfl, hga'⟩
theorem eqI (k : IntKind) (x : Int) : eqAV (.v (.int k x)) (.v (.int k x)) = true := by rw [eqAV]; simp [eqV]
theorem eqS (x : ByteArray) : eqAV (.v (.string x)) (.v (.string x)) = true := by rw [eqAV]; simp [eqV, str_beq]
theorem eqL {α : Type} {R : α → AV → Prop} (h : ∀ x a, R x a → eqAV a a = true) : ∀ {l : List α} {al : List AV}, LIs R l al → eqAVs al al = true
 | [], [], _ => by rw [eqAVs]
 | x :: l, a :: al, hl => by
  simp only [LIs] at hl
  rw [eqAVs, h _ _ hl.1, eqL h hl.2]; rfl
 | [], _ :: _, h => by simp [LIs] at h
 | _ :: _, [], h => by simp [LIs] at h
theorem eqT (t : Tl) (l : List AV) (h : eqAVs l l = true) : eqAV (.sl l t) (.sl l t) = true := by rw [eqAV, h]; simp
theorem eqVar {v : Int × Int} {a : AV} (h : varIs v a) : eqAV a a = true := by
 obtain ⟨rfl, _⟩ := h
 rw [eqAV, eqAVs, eqAVs, eqAVs, eqI, eqI]; rfl
theorem eqLv {v : Lv} {a : AV} (h : v.Is a) : eqAV a a = true := by
 obtain ⟨t, al, rfl, _, _, _, h4⟩ := h
 rw [eqAV, eqAVs, eqAVs, eqAVs, eqI, eqT _ _ (eqL (fun _ _ h => eqVar h) h4)]; rfl
def isTrueA : Option (Outc × ASt) → Bool
 | some (.ret (.v (.bool true)), _) => true
 | _ => false
theorem awake_try : isTrueA (callN md pfs 100 11 [] ⟨[], []⟩) = true := by kernel_rfl
theorem true_ret {f : Nat} (h : isTrueA (callN md pfs 100 f [] ⟨[], []⟩) = true) : Out md pfs f [] (· = .bool true) fun _ => False := by
 cases hc : callN md pfs 100 f [] ⟨[], []⟩ with
 | none => rw [hc] at h; cases h
 | some x =>
  obtain ⟨out, s⟩ := x
  rw [hc] at h
  have ho : out = .ret (.v (.bool true)) := by
   cases out with
   | pan v => cases h
   | ret v => cases v with
    | v x => cases x with
     | bool b => cases b with
      | true => rfl
      | false => cases h
     | _ => cases h
    | _ => cases h
  subst ho
  exact ⟨_, s, .ret (.bool true), run_of hc, by simp only [Outc.purify, purify_pure pv_v, Option.map_some], rfl⟩
theorem awake_ret : Out md pfs 11 [] (· = .bool true) fun _ => False := true_ret awake_try
structure Nd.Few (n : Nd) : Prop where
 nm : n.n.size ≤ 100
 ls : n.ls.length ≤ 10
 kids : n.kids.length ≤ 5
 vs : ∀ l ∈ n.ls, l.vs.length ≤ 10
structure FewG (N : List Nd) : Prop where
 len : N.length ≤ 60
 all : ∀ n ∈ N, n.Few
structure SizeP (lim : Nat) (x : Tm) (r : Nat) : Prop where
 le : x.sz ≤ lim → r = x.sz
 gt : lim < x.sz → lim < r
 pos : 1 ≤ r
 up : r ≤ (lim + 1) * x.dp
structure SmallG (N : List Nd) (T : List Tm) : Prop where
 eq : N = nodesOf T
 good : GT T
 few : FewG N
 sz : ∀ t ∈ T, t.sz ≤ 400
theorem SmallG.len {N : List Nd} {T : List Tm} (h : SmallG N T) : T.length ≤ 60 := by
 have := h.few.len; rw [h.eq, nodes_len] at this; exact this
theorem good_dp {T : List Tm} (h : Good T) : ∀ t ∈ T, t.dp ≤ T.length := by
 have key : ∀ (l : List Tm) (m : Nat), (∀ x ∈ l, x.dp ≤ m) → tdpL l ≤ m := by
  intro l
  induction l with
  | nil => intro m _; simp [tdpL]
  | cons x l ih =>
   intro m h
   rw [tdpL]
   have h1 := h x (by simp)
   have h2 := ih m fun y hy => h y (by simp [hy])
   omega
 induction h with
 | nil => simp
 | @add T t h hn hf hk ih =>
  intro x hx
  rw [List.length_append, List.length_singleton]
  rcases List.mem_append.1 hx with hx | hx
  ·have := ih x hx; omega
  ·rw [List.mem_singleton.1 hx]
   have : tdpL t.kids ≤ T.length := key _ _ fun y hy => ih y (hk y hy)
   cases t
   rw [Tm.dp]
   simp only [Tm.kids] at this
   omega
theorem GRes.eq {N M : List Nd} {i j e f : Int} {v : AV} (h : GRes N i e v) : ∃ al t, v = .tup [.agg [.sl al t], .int i, .int e] ∧ GIs N (.agg [.sl al t]) := by
 obtain ⟨ga, rfl, h1⟩ := h
 obtain ⟨al, t, rfl, h2⟩ := h1
 exact ⟨al, t, rfl, al, t, rfl, h2⟩
theorem AddR.eq {T : List Tm} {t : Tm} {v : AV} (h : AddR T t v) : ∃ (N : List Nd) (i e : Int), (∀ w, AddR T t w → GRes N i e w) ∧ GRes N i e v := by
 unfold AddR at h ⊢
 by_cases hr : t.allR = true
 ·simp only [hr, if_true] at h ⊢; exact ⟨_, _, _, fun _ h => h, h⟩
 ·simp only [hr, if_false] at h ⊢; exact ⟨_, _, _, fun _ h => h, h⟩
end Go.Proofs.Eng
