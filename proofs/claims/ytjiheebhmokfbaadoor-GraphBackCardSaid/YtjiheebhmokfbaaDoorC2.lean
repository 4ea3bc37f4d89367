/- The builder: a node is added. No conditions beyond those in the theorems. -/
import Derived.Test.YtjiheebhmokfbaaDoorT11
set_option linter.all false
set_option linter.deprecated false
set_option linter.unnecessarySimpa false
set_option linter.unusedVariables false
set_option linter.unusedSimpArgs false
set_option linter.defProp false
namespace Go.Proofs.Eng
open Go Go.Proofs
set_option maxRecDepth 100000
set_option maxHeartbeats 16000000
def GIs (N : List Nd) (a : AV) : Prop := ∃ al t, a = .agg [.sl al t] ∧ t.pure = true ∧ al.length ≤ lenB ∧ LIs Nd.Is N al
theorem gPure {N : List Nd} {a : AV} (h : GIs N a) : pureAV a = true := by
 obtain ⟨al, t, rfl, h1, _, h2⟩ := h
 have := h2.pure fun _ _ h => ndPure h
 simp [pv_agg, pv_sl, pvs_cons, pvs_nil, h1, this]
theorem check1_ret (k i : Int) : Out md pfs 36 [.int k, .ip [.int i] 0] (· = .bool (decide (k < 0) || decide (k ≥ i))) fun _ => False := by
 refine out_of pf36_is (Nat.le_of_ble_eq_true rfl) ?_
 cases c1 : decide (k < 0)
 ·simp only [pf36, ↓wpre, wall, simprocAttr, c1, Bool.false_or]
 ·simp only [pf36, ↓wpre, wall, simprocAttr, c1, Bool.true_or]
theorem range_any (n : Nd) (m : Nat) : (n.kids.any fun k => decide (k < 0) || decide (k ≥ (m : Int))) = !n.inR m := by
 unfold Nd.inR
 rw [List.not_all_eq_any_not]
 congr 1
 funext k
 rw [Bool.eq_iff_iff]
 simp only [Bool.or_eq_true, decide_eq_true_eq, Bool.not_eq_true', Bool.and_eq_false_iff, decide_eq_false_iff_not]
 omega
theorem range_call {ks : List Int} {t : Tl} (ht : t.pure = true) (hl : ks.length ≤ lenB) {H : List AObj} {T : List Nat} {q : Nat} {i : Int} (hq : H[q]? = some (.cells false [.int i])) : ∀ K KP, CW (run md pfs) md false ⟨H, T⟩ 35 [.sl (ints ks) t, .fn 36 [.ptr q 0]] K KP () = K (.bool (ks.any fun k => decide (k < 0) || decide (k ≥ i))) ⟨H.set q (.cells true [.int i]), T⟩ := by
 have hpsl : pureAV (.sl (ints ks) t) = true := by rw [pv_sl, ht, ints_pure]; rfl
 obtain ⟨_, rfl, hc⟩ := (cont35_ret 36 [.ip [.int i] 0] rfl (by simp [pvs_cons, pvs_nil, pv_ip, pv_v]) (fun k => decide (k < 0) || decide (k ≥ i)) ht hl (fun x _ => check1_ret x i)).callP rfl (s := ⟨H, T⟩) (args := [.sl (ints ks) t, .fn 36 [.ptr q 0]]) (by
  simp only [mapO, purify20 hpsl, pz_fn, pz_ptr, hq, List.length_cons, List.length_nil, Nat.zero_le, if_true, purify_pure (n := 17) pv_v, Option.map_some])
 intro K KP
 rw [hc K KP]
 have e1 : frz 20 ⟨H, T⟩ (.sl (ints ks) t) = ⟨H, T⟩ := fr_pure hpsl
 have e2 : frz 20 ⟨H, T⟩ (.fn 36 [.ptr q 0]) = ⟨H.set q (.cells true [.int i]), T⟩ := by
  rw [fr_fn, if_neg (by simp [pvs_cons, pv_ptr])]
  simp only [List.foldl_cons, List.foldl_nil, fr_ptr, hq, fz_cells hq]
  exact fr_pure pv_v
 simp only [List.foldl_cons, List.foldl_nil, e1, e2]
theorem up_new {kk : KK} {k x : AV} : ∀ {es : List (AV × AV)}, lookA kk k es = some none → upA kk k x es = some (es ++ [(k, x)])
 | [], _ => rfl
 | (k', y) :: es, h => by
  rw [lookA] at h
  rw [upA]
  split at h
  ·cases h
  ·simp only [up_new h, Option.map_some, List.cons_append]
  ·cases h
theorem look_app {kk : KK} {k k' x : AV} {b : Bool} (hb : keyEqM kk k k' = some b) : ∀ {es : List (AV × AV)} {r : Option AV}, lookA kk k es = some r → lookA kk k (es ++ [(k', x)]) = some (match r with | some y => some y | none => if b = true then some x else none)
 | [], r, h => by
  rw [lookA] at h
  simp only [Option.some.injEq] at h; subst h
  rw [List.nil_append, lookA, hb]
  cases b <;> rfl
 | (k'', y) :: es, r, h => by
  rw [lookA] at h
  rw [List.cons_append, lookA]
  split at h
  ·simp only [Option.some.injEq] at h; subst h; rfl
  ·exact look_app hb h
  ·cases h
theorem keyEq_str (a b : List UInt8) : keyEqM (.sc true) (.str (strOf a)) (.str (strOf b)) = some (decide (a = b)) := by
 show some (strOf a == strOf b) = _
 rw [str_beq]
 congr 1
 by_cases h : a = b
 ·subst h; simp
 ·have : ¬ strOf a = strOf b := fun e => h (strOf_inj e)
  simp [h, this]
def MapB (es : List (AV × AV)) (tab : List (List UInt8)) : Prop := ∀ key : List UInt8, lookA (.sc true) (.str (strOf key)) es = some (if key ∈ tab then some (.bool true) else none)
theorem mapB_nil : MapB [] [] := fun key => by simp [lookA]
theorem mapB_add {es : List (AV × AV)} {tab : List (List UInt8)} (h : MapB es tab) {key : List UInt8} (hk : key ∉ tab) : upA (.sc true) (.str (strOf key)) (.bool true) es = some (es ++ [(.str (strOf key), .bool true)]) ∧ MapB (es ++ [(.str (strOf key), .bool true)]) (tab ++ [key]) := by
 have h0 := h key
 rw [if_neg hk] at h0
 refine ⟨up_new h0, fun k => ?_⟩
 rw [look_app (keyEq_str k key) (h k)]
 by_cases e : k = key
 ·subst e; simp [hk]
 ·by_cases h1 : k ∈ tab
  ·simp [h1]
  ·simp [h1, e]
theorem chk_cons (P l : List Nd) (n : Nd) : chkN P (n :: l) = if n.formed = true then if n.inR P.length = true then if n ∈ P then 8 else chkN (P ++ [n]) l else 2 else 3 := by rw [chkN]
theorem check_ret {N : List Nd} {a : AV} (h : GIs N a) : Out md pfs 12 [a] (· = .int (checkN N)) fun _ => False := by
 obtain ⟨al, t, rfl, ht, hl, hL⟩ := h
 have hln := hL.len
 have hall := hL.all ndAgg
 refine out_of pf12_is (Nat.le_of_ble_eq_true rfl) ?_
 cases c1 : decide ((al.length : Int) > 65536)
 case true =>
  simp only [pf12, ↓wpre, wall, simprocAttr, c1]
  simp only [decide_eq_true_eq] at c1
  rw [checkN, if_neg (by omega)]
 have hck : checkN N = chkN [] N := by
  simp only [decide_eq_false_iff_not] at c1
  rw [checkN, if_pos (by omega)]
 rw [hck]
 simp only [pf12, ↓wpre, wall, simprocAttr, c1]
 refine W_loopE (fun j => al.length - j) (fun j E H T => (∃ es G, H = .cells false [.sl al t] :: .map es :: G ∧ MapB es ((N.take j).map keyX)) ∧ E 1 = .ptr 0 0 ∧ E 3 = .mp 1 ∧ E 13 = .sl al t ∧ E 14 = .int al.length ∧ E 15 = .int (j : Nat) ∧ j ≤ al.length ∧ (∀ n ∈ N.take j, n.formed = true ∧ ∀ x ∈ n.kids, in64 x) ∧ chkN (N.take j) (N.drop j) = chkN [] N) ?_ 0 ⟨⟨[], [], rfl, by simpa using mapB_nil⟩, rfl, rfl, rfl, rfl, rfl, Nat.zero_le _, by simp, by simp⟩
 rintro j E H T ⟨⟨es, G, rfl, hM⟩, e1, e3, e13, e14, e15, hj, hg, hc⟩
 rcases Nat.lt_or_ge j al.length with hlt | hge
 ·have hdec : decide ((j : Int) < al.length) = true := by simpa using hlt
  obtain ⟨n, c, d0, d1, d3, d4, d5, d6, d7, d8⟩ := hL.get ndAgg hlt
  rw [d1, chk_cons, List.length_take, Nat.min_eq_left (by omega)] at hc
  have hpn : pureAVs [AV.agg c] = true := by simp [pvs_cons, pvs_nil, ndPure d8]
  obtain ⟨_, rfl, c34⟩ := (gformed_ret d8).call rfl hpn
  have d8' := d8
  obtain ⟨u1, u2, las, hcc, b1, b2, b3, b4, b5, b6, b7, b8, b9⟩ := d8
  simp only [AV.agg.injEq] at hcc; subst hcc
  generalize hAB : (AObj.cells false [AV.int n.k, AV.int n.i, AV.str n.n, AV.sl las u1, AV.sl (ints n.kids) u2]) = NB at *
  have c35 := range_call b2 b7 (H := .cells false [.sl al t] :: .map es :: (G ++ [.cells false [.int (j : Nat)], NB])) (T := T) (q := G.length + 2) (i := (j : Nat)) (by simp)
  subst hAB
  simp only [List.set_cons_succ, app_set_len, List.set_cons_zero] at c35
  have hra := range_any n j
  rw [hra] at c35
  cases hf : n.formed
  case false =>
   rw [hf] at c34
   simp only [↓wpre, wall, simprocAttr, List.length_append, List.append_assoc, app_get_len, app_get_add, app_set_len, app_set_add, e1, e3, e13, e14, e15, hdec, d4, d5, d6, hall, c34, List.set_cons_succ]
   rw [if_neg (by rw [hf]; simp)] at hc
   rw [← hc]
  rw [hf] at c34
  rw [if_pos hf] at hc
  cases hr : n.inR j
  case false =>
   rw [hr] at c35
   simp only [↓wpre, wall, simprocAttr, List.length_append, List.append_assoc, app_get_len, app_get_add, app_set_len, app_set_add, e1, e3, e13, e14, e15, hdec, d4, d5, d6, hall, c34, c35, List.set_cons_succ]
   rw [if_neg (by rw [hr]; simp)] at hc
   rw [← hc]
  rw [hr] at c35
  rw [if_pos hr] at hc
  obtain ⟨_, rfl, c37⟩ := (key_ret d8' (key_len hf b9)).call rfl hpn
  have hmem : keyX n ∈ (N.take j).map keyX ↔ n ∈ N.take j := by
   rw [List.mem_map]
   constructor
   ·rintro ⟨x, h1, h2⟩
    obtain ⟨g1, g2⟩ := hg x h1
    rw [← key_inj g1 hf g2 b9 h2]; exact h1
   ·intro h; exact ⟨n, h, rfl⟩
  have hlook := hM (keyX n)
  by_cases hin : n ∈ N.take j
  ·rw [if_pos (hmem.2 hin)] at hlook
   simp only [↓wpre, wall, simprocAttr, List.length_append, List.append_assoc, app_get_len, app_get_add, app_set_len, app_set_add, e1, e3, e13, e14, e15, hdec, d4, d5, d6, hall, c34, c35, c37, List.set_cons_succ, keyOKM, keyOK, hlook]
   rw [if_pos hin] at hc
   rw [← hc]
  ·have hnot := fun h => hin (hmem.1 h)
   rw [if_neg hnot] at hlook
   obtain ⟨hu, hM'⟩ := mapB_add hM hnot
   rw [if_neg hin] at hc
   simp only [↓wpre, wall, simprocAttr, List.length_append, List.append_assoc, app_get_len, app_get_add, app_set_len, app_set_add, e1, e3, e13, e14, e15, hdec, d4, d5, d6, hall, c34, c35, c37, List.set_cons_succ, keyOKM, keyOK, hlook, hu]
   have htk : N.take (j + 1) = N.take j ++ [n] := by rw [List.take_add_one, d0]; rfl
   exact EQ_in ⟨j + 1, by omega, ⟨_, _, rfl, by rw [htk, List.map_append]; exact hM'⟩, e1, e3, e13, e14, next_ixv (by omega), by omega, by
    rw [htk]; intro x hx
    rcases List.mem_append.1 hx with hx | hx
    ·exact hg x hx
    ·rw [List.mem_singleton.1 hx]; exact ⟨hf, b9⟩, by rw [htk]; exact hc⟩
 ·have hdec : decide ((j : Int) < al.length) = false := by simpa using hge
  simp only [↓wpre, wall, simprocAttr, e1, e3, e13, e14, e15, hdec]
  rw [List.drop_eq_nil_of_le (by omega), chkN] at hc
  rw [← hc]
set_option maxHeartbeats 8000000
theorem Sh.callRet {f : FuncId} {args : List AV} {s : ASt} {PR : AV → ASt → Prop} (h : Sh md pfs f args s PR fun _ _ => False) (hm : md f = .shared) : ∃ v s', PR v s' ∧ ∀ K KP, CW (run md pfs) md false s f args K KP () = K v s' := by
 rcases h.call hm with h | ⟨_, _, h, _⟩
 ·exact h
 ·exact h.elim
theorem set_self {α : Type} {H : List α} {i : Nat} {c : α} (h : H[i]? = some c) : H.set i c = H := by
 have hlt := (List.getElem?_eq_some_iff.1 h).1
 have := (List.getElem?_eq_some_iff.1 h).2
 rw [← this]; simp
theorem get_set {α : Type} {H : List α} {i : Nat} {c d : α} (h : H[i]? = some c) : (H.set i d)[i]? = some d := by
 have hlt := (List.getElem?_eq_some_iff.1 h).1
 simp [hlt]
def MapT (es : List (AV × AV)) (tab : List (List UInt8)) : Prop := es.length = tab.length ∧ ∀ key : List UInt8, lookA (.sc true) (.str (strOf key)) es = some (if key ∈ tab then some (.int (tab.idxOf key : Nat)) else none)
theorem mapT_nil : MapT [] [] := ⟨rfl, fun key => by simp [lookA]⟩
theorem mapT_add {es : List (AV × AV)} {tab : List (List UInt8)} (h : MapT es tab) {key : List UInt8} (hk : key ∉ tab) : upA (.sc true) (.str (strOf key)) (.int (es.length : Nat)) es = some (es ++ [(.str (strOf key), .int (es.length : Nat))]) ∧ MapT (es ++ [(.str (strOf key), .int (es.length : Nat))]) (tab ++ [key]) := by
 refine ⟨up_new (by rw [h.2, if_neg hk]), by simp [h.1], fun k2 => ?_⟩
 have hb := keyEq_str k2 key
 rw [look_app hb (h.2 k2)]
 by_cases h2 : k2 ∈ tab
 ·rw [if_pos h2, if_pos (List.mem_append_left _ h2), List.idxOf_append, if_pos h2]
 ·rw [if_neg h2]
  by_cases h3 : k2 = key
  ·rw [h3, if_pos (by simp), List.idxOf_append, if_neg hk, h.1]
   simp
  ·have hno : k2 ∉ tab ++ [key] := by simp [h2, h3]
   rw [if_neg hno]
   simp [h3]
structure Two (T : List Nat) (tt : Tl) (Tc : List Nat) (b : List UInt8) (tb : Tl) (txt : List UInt8) (tt' : Tl) : Prop where
 own : ∀ i v, tb = .tl i v → T.length ≤ i
 oth : Oth T tt Tc tt'
 appb : App Tc (bytes b) tb
 appt : App Tc (bytes txt) tt'
 dis : ∀ i v v', tb = .tl i v → tt' ≠ .tl i v'
theorem App.lt {T : List Nat} {l : List AV} {t : Tl} (h : App T l t) {i v : Nat} (e : t = .tl i v) : i < T.length := by
 rcases h with ⟨_, rfl⟩ | ⟨_, id, ver, rfl, h2⟩
 ·cases e
 ·cases e; exact (List.getElem?_eq_some_iff.1 h2).1
theorem App.keep {T T' : List Nat} {l : List AV} {t u u' : Tl} (h : App T l t) (o : Oth T u T' u') (d : ∀ i v v', u = .tl i v → t ≠ .tl i v') : App T' l t := by
 rcases h with ⟨h1, rfl⟩ | ⟨h1, id, ver, rfl, h2⟩
 ·exact .inl ⟨h1, rfl⟩
 ·exact .inr ⟨h1, id, ver, rfl, o.2.1 id ver h2 fun v e => d id v ver e rfl⟩
theorem Two.start {T : List Nat} {tt : Tl} {txt : List UInt8} (h : App T (bytes txt) tt) : Two T tt T [] .nil txt tt :=
 ⟨fun i v e => (by cases e), .refl _ _, .inl ⟨rfl, rfl⟩, h, fun i v v' e => (by cases e)⟩
theorem Two.b {T : List Nat} {tt : Tl} {Tc : List Nat} {b : List UInt8} {tb : Tl} {txt : List UInt8} {tt' : Tl} (h : Two T tt Tc b tb txt tt') {Tc2 : List Nat} {b2 : List UInt8} {tb2 : Tl} (ha : App Tc2 (bytes b2) tb2) (o : Oth Tc tb Tc2 tb2) : Two T tt Tc2 b2 tb2 txt tt' where
 own i v e := by
  rcases o.2.2 i v e with ⟨v0, e0⟩ | hle
  ·exact h.own i v0 e0
  ·exact Nat.le_trans h.oth.1 hle
 oth := by
  refine ⟨Nat.le_trans h.oth.1 o.1, fun i v e n => o.2.1 i v (h.oth.2.1 i v e n) fun ver e' => ?_, h.oth.2.2⟩
  have h1 := h.own i ver e'
  have h2 := (List.getElem?_eq_some_iff.1 e).1
  omega
 appb := ha
 appt := h.appt.keep o h.dis
 dis i v v' e e' := by
  rcases o.2.2 i v e with ⟨v0, e0⟩ | hle
  ·exact h.dis i v0 v' e0 e'
  ·have := h.appt.lt e'; omega
theorem Two.t {T : List Nat} {tt : Tl} {Tc : List Nat} {b : List UInt8} {tb : Tl} {txt : List UInt8} {tt' : Tl} (h : Two T tt Tc b tb txt tt') {Tc2 : List Nat} {txt2 : List UInt8} {tt2 : Tl} (ha : App Tc2 (bytes txt2) tt2) (o : Oth Tc tt' Tc2 tt2) : Two T tt Tc2 b tb txt2 tt2 where
 own := h.own
 oth := h.oth.trans o
 appb := h.appb.keep o fun i v v' e e' => h.dis i v' v e' e
 appt := ha
 dis i v v' e e' := by
  rcases o.2.2 i v' e' with ⟨v0, e0⟩ | hle
  ·exact h.dis i v v0 e e0
  ·have := h.appb.lt e; omega
def BaseOK (B H : List AObj) (x m : Nat) (X M : AObj) : Prop := B.length = H.length ∧ B[x]? = some X ∧ B[m]? = some M ∧ ∀ X' M', (B.set x X').set m M' = (H.set x X').set m M'
theorem BaseOK.start {H : List AObj} {x m : Nat} {X M : AObj} (hx : H[x]? = some X) (hm : H[m]? = some M) : BaseOK H H x m X M := ⟨rfl, hx, hm, fun _ _ => rfl⟩
theorem BaseOK.step {B H : List AObj} {x m : Nat} {X M : AObj} (h : BaseOK B H x m X M) (hxm : x ≠ m) (X' M' : AObj) : BaseOK ((B.set x X').set m M') H x m X' M' := by
 obtain ⟨h1, h2, h3, h4⟩ := h
 have hx := (List.getElem?_eq_some_iff.1 h2).1
 have hm := (List.getElem?_eq_some_iff.1 h3).1
 refine ⟨by simp [h1], by rw [List.getElem?_set_ne (Ne.symm hxm)]; simp [hx], by simp [hm], fun X2 M2 => ?_⟩
 rw [← h4]
 apply List.ext_getElem?
 intro i
 simp only [List.getElem?_set, List.length_set]
 by_cases e1 : m = i
 ·simp [e1]
 ·by_cases e2 : x = i
  ·simp [e1, e2]
  ·simp [e1, e2]
theorem ent_lt (e : Tm) : ∀ tab, (e.ent tab).1 < (e.ent tab).2.length := by
 cases e with
 | mk k i n ls kids =>
  intro tab
  rw [Tm.ent]
  split
  ·rename_i h; exact List.idxOf_lt_length_of_mem h
  ·simp
theorem entL_app : ∀ (l : List Tm) (tab : List (List UInt8)) (x : Tm), entL tab (l ++ [x]) = ((entL tab l).1 ++ [(x.ent (entL tab l).2).1], (x.ent (entL tab l).2).2)
 | [], tab, x => by rw [List.nil_append, entL, entL, entL]; rfl
 | y :: l, tab, x => by rw [List.cons_append, entL, entL_app l, entL]; rfl
theorem entL_take {tab : List (List UInt8)} {l : List Tm} {j : Nat} {x : Tm} (h : l[j]? = some x) : entL tab (l.take (j + 1)) = ((entL tab (l.take j)).1 ++ [(x.ent (entL tab (l.take j)).2).1], (x.ent (entL tab (l.take j)).2).2) := by
 rw [List.take_add_one, h]
 exact entL_app _ _ _
theorem entL_pre_of {l : List Tm} (ih : ∀ t ∈ l, ∀ tab, ∃ m, (Tm.ent tab t).2 = tab ++ m) : ∀ tab, ∃ m, (entL tab l).2 = tab ++ m := by
 induction l with
 | nil => intro tab; exact ⟨[], by rw [entL]; simp⟩
 | cons t l ihl =>
  intro tab
  obtain ⟨m1, h1⟩ := ih t (by simp) tab
  obtain ⟨m2, h2⟩ := ihl (fun u hu => ih u (by simp [hu])) (Tm.ent tab t).2
  exact ⟨m1 ++ m2, by rw [entL, ← List.append_assoc, ← h1]; exact h2⟩
theorem ent_pre (e : Tm) : ∀ tab, ∃ m, (e.ent tab).2 = tab ++ m := by
 induction e using Tm.ind with
 | h k i n ls kids ih =>
  intro tab
  obtain ⟨m, hm⟩ := entL_pre_of ih tab
  rw [Tm.ent]
  split
  ·exact ⟨m, hm⟩
  ·refine ⟨m ++ [encN k.toNat ++ ((Tm.mk k i n ls kids).pay ++ (entL tab kids).1.flatMap encN)], ?_⟩
   show (entL tab kids).2 ++ _ = _
   rw [hm, List.append_assoc]
theorem entL_pre (l : List Tm) (tab : List (List UInt8)) : ∃ m, (entL tab l).2 = tab ++ m := entL_pre_of (fun t _ => ent_pre t) tab
theorem entL_pre_take {l : List Tm} {tab : List (List UInt8)} (j : Nat) : ∃ m, (entL tab l).2 = (entL tab (l.take j)).2 ++ m := by
 have key : ∀ (a b : List Tm) (tab : List (List UInt8)), (entL tab (a ++ b)).2 = (entL (entL tab a).2 b).2 := by
  intro a
  induction a with
  | nil => intro b tab; rw [List.nil_append, entL]
  | cons y a ih => intro b tab; rw [List.cons_append, entL, entL]; exact ih b _
 have := key (l.take j) (l.drop j) tab
 rw [List.take_append_drop] at this
 rw [this]
 exact entL_pre _ _
theorem entL_pos_take {l : List Tm} {tab : List (List UInt8)} (j : Nat) : ∃ m, (entL tab l).1 = (entL tab (l.take j)).1 ++ m := by
 have key : ∀ (a b : List Tm) (tab : List (List UInt8)), (entL tab (a ++ b)).1 = (entL tab a).1 ++ (entL (entL tab a).2 b).1 := by
  intro a
  induction a with
  | nil => intro b tab; rw [List.nil_append, entL]; rfl
  | cons y a ih =>
   intro b tab
   rw [List.cons_append, entL, entL]
   show _ :: (entL (Tm.ent tab y).2 (a ++ b)).1 = _
   rw [ih b]; rfl
 have := key (l.take j) (l.drop j) tab
 rw [List.take_append_drop] at this
 exact ⟨_, this⟩
theorem BaseOK.eq {B H : List AObj} {x m : Nat} {X M : AObj} (h : BaseOK B H x m X M) : B = (H.set x X).set m M := by
 rw [← h.2.2.2 X M, set_self h.2.1, set_self h.2.2.1]
theorem flatten_mem {b : List UInt8} {L : List (List UInt8)} (h : b ∈ L) : b.length ≤ L.flatten.length := by
 induction L with
 | nil => simp at h
 | cons x L ih =>
  rw [List.flatten_cons, List.length_append]
  rcases List.mem_cons.1 h with rfl | h
  ·omega
  ·have := ih h; omega
set_option maxHeartbeats 16000000
def KidsH (H : List AObj) (ks : List Int) (kv : AV) : Prop := (∃ t, kv = .sl (ints ks) t) ∨ ∃ q fz, kv = .bs q 0 ks.length 1 false ∧ H[q]? = some (.cells fz (ints ks))
def NdH (H : List AObj) (n : Nd) (a : AV) : Prop := ∃ t1 las kv, a = .agg [.int n.k, .int n.i, .str n.n, .sl las t1, kv] ∧ t1.pure = true ∧ in64 n.k ∧ in64 n.i ∧ n.n.size ≤ lenB ∧ las.length ≤ lenB ∧ n.kids.length ≤ lenB ∧ LIs Lv.Is n.ls las ∧ (∀ x ∈ n.kids, in64 x) ∧ KidsH H n.kids kv
def FrI (H H' : List AObj) : Prop := H.length ≤ H'.length ∧ ∀ (k : Nat) (fz : Bool) (ks : List Int), H[k]? = some (AObj.cells fz (ints ks)) → ∃ fz', H'[k]? = some (AObj.cells fz' (ints ks))
theorem FrI.refl (H : List AObj) : FrI H H := ⟨Nat.le_refl _, fun _ fz _ h => ⟨fz, h⟩⟩
theorem FrI.trans {A B C : List AObj} (h : FrI A B) (k : FrI B C) : FrI A C := ⟨Nat.le_trans h.1 k.1, fun i fz ks e => by obtain ⟨f, e⟩ := h.2 i fz ks e; exact k.2 i f ks e⟩
theorem FrI.app (H G : List AObj) : FrI H (H ++ G) := ⟨by simp, fun k fz ks h => ⟨fz, app_get_of h G⟩⟩
theorem KidsH.mono {H H' : List AObj} {ks : List Int} {kv : AV} (h : KidsH H ks kv) (f : FrI H H') : KidsH H' ks kv := by
 rcases h with h | ⟨q, fz, h1, h2⟩
 ·exact .inl h
 ·obtain ⟨fz', h3⟩ := f.2 q fz ks h2
  exact .inr ⟨q, fz', h1, h3⟩
theorem NdH.mono {H H' : List AObj} {n : Nd} {a : AV} (h : NdH H n a) (f : FrI H H') : NdH H' n a := by
 obtain ⟨t1, las, kv, h1, h2, h3, h4, h5, h6, h7, h8, h9, h10⟩ := h
 exact ⟨t1, las, kv, h1, h2, h3, h4, h5, h6, h7, h8, h9, h10.mono f⟩
theorem NdH.of {n : Nd} {a : AV} (h : n.Is a) (H : List AObj) : NdH H n a := by
 obtain ⟨t1, t2, las, rfl, h1, h2, h3, h4, h5, h6, h7, h8, h9⟩ := h
 exact ⟨t1, las, _, rfl, h1, h3, h4, h5, h6, h7, h8, h9, .inl ⟨t2, rfl⟩⟩
theorem LIs.mono2 {α : Type} {R R' : α → AV → Prop} {l : List α} {al : List AV} (h : LIs R l al) (h' : ∀ x a, R x a → R' x a) : LIs R' l al := h.mono fun x _ a => h' x a
theorem kids_one {H : List AObj} {ks : List Int} {kv : AV} (h : KidsH H ks kv) : oneCell kv = true := by
 rcases h with ⟨t, rfl⟩ | ⟨q, fz, rfl, _⟩ <;> rfl
theorem ndh_cells {H : List AObj} {n : Nd} {a : AV} (h : NdH H n a) : ∃ c, a = .agg c ∧ c.length = 5 ∧ c.take 5 = c ∧ c.all oneCell = true := by
 obtain ⟨t1, las, kv, rfl, _, _, _, _, _, _, _, _, hk⟩ := h
 refine ⟨_, rfl, rfl, rfl, ?_⟩
 have := kids_one hk
 simp only [List.all_cons, List.all_nil, this, onec_v, onec_sl, Bool.and_self]
theorem ndh_all {H : List AObj} : ∀ {l : List Nd} {al : List AV}, LIs (NdH H) l al → (al.all fun x => x.cells.length == 5) = true
 | [], [], _ => rfl
 | n :: l, a :: al, h => by
  simp only [LIs] at h
  obtain ⟨c, rfl, h1, _⟩ := ndh_cells h.1
  simp only [List.all_cons, ndh_all h.2, cells_agg, h1]; rfl
 | [], _ :: _, h => by simp [LIs] at h
 | _ :: _, [], h => by simp [LIs] at h
theorem ndh_get {H : List AObj} {l : List Nd} {al : List AV} {i : Nat} (h : LIs (NdH H) l al) (hi : i < al.length) : ∃ n c, l[i]? = some n ∧ al[i]? = some (.agg c) ∧ c.length = 5 ∧ c.take 5 = c ∧ NdH H n (.agg c) := by
 obtain ⟨n, a, h1, h2, h3, h4, h5⟩ := h.at hi
 obtain ⟨c, rfl, k1, k2, _⟩ := ndh_cells h5
 exact ⟨n, c, h1, h4, k1, k2, h5⟩
def KidB (kv : AV) (k : Nat) : Prop := ∃ o len es ag, kv = .bs k o len es ag
theorem ints_foldl (n : Nat) (s : ASt) (ks : List Int) : (flat (ints ks)).foldl (frz n) s = s := by
 have h : flat (ints ks) = ints ks := by
  induction ks with
  | nil => rfl
  | cons x ks ih => simp only [ints] at ih ⊢; rw [List.map_cons, flat_cons, ih]; rfl
 rw [h]
 induction ks with
 | nil => rfl
 | cons x ks ih =>
  have h2 : flat (ints ks) = ints ks := by
   have := h
   simp only [ints, List.map_cons, flat_cons] at this ⊢
   simpa [AV.cells] using this
  simp only [ints] at ih h2 ⊢
  rw [List.map_cons, List.foldl_cons, fr_pure pv_v]
  exact ih h2
theorem elems_ints {s : ASt} {q : Nat} {fz : Bool} {ks : List Int} (h : s.H[q]? = some (.cells fz (ints ks))) : elemsA s (.bs q 0 ks.length 1 false) = some (ints ks) := by
 have h1 : (ints ks).all AV.one = true := by
  rw [List.all_eq_true]; intro x hx
  obtain ⟨b, _, rfl⟩ := List.mem_map.1 hx; rfl
 have e : ((ints ks).drop 0).take (ks.length * 1) = ints ks := by
  rw [List.drop_zero, Nat.mul_one, ← ints_len ks, List.take_length]
 have key : ∀ (n : Nat) (l : List AV), n ≤ l.length → chunk 1 false n l = l.take n := by
  intro n
  induction n with
  | zero => intro l _; simp [chunk]
  | succ n ih => intro l hl; cases l with
   | nil => simp at hl
   | cons x l =>
    have := ih l (by simpa using hl)
    simp [chunk, this]
 simp only [elemsA, h]
 rw [if_pos]
 ·rw [List.drop_zero, key _ _ (by rw [ints_len]; exact Nat.le_refl _), ← ints_len ks, List.take_length]
 ·refine ⟨by rw [ints_len]; omega, ?_⟩
  rw [Nat.mul_one] at e
  simp only [Nat.mul_one, e, h1]; rfl
theorem nd_pure {H : List AObj} {V : List Nat} {n : Nd} {t1 : Tl} {las : List AV} {kv : AV} (ht : t1.pure = true) (hl : LIs Lv.Is n.ls las) (hk : KidsH H n.kids kv) :
  ∃ t2, t2.pure = true ∧ purify 20 ⟨H, V⟩ (.agg [.int n.k, .int n.i, .str n.n, .sl las t1, kv]) = some (.agg [.int n.k, .int n.i, .str n.n, .sl las t1, .sl (ints n.kids) t2]) := by
 have hps : pureAV (.sl las t1) = true := by rw [pv_sl, ht, lvsPure hl]; rfl
 have key : ∃ t2, t2.pure = true ∧ purify 19 ⟨H, V⟩ kv = some (.sl (ints n.kids) t2) := by
  rcases hk with ⟨t, rfl⟩ | ⟨q, fz, rfl, hq⟩
  ·cases ht2 : t.pure
   ·refine ⟨t.stripR 18 ⟨H, V⟩, by cases t <;> simp [Tl.stripR, Tl.pure] at ht2 ⊢, ?_⟩
    rw [pz_sl, mapO_at (ints_pure _)]; rfl
   ·exact ⟨t, ht2, purify_pure (by rw [pv_sl, ht2, ints_pure]; rfl)⟩
  ·refine ⟨.al, rfl, ?_⟩
   rw [pz_bs, elems_ints (s := ⟨H, V⟩) hq]
   simp [mapO_at (ints_pure _)]
 obtain ⟨t2, h1, h2⟩ := key
 refine ⟨t2, h1, ?_⟩
 simp only [pz_agg, mapO, purify_pure (n := 18) pv_v, purify_pure (n := 18) hps, h2, Option.map_some]
def frzK (kv : AV) (ks : List Int) (H : List AObj) : List AObj := match kv with
 | .bs q _ _ _ _ => H.set q (.cells true (ints ks))
 | _ => H
theorem nd_frz {H : List AObj} {V : List Nat} {n : Nd} {t1 : Tl} {las : List AV} {kv : AV} (ht : t1.pure = true) (hl : LIs Lv.Is n.ls las) (hk : KidsH H n.kids kv) :
  frz 20 ⟨H, V⟩ (.agg [.int n.k, .int n.i, .str n.n, .sl las t1, kv]) = ⟨frzK kv n.kids H, V⟩ := by
 have hps : pureAV (.sl las t1) = true := by rw [pv_sl, ht, lvsPure hl]; rfl
 rcases hk with ⟨t, rfl⟩ | ⟨q, fz, rfl, hq⟩
 ·show frz 20 _ _ = ⟨H, V⟩
  rw [fr_agg]
  split
  ·rfl
  ·simp only [List.foldl_cons, List.foldl_nil, fr_pure pv_v, fr_pure hps, fr_sl (ints_pure _)]
 ·rw [fr_agg, if_neg (by simp [pvs_cons, pv_bs])]
  simp only [List.foldl_cons, List.foldl_nil, fr_pure pv_v, fr_pure hps, fr_bs, elems_ints (s := ⟨H, V⟩) hq, Option.getD_some, ints_foldl, fz_cells hq]; rfl
theorem frzK_len (kv : AV) (ks : List Int) (H : List AObj) : (frzK kv ks H).length = H.length := by
 unfold frzK; split <;> simp
theorem frzK_get {kv : AV} {ks : List Int} {H : List AObj} {k : Nat} (h : ¬ KidB kv k) : (frzK kv ks H)[k]? = H[k]? := by
 unfold frzK
 split
 ·rename_i q o n es ag
  have : q ≠ k := fun e => h ⟨o, n, es, ag, by rw [e]⟩
  rw [List.getElem?_set, if_neg this]
 ·rfl
theorem frzK_fr {kv : AV} {ks : List Int} {H : List AObj} (hk : KidsH H ks kv) : FrI H (frzK kv ks H) := by
 refine ⟨by rw [frzK_len]; exact Nat.le_refl _, fun k fz ks' h => ?_⟩
 rcases hk with ⟨t, rfl⟩ | ⟨q, fz', rfl, hq⟩
 ·exact ⟨fz, h⟩
 ·by_cases e : q = k
  ·subst e
   rw [hq] at h
   simp only [Option.some.injEq, AObj.cells.injEq] at h
   refine ⟨true, ?_⟩
   show (H.set q _)[q]? = _
   rw [List.getElem?_set, if_pos rfl, if_pos (lt_of_get hq), h.2]
  ·refine ⟨fz, ?_⟩
   show (H.set q _)[k]? = _
   rw [List.getElem?_set, if_neg e]; exact h
theorem frzK_app {kv : AV} {ks : List Int} {H G : List AObj} (hk : KidsH H ks kv) : frzK kv ks (H ++ G) = frzK kv ks H ++ G := by
 rcases hk with ⟨t, rfl⟩ | ⟨q, fz', rfl, hq⟩
 ·rfl
 ·show (H ++ G).set q _ = H.set q _ ++ G
  exact List.set_append_left _ _ (lt_of_get hq)
theorem key_call {H G : List AObj} {V : List Nat} {n : Nd} {t1 : Tl} {las : List AV} {kv : AV} (h2 : t1.pure = true) (h3 : in64 n.k) (h4 : in64 n.i) (h5 : n.n.size ≤ lenB) (h6 : las.length ≤ lenB) (h7 : n.kids.length ≤ lenB) (h8 : LIs Lv.Is n.ls las) (h9 : ∀ x ∈ n.kids, in64 x) (h10 : KidsH H n.kids kv) (hf : n.formed = true) (K KP : AV → ASt → Prop) :
  CW (run md pfs) md false ⟨H ++ G, V⟩ 37 [.agg [.int n.k, .int n.i, .str n.n, .sl las t1, kv]] K KP () = K (.str (strOf (keyX n))) ⟨frzK kv n.kids H ++ G, V⟩ := by
 have h10' := h10.mono (FrI.app H G)
 obtain ⟨t2, g1, g2⟩ := nd_pure (V := V) h2 h8 h10'
 obtain ⟨_, rfl, hc⟩ := (key_ret (n := n) ⟨t1, t2, las, rfl, h2, g1, h3, h4, h5, h6, h7, h8, h9⟩ (key_len hf h9)).callP rfl (s := ⟨H ++ G, V⟩) (args := [.agg [.int n.k, .int n.i, .str n.n, .sl las t1, kv]]) (by simp only [mapO, g2])
 rw [hc K KP]
 simp only [List.foldl_cons, List.foldl_nil, nd_frz (V := V) h2 h8 h10', frzK_app h10]
def BS (bi mi : Nat) (sc : Bool) (T : List Tm) (H : List AObj) (V : List Nat) : Prop := bi ≠ mi ∧ ∃ al tn tf es, H[bi]? = some (.cells false [.sl al tn, .mp mi, .sl (ints (frs T)) tf, .bool false, .bool sc]) ∧ H[mi]? = some (.map es) ∧ LIs (NdH H) (nodesOf T) al ∧ MapT es ((nodesOf T).map keyX) ∧ App V al tn ∧ App V (ints (frs T)) tf ∧ ∀ i v v', tn = .tl i v → tf ≠ .tl i v'
def OwB (bi : Nat) (H : List AObj) (i : Nat) : Prop := ∃ al tn x fr tf y z v, H[bi]? = some (.cells false [.sl al tn, x, .sl fr tf, y, z]) ∧ (tn = .tl i v ∨ tf = .tl i v)
def VK (bi : Nat) (H : List AObj) (V : List Nat) (H' : List AObj) (V' : List Nat) : Prop := V.length ≤ V'.length ∧ (∀ i v, V[i]? = some v → ¬ OwB bi H i → V'[i]? = some v) ∧ ∀ i, OwB bi H' i → OwB bi H i ∨ V.length ≤ i
theorem VK.same {bi : Nat} {H H' : List AObj} (V : List Nat) (h : H'[bi]? = H[bi]?) : VK bi H V H' V := ⟨Nat.le_refl _, fun _ _ h _ => h, fun i ⟨al, tn, x, fr, tf, y, z, v, h1, h2⟩ => .inl ⟨al, tn, x, fr, tf, y, z, v, by rw [← h]; exact h1, h2⟩⟩
theorem VK.trans {bi : Nat} {A B C : List AObj} {V V' V'' : List Nat} (h : VK bi A V B V') (k : VK bi B V' C V'') : VK bi A V C V'' := by
 refine ⟨Nat.le_trans h.1 k.1, fun i v h1 h2 => k.2.1 i v (h.2.1 i v h1 h2) fun h3 => ?_, fun i h1 => ?_⟩
 ·have := (List.getElem?_eq_some_iff.1 h1).1
  rcases h.2.2 i h3 with h4 | h4
  ·exact h2 h4
  ·omega
 ·rcases k.2.2 i h1 with h2 | h2
  ·exact h.2.2 i h2
  ·exact .inr (Nat.le_trans h.1 h2)
theorem App.vk {bi : Nat} {H H' : List AObj} {V V' : List Nat} (h : VK bi H V H' V') {l : List AV} {t : Tl} (ha : App V l t) (hn : ∀ i v, t = .tl i v → ¬ OwB bi H i) : App V' l t := by
 rcases ha with h1 | ⟨h1, i, v, rfl, h3⟩
 ·exact .inl h1
 ·exact .inr ⟨h1, i, v, rfl, h.2.1 i v h3 (hn i v rfl)⟩
def AKid (a : AV) (k : Nat) : Prop := ∃ c0 c1 c2 c3 kv, a = .agg [c0, c1, c2, c3, kv] ∧ KidB kv k
def BK (bi : Nat) (Q : Nat → Prop) (H : List AObj) : Prop := ∀ al tn x y z w, H[bi]? = some (.cells false [.sl al tn, x, y, z, w]) → ∀ a ∈ al, ∀ k, AKid a k → Q k
theorem BK.same {bi : Nat} {Q Q' : Nat → Prop} {H H' : List AObj} (h : BK bi Q H) (e : H'[bi]? = H[bi]?) (hq : ∀ k, Q k → Q' k) : BK bi Q' H' := fun al tn x y z w h1 a ha k hk => hq k (h al tn x y z w (by rw [← e]; exact h1) a ha k hk)
theorem ndOf_range {T : List Tm} {t : Tm} (hk : ∀ x ∈ t.kids, x ∈ T) : ∀ x ∈ (ndOf T t).kids, ∃ y ∈ t.kids, x = (T.idxOf y : Nat) ∧ T.idxOf y < T.length := by
 intro x hx
 obtain ⟨y, hy, rfl⟩ := List.mem_map.1 hx
 exact ⟨y, hy, rfl, List.idxOf_lt_length_of_mem (hk y hy)⟩
theorem key_tab {T : List Tm} (hG : GT T) (h6 : T.length ≤ 65536) {t : Tm} (hr : t.right = true) (hk : ∀ x ∈ t.kids, x ∈ T) : (keyX (ndOf T t) ∈ (nodesOf T).map keyX ↔ t ∈ T) ∧ (t ∈ T → ((nodesOf T).map keyX).idxOf (keyX (ndOf T t)) = T.idxOf t) := by
 have hin : ∀ {u : Tm}, (∀ x ∈ u.kids, x ∈ T) → ∀ x ∈ (ndOf T u).kids, in64 x := fun hu x hx => by
  obtain ⟨y, hy, rfl, hlt⟩ := ndOf_range hu x hx
  unfold in64; omega
 have hinj : ∀ u ∈ T, keyX (ndOf T u) = keyX (ndOf T t) → u = t := fun u hu e => by
  have hku := (hG.good.all u hu).2
  exact ndOf_inj hku hk (key_inj (by rw [formed_ndOf]; exact hG.right u hu) (by rw [formed_ndOf]; exact hr) (hin hku) (hin hk) e)
 constructor
 ·rw [nodesOf, List.map_map, List.mem_map]
  constructor
  ·rintro ⟨u, hu, e⟩; rw [← hinj u hu e]; exact hu
  ·intro h; exact ⟨t, h, rfl⟩
 ·intro h
  rw [nodesOf, List.map_map]
  have key : ∀ l : List Tm, (∀ u ∈ l, keyX (ndOf T u) = keyX (ndOf T t) → u = t) → t ∈ l → (l.map (keyX ∘ ndOf T)).idxOf (keyX (ndOf T t)) = l.idxOf t := by
   intro l
   induction l with
   | nil => intro _ h; simp at h
   | cons u l ih =>
    intro h1 h2
    rw [List.map_cons, List.idxOf_cons, List.idxOf_cons]
    by_cases e : u = t
    ·subst e; simp
    ·have : ¬ keyX (ndOf T u) = keyX (ndOf T t) := fun q => e (h1 u (by simp) q)
     have e1 : ((keyX ∘ ndOf T) u == keyX (ndOf T t)) = false := by simpa using this
     have e2 : (u == t) = false := by simpa using e
     rw [e1, e2]
     simp only [cond_false]
     rw [ih (fun v hv => h1 v (by simp [hv])) (by simpa [Ne.symm e] using h2)]
  exact key T hinj h
theorem frs_get {T : List Tm} {x : Tm} (h : x ∈ T) : (ints (frs T))[T.idxOf x]? = some (.int (x.fv : Nat)) := by
 have hlt := List.idxOf_lt_length_of_mem h
 simp only [ints, frs, List.getElem?_map, List.getElem?_eq_getElem hlt, List.getElem_idxOf, Option.map_some]
theorem frs_add (T : List Tm) (t : Tm) : ints (frs (T ++ [t])) = ints (frs T) ++ [.int (t.fv : Nat)] := by simp [ints, frs]
theorem badd_sh {bi mi : Nat} {sc : Bool} {T : List Tm} {H : List AObj} {V : List Nat} (hB : BS bi mi sc T H V) (hG : GT T) {t : Tm} (hr : t.right = true) (hk : ∀ x ∈ t.kids, x ∈ T) {a : AV} (hn : NdH H (ndOf T t) a) (hl : (addT T t).length ≤ 65536) :
  Sh md pfs 73 [.ptr bi 0, a] ⟨H, V⟩ (fun v s => v = .int ((addT T t).idxOf t : Nat) ∧ ∃ H' V', s = ⟨H', V'⟩ ∧ BS bi mi sc (addT T t) H' V' ∧ FrI H H' ∧ VK bi H V H' V' ∧ (∀ k, k < H.length → k ≠ bi → k ≠ mi → ¬ AKid a k → H'[k]? = H[k]?) ∧ ∀ Q, BK bi Q H → (∀ k, AKid a k → Q k) → BK bi Q H') fun _ _ => False := by
 obtain ⟨hne, al, tn, tf, es, b1, b2, b3, b4, b5, b6, b7⟩ := hB
 have hln := b3.len
 rw [nodes_len] at hln
 have hTl : T.length ≤ 65536 := by obtain ⟨m, hm⟩ := addT_pre T t; have := congrArg List.length hm; rw [List.length_append] at this; omega
 obtain ⟨ht1, ht2⟩ := key_tab hG hTl hr hk
 have hf : (ndOf T t).formed = true := by rw [formed_ndOf]; exact hr
 obtain ⟨t1, las, kv, rfl, h2, h3, h4, h5, h6, h7, h8, h9, h10⟩ := hn
 generalize hn : ndOf T t = n at *
 have ek : n.k = t.k := by rw [← hn]; rfl
 have hm := b4.2 (keyX n)
 have lb := lt_of_get b1
 have lm := lt_of_get b2
 have hone := kids_one h10
 have hcl : kv.cells = [kv] := by cases kv <;> first | rfl | simp [oneCell] at hone
 have hkn : kv.known = true := by cases kv <;> first | rfl | simp [oneCell] at hone
 obtain ⟨H1, eH1⟩ : ∃ H1, H1 = frzK kv n.kids H := ⟨_, rfl⟩
 have hq : ∀ k, KidB kv k → k < H.length ∧ k ≠ bi ∧ k ≠ mi := by
  rintro k ⟨o, len, es', ag, rfl⟩
  rcases h10 with ⟨t, e⟩ | ⟨q, fz, e, hq⟩
  ·cases e
  ·simp only [AV.bs.injEq] at e
   obtain ⟨rfl, _⟩ := e
   refine ⟨lt_of_get hq, fun e => ?_, fun e => ?_⟩
   ·subst e; rw [b1] at hq
    simp only [Option.some.injEq, AObj.cells.injEq] at hq
    have := hq.2
    cases hks : n.kids with
    | nil => rw [hks] at this; simp [ints] at this
    | cons x l => rw [hks] at this; simp [ints] at this
   ·subst e; rw [b2] at hq; cases hq
 have g1 : H1[bi]? = H[bi]? := by rw [eH1]; exact frzK_get fun h => (hq bi h).2.1 rfl
 have g2 : H1[mi]? = H[mi]? := by rw [eH1]; exact frzK_get fun h => (hq mi h).2.2 rfl
 have gl : H1.length = H.length := by rw [eH1]; exact frzK_len _ _ _
 have gf : FrI H H1 := by rw [eH1]; exact frzK_fr h10
 have gk : ∀ k, ¬ KidB kv k → H1[k]? = H[k]? := fun k h => by rw [eH1]; exact frzK_get h
 rw [b1] at g1
 rw [b2] at g2
 have c37 := fun K KP => key_call (G := [.cells false [.int n.k, .int n.i, .str n.n, .sl las t1, kv]]) (V := V) h2 h3 h4 h5 h6 h7 h8 h9 h10 hf K KP
 simp only [← eH1] at c37
 refine sh_of pf73_is (Nat.le_of_ble_eq_true rfl) ?_
 by_cases hin : t ∈ T
 ·have ea : addT T t = T := if_pos hin
  rw [if_pos (ht1.2 hin), ht2 hin] at hm
  simp only [pf73, ↓wpre, wall, simprocAttr, List.length_append, List.append_assoc, app_get_len, app_get_add, app_set_len, app_set_add, hcl, hkn, c37, app_get_of g1, app_get_of g2, hm]
  rw [ea]
  refine ⟨rfl, _, _, rfl, ⟨hne, al, tn, tf, es, app_get_of g1 _, app_get_of g2 _, b3.mono2 fun x a hx => hx.mono (gf.trans (.app _ _)), b4, b5, b6, b7⟩, gf.trans (.app _ _), VK.same V (by rw [app_get_of g1, b1]), fun k k1 k2 k3 k4 => ?_, fun Q hQ _ => hQ.same (by rw [app_get_of g1, b1]) fun _ h => h⟩
  rw [List.getElem?_append_left (by omega)]
  exact gk k fun h => k4 ⟨_, _, _, _, _, rfl, h⟩
 have ea : addT T t = T ++ [t] := if_neg hin
 rw [ea, List.length_append, List.length_singleton] at hl
 have hnot := fun h => hin (ht1.1 h)
 rw [if_neg hnot] at hm
 obtain ⟨hu, hM'⟩ := mapT_add b4 hnot
 have hes : es.length = T.length := by rw [b4.1, List.length_map, nodes_len]
 have d29 : decide ((al.length : Int) ≥ 65536) = false := by simp only [decide_eq_false_iff_not]; omega
 simp only [pf73]
 refine seqE (fun E H' V' => H' = H ++ [.cells false [.int n.k, .int n.i, .str n.n, .sl las t1, kv]] ∧ V = V' ∧ E 0 = .ptr bi 0 ∧ E 3 = .ptr H.length 0) ?_ ?_
 ·simp only [↓wpre, wall, simprocAttr, List.length_append, List.append_assoc, app_get_len, app_get_add, app_set_len, app_set_add, hcl, hkn]; exact EQ_in ⟨rfl, rfl, rfl, rfl⟩
 rintro E _ _ ⟨rfl, rfl, e0, e3⟩
 refine seqE (fun E H' V' => H' = H1 ++ [.cells false [.int n.k, .int n.i, .str n.n, .sl las t1, kv]] ∧ V = V' ∧ E 0 = .ptr bi 0 ∧ E 3 = .ptr H.length 0 ∧ E 5 = .str (strOf (keyX n))) ?_ ?_
 ·simp only [↓wpre, wall, simprocAttr, List.length_append, List.append_assoc, app_get_len, app_get_add, app_set_len, app_set_add, e0, e3, c37]; exact EQ_in ⟨rfl, rfl, e0, e3, rfl⟩
 clear e0 e3 E
 rintro E _ _ ⟨rfl, rfl, e0, e3, e5⟩
 have hbox : (H1 ++ [AObj.cells false [.int n.k, .int n.i, .str n.n, .sl las t1, kv]])[H.length]? = some (.cells false [.int n.k, .int n.i, .str n.n, .sl las t1, kv]) := by rw [← gl]; simp
 have gb := app_get_of g1 [AObj.cells false [.int n.k, .int n.i, .str n.n, .sl las t1, kv]]
 have gm := app_get_of g2 [AObj.cells false [.int n.k, .int n.i, .str n.n, .sl las t1, kv]]
 refine seqE (fun E H' V' => H' = H1 ++ [.cells false [.int n.k, .int n.i, .str n.n, .sl las t1, kv]] ∧ V = V' ∧ E 0 = .ptr bi 0 ∧ E 3 = .ptr H.length 0 ∧ E 5 = .str (strOf (keyX n))) ?_ ?_
 ·simp only [↓wpre, wall, simprocAttr, e0, e3, e5, gb, gm, hm]; exact EQ_in ⟨rfl, rfl, e0, e3, e5⟩
 clear e0 e3 e5 E
 rintro E _ _ ⟨rfl, rfl, e0, e3, e5⟩
 refine seqE (fun E H' V' => H' = H1 ++ [.cells false [.int n.k, .int n.i, .str n.n, .sl las t1, kv]] ∧ V = V' ∧ E 0 = .ptr bi 0 ∧ E 3 = .ptr H.length 0 ∧ E 5 = .str (strOf (keyX n))) ?_ ?_
 ·simp only [↓wpre, wall, simprocAttr, e0, e3, e5, gb, d29]; exact EQ_in ⟨rfl, rfl, e0, e3, e5⟩
 clear e0 e3 e5 E
 rintro E _ _ ⟨rfl, rfl, e0, e3, e5⟩
 refine seqE (fun E H' V' => H' = H1 ++ [.cells false [.int n.k, .int n.i, .str n.n, .sl las t1, kv]] ∧ V = V' ∧ E 0 = .ptr bi 0 ∧ E 3 = .ptr H.length 0 ∧ E 5 = .str (strOf (keyX n)) ∧ E 8 = .int 0) ?_ ?_
 ·simp only [↓wpre, wall, simprocAttr]; exact EQ_in ⟨rfl, rfl, e0, e3, e5, rfl⟩
 clear e0 e3 e5 E
 rintro E _ _ ⟨rfl, rfl, e0, e3, e5, e8⟩
 have hff := formed_facts hf
 refine seqE (fun E H' V' => H' = H1 ++ [.cells false [.int n.k, .int n.i, .str n.n, .sl las t1, kv]] ∧ V = V' ∧ E 0 = .ptr bi 0 ∧ E 3 = .ptr H.length 0 ∧ E 5 = .str (strOf (keyX n)) ∧ E 8 = .int (fv0 n.k n.i : Nat)) ?_ ?_
 ·cases q0 : (n.k == 0)
  ·have : n.k ≠ 0 := by simpa using q0
   simp only [↓wpre, wall, simprocAttr, e3, hbox, q0]; exact EQ_in ⟨rfl, rfl, e0, e3, e5, by rw [show fv0 n.k n.i = 0 from if_neg this]; exact e8⟩
  ·have h0 : n.k = 0 := by simpa using q0
   have w1 : IntKind.i64.wrap (n.i + 1) = ((fv0 n.k n.i : Nat) : Int) := by rw [fv0, if_pos h0, wrap_in (by unfold in64; omega)]; omega
   simp only [↓wpre, wall, simprocAttr, e3, hbox, q0, w1]; exact EQ_in ⟨rfl, rfl, e0, e3, e5, rfl⟩
 clear e0 e3 e5 e8 E
 rintro E _ _ ⟨rfl, rfl, e0, e3, e5, e8⟩
 refine seqE (fun E H' V' => H' = H1 ++ [.cells false [.int n.k, .int n.i, .str n.n, .sl las t1, kv]] ∧ V = V' ∧ E 0 = .ptr bi 0 ∧ E 3 = .ptr H.length 0 ∧ E 5 = .str (strOf (keyX n)) ∧ E 8 = .int (t.fv : Nat)) ?_ ?_
 ·have hkl : n.kids.length = t.kids.length := by rw [← hn]; simp [ndOf]
  have hfv : t.fv = fvF n.k (fv0 n.k n.i) 0 (t.kids.map Tm.fv) := by
   rw [← hn]
   cases t
   exact fv_mk _ _ _ _ _
  have hia := ints_all n.kids
  have hfa := ints_all (frs T)
  have hkv : ∀ G, KidsH (H1 ++ G) n.kids kv := fun G => h10.mono (gf.trans (.app _ _))
  refine seqE (fun E H' V' => H' = H1 ++ [.cells false [.int n.k, .int n.i, .str n.n, .sl las t1, kv]] ∧ V = V' ∧ E 0 = .ptr bi 0 ∧ E 3 = .ptr H.length 0 ∧ E 5 = .str (strOf (keyX n)) ∧ E 8 = .int (fv0 n.k n.i : Nat) ∧ E 40 = kv ∧ E 41 = .int (n.kids.length : Nat) ∧ E 42 = .int (0 : Nat)) ?_ ?_
  ·rcases h10 with ⟨tk, rfl⟩ | ⟨q, fz, rfl, hq0⟩
   ·simp only [↓wpre, wall, simprocAttr, e3, hbox, ints_len]; exact EQ_in ⟨rfl, rfl, e0, e3, e5, e8, rfl, rfl, rfl⟩
   ·simp only [↓wpre, wall, simprocAttr, e3, hbox]; exact EQ_in ⟨rfl, rfl, e0, e3, e5, e8, rfl, rfl, rfl⟩
  clear e0 e3 e5 e8 E
  rintro E _ _ ⟨rfl, rfl, e0, e3, e5, e8, e40, e41, e42⟩
  rw [W_block]
  refine W_loopE (fun j => n.kids.length - j) (fun j E H' V' => H' = H1 ++ [.cells false [.int n.k, .int n.i, .str n.n, .sl las t1, kv]] ∧ V = V' ∧ E 0 = .ptr bi 0 ∧ E 3 = .ptr H.length 0 ∧ E 5 = .str (strOf (keyX n)) ∧ E 8 = .int (fvF n.k (fv0 n.k n.i) 0 ((t.kids.take j).map Tm.fv) : Nat) ∧ E 40 = kv ∧ E 41 = .int (n.kids.length : Nat) ∧ E 42 = .int (j : Nat) ∧ j ≤ n.kids.length) ?_ 0 ⟨rfl, rfl, e0, e3, e5, by simpa [fvF] using e8, e40, e41, e42, Nat.zero_le _⟩
  clear e0 e3 e5 e8 e40 e41 e42 E
  rintro j E _ _ ⟨rfl, rfl, e0, e3, e5, e8, e40, e41, e42, hj⟩
  rcases Nat.lt_or_ge j n.kids.length with hlt | hge
  ·have hdec : decide ((j : Int) < n.kids.length) = true := by simpa using hlt
   have hltI : (j : Int) < n.kids.length := by omega
   obtain ⟨x, d0, d1, d2⟩ := ints_get hlt
   have hy : t.kids[j]? = some (t.kids[j]'(by omega)) := List.getElem?_eq_getElem _
   generalize t.kids[j]'(by omega) = y at hy
   have hyT : y ∈ T := hk y (List.mem_of_getElem? hy)
   have hx : x = (T.idxOf y : Nat) := by
    have : n.kids[j]? = some ((T.idxOf y : Nat) : Int) := by rw [← hn]; simp [ndOf, hy]
    rw [this] at d0
    exact (Option.some.inj d0).symm
   subst hx
   have hfr := frs_get hyT
   have hyv := fv_right hG y hyT
   obtain ⟨_, rfl, c78⟩ := (binder_ret n.k j).call rfl (by simp [pvs_cons, pvs_nil, pv_v])
   have hb01 := binder_01 n.k j
   have w59 : IntKind.i64.wrap ((y.fv : Nat) - binderG n.k j) = (y.fv : Nat) - binderG n.k j := wrap_in (by unfold in64; omega)
   have w60 : (if ((y.fv : Nat) : Int) - binderG n.k j > (fvF n.k (fv0 n.k n.i) 0 ((t.kids.take j).map Tm.fv) : Nat) then ((y.fv : Nat) : Int) - binderG n.k j else (fvF n.k (fv0 n.k n.i) 0 ((t.kids.take j).map Tm.fv) : Nat)) = ((fvF n.k (fv0 n.k n.i) 0 ((t.kids.take (j + 1)).map Tm.fv) : Nat) : Int) := by
    rw [List.take_add_one, hy, List.map_append, Option.toList_some, List.map_cons, List.map_nil, fvF_snoc, List.length_map, List.length_take, Nat.min_eq_left (by omega), Nat.zero_add]
    generalize fvF n.k (fv0 n.k n.i) 0 ((t.kids.take j).map Tm.fv) = z
    split <;> omega
   rcases h10 with ⟨tk, rfl⟩ | ⟨q, fz, rfl, hq0⟩
   ·simp only [↓wpre, wall, simprocAttr, e0, e3, e5, e8, e40, e41, e42, hdec, d2, hia, gb, hfr, hfa, hbox, c78, w59, w60]
    exact EQ_in ⟨j + 1, by omega, rfl, rfl, e0, e3, e5, rfl, e40, e41, next_ixv (by omega), by omega⟩
   ·obtain ⟨fz', hq1⟩ := (gf.trans (.app H1 [.cells false [.int n.k, .int n.i, .str n.n, .sl las t1, .bs q 0 n.kids.length 1 false]])).2 q fz n.kids hq0
    have hdr : ((ints n.kids).drop j).head? = some (.int (T.idxOf y : Nat)) := by rw [List.head?_drop]; exact d2
    simp only [↓wpre, wall, simprocAttr, e0, e3, e5, e8, e40, e41, e42, hdec, hltI, hq1, gb, hfr, hfa, hbox, c78, w59, w60, Nat.zero_add, Nat.mul_one, hdr, Int.toNat_natCast]
    exact EQ_in ⟨j + 1, by omega, rfl, rfl, e0, e3, e5, rfl, e40, e41, next_ixv (by omega), by omega⟩
  ·have hdec : decide ((j : Int) < n.kids.length) = false := by simpa using hge
   rw [List.take_of_length_le (by omega), ← hfv] at e8
   simp only [↓wpre, wall, simprocAttr, e41, e42, hdec]
   exact EQ_in ⟨rfl, rfl, e0, e3, e5, e8⟩
 clear e0 e3 e5 e8 E
 rintro E _ _ ⟨rfl, rfl, e0, e3, e5, e8⟩
 have hu' : upA (.sc true) (.str (strOf (keyX n))) (.int (al.length : Nat)) es = some (es ++ [(.str (strOf (keyX n)), .int (es.length : Nat))]) := by rw [hln, ← hes]; exact hu
 refine seqE (fun E H' V' => H' = (H1 ++ [AObj.cells false [AV.int n.k, AV.int n.i, AV.str n.n, AV.sl las t1, kv]]).set mi (AObj.map (es ++ [(AV.str (strOf (keyX n)), AV.int (es.length : Nat))])) ∧ V = V' ∧ E 0 = .ptr bi 0 ∧ E 3 = .ptr H.length 0 ∧ E 8 = .int (t.fv : Nat)) ?_ ?_
 ·simp only [↓wpre, wall, simprocAttr, e0, e3, e5, e8, gb, gm, hu']; exact EQ_in ⟨rfl, rfl, e0, e3, e8⟩
 clear e0 e3 e5 e8 E
 have hB2 : ((H1 ++ [AObj.cells false [AV.int n.k, AV.int n.i, AV.str n.n, AV.sl las t1, kv]]).set mi (AObj.map (es ++ [(AV.str (strOf (keyX n)), AV.int (es.length : Nat))])))[bi]? = some (.cells false [.sl al tn, .mp mi, .sl (ints (frs T)) tf, .bool false, .bool sc]) := by
  rw [List.getElem?_set, if_neg (Ne.symm hne)]; exact gb
 have hX2 : ((H1 ++ [AObj.cells false [AV.int n.k, AV.int n.i, AV.str n.n, AV.sl las t1, kv]]).set mi (AObj.map (es ++ [(AV.str (strOf (keyX n)), AV.int (es.length : Nat))])))[H.length]? = some (.cells false [.int n.k, .int n.i, .str n.n, .sl las t1, kv]) := by
  rw [List.getElem?_set, if_neg (by omega)]; exact hbox
 have hM2 : ((H1 ++ [AObj.cells false [AV.int n.k, AV.int n.i, AV.str n.n, AV.sl las t1, kv]]).set mi (AObj.map (es ++ [(AV.str (strOf (keyX n)), AV.int (es.length : Nat))])))[mi]? = some (.map (es ++ [(.str (strOf (keyX n)), .int (es.length : Nat))])) := by
  have hlt : mi < (H1 ++ [AObj.cells false [AV.int n.k, AV.int n.i, AV.str n.n, AV.sl las t1, kv]]).length := by rw [List.length_append]; omega
  rw [List.getElem?_set, if_pos rfl, if_pos hlt]
 have hF2 : FrI H ((H1 ++ [AObj.cells false [AV.int n.k, AV.int n.i, AV.str n.n, AV.sl las t1, kv]]).set mi (AObj.map (es ++ [(AV.str (strOf (keyX n)), AV.int (es.length : Nat))]))) := by
  refine (gf.trans (.app H1 [AObj.cells false [AV.int n.k, AV.int n.i, AV.str n.n, AV.sl las t1, kv]])).trans ⟨by rw [List.length_set]; exact Nat.le_refl _, fun k fz ks h => ⟨fz, ?_⟩⟩
  have : mi ≠ k := by rintro rfl; rw [gm] at h; cases h
  rw [List.getElem?_set, if_neg this]; exact h
 have hK2 : ∀ k, k < H.length → k ≠ mi → ¬ KidB kv k → ((H1 ++ [AObj.cells false [AV.int n.k, AV.int n.i, AV.str n.n, AV.sl las t1, kv]]).set mi (AObj.map (es ++ [(AV.str (strOf (keyX n)), AV.int (es.length : Nat))])))[k]? = H[k]? := fun k k1 k2 k3 => by
  rw [List.getElem?_set, if_neg (Ne.symm k2), List.getElem?_append_left (by omega)]; exact gk k k3
 rintro E H2 _ ⟨eH2, rfl, e0, e3, e8⟩
 rw [← eH2] at hB2 hX2 hM2 hF2
 simp only [← eH2] at hK2
 have ha5 : ((al.all fun x => x.cells.length == 5)) = true := ndh_all b3
 obtain ⟨tn', V2, f1, f2, f3⟩ := app_many (es := 5) (xs := [.agg [.int n.k, .int n.i, .str n.n, .sl las t1, kv]]) b5 (by show al.length + 1 ≤ 1073741824; omega) ha5 (by
  simp only [List.all_cons, List.all_nil, cells_agg, hone, onec_v, onec_sl]; rfl)
 have b6' := b6.keep f3 fun i v v' h => b7 i v v' h
 obtain ⟨tf', V3, q1, q2, q3⟩ := app_many (es := 1) (xs := [.int (t.fv : Nat)]) b6' (by rw [ints_len, frs_len]; show T.length + 1 ≤ 1073741824; omega) (ints_all _) rfl
 rw [← frs_add] at q1 q2
 have dis : ∀ i v v', tn' = .tl i v → tf ≠ .tl i v' := fun i v v' h1 h2 => by
  rcases f3.2.2 i v h1 with ⟨v0, h3⟩ | h3
  ·exact b7 i v0 v' h3 h2
  ·have := b6.lt h2; omega
 have f2' := f2.keep q3 fun i v v' h1 h2 => dis i v' v h2 h1
 have dis2 : ∀ i v v', tn' = .tl i v → tf' ≠ .tl i v' := fun i v v' h1 h2 => by
  rcases q3.2.2 i v' h2 with ⟨v0, h3⟩ | h3
  ·exact dis i v v0 h1 h3
  ·have := f2.lt h1; omega
 have lb2 := lt_of_get hB2
 have hs1 : ∀ Y, (H2.set bi Y)[bi]? = some Y := fun Y => by rw [List.getElem?_set, if_pos rfl, if_pos lb2]
 have w92 : IntKind.i64.wrap (((al.length + 1 : Nat) : Int) - 1) = (al.length : Nat) := by rw [wrap_in (by unfold in64; omega)]; omega
 simp only [↓wpre, wall, simprocAttr, e0, e3, e8, hB2, hX2, srcA_sl, f1, q1, hs1, List.set_set, List.length_append, w92]
 rw [ea]
 have hF3 : FrI H (H2.set bi (AObj.cells false [AV.sl (al ++ [AV.agg [AV.int n.k, AV.int n.i, AV.str n.n, AV.sl las t1, kv]]) tn', AV.mp mi, AV.sl (ints (frs (T ++ [t]))) tf', AV.bool false, AV.bool sc])) := by
  refine hF2.trans ⟨by rw [List.length_set]; exact Nat.le_refl _, fun k fz ks h => ⟨fz, ?_⟩⟩
  have : bi ≠ k := by
   rintro rfl
   rw [hB2] at h
   simp only [Option.some.injEq, AObj.cells.injEq] at h
   have := h.2
   cases ks with
   | nil => simp [ints] at this
   | cons x l => simp [ints] at this
  rw [List.getElem?_set, if_neg this]; exact h
 have hnd : nodesOf (T ++ [t]) = nodesOf T ++ [n] := by rw [nodes_add hG.good hk, hn]
 refine ⟨by rw [idx_new hin, hln], _, _, rfl, ⟨hne, _, tn', tf', _, hs1 _, by rw [List.getElem?_set, if_neg hne]; exact hM2, ?_, by rw [hnd, List.map_append]; exact hM', f2', q2, dis2⟩, hF3, ?_, fun k k1 k2 k3 k4 => ?_, fun Q hQ hQa => ?_⟩
 ·rw [hnd]
  exact (b3.mono2 fun x a hx => hx.mono hF3).append (.one ⟨t1, las, kv, rfl, h2, h3, h4, h5, h6, h7, h8, h9, h10.mono hF3⟩)
 ·refine ⟨Nat.le_trans f3.1 q3.1, fun i v e h => q3.2.1 i v (f3.2.1 i v e fun ver e2 => h ⟨_, _, _, _, _, _, _, _, b1, .inl e2⟩) fun ver e2 => h ⟨_, _, _, _, _, _, _, _, b1, .inr e2⟩, fun i ⟨_, _, _, _, _, _, _, v, e1, e2⟩ => ?_⟩
  rw [hs1] at e1
  simp only [Option.some.injEq, AObj.cells.injEq, List.cons.injEq, AV.sl.injEq, true_and, and_true] at e1
  obtain ⟨⟨_, rfl⟩, _, ⟨_, rfl⟩, _⟩ := e1
  rcases e2 with e2 | e2
  ·rcases f3.2.2 i v e2 with ⟨v0, h⟩ | h
   ·exact .inl ⟨_, _, _, _, _, _, _, _, b1, .inl h⟩
   ·exact .inr h
  ·rcases q3.2.2 i v e2 with ⟨v0, h⟩ | h
   ·exact .inl ⟨_, _, _, _, _, _, _, _, b1, .inr h⟩
   ·exact .inr (Nat.le_trans f3.1 h)
 ·rw [List.getElem?_set, if_neg (Ne.symm k2)]
  exact hK2 k k1 k3 fun h => k4 ⟨_, _, _, _, _, rfl, h⟩
 ·intro al' tn2 x y z w e1 a ha k hk
  rw [hs1] at e1
  simp only [Option.some.injEq, AObj.cells.injEq, List.cons.injEq, AV.sl.injEq, true_and, and_true] at e1
  obtain ⟨⟨rfl, _⟩, _⟩ := e1
  rcases List.mem_append.1 ha with ha | ha
  ·exact hQ _ _ _ _ _ _ b1 a ha k hk
  ·rw [List.mem_singleton.1 ha] at hk; exact hQa k hk
end Go.Proofs.Eng
