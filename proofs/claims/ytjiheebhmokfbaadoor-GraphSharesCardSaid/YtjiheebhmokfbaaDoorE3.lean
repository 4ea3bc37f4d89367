/- The builder puts terms for variables. No conditions beyond those in the theorems. -/
import Derived.Test.YtjiheebhmokfbaaDoorC6
import Derived.Test.YtjiheebhmokfbaaDoorB5
set_option linter.all false
set_option linter.deprecated false
set_option linter.unnecessarySimpa false
set_option linter.unusedVariables false
set_option linter.unusedSimpArgs false
set_option linter.defProp false
namespace Go.Proofs.Eng
open Go Go.Proofs
set_option maxRecDepth 100000
set_option maxHeartbeats 16000000
structure SizeP (lim : Nat) (x : Tm) (r : Nat) : Prop where
 le : x.sz ≤ lim → r = x.sz
 gt : lim < x.sz → lim < r
 pos : 1 ≤ r
 up : r ≤ (lim + 1) * x.dp
structure SmallG (N : List Nd) (T : List Tm) : Prop where
 eq : N = nodesOf T
 good : GT T
 few : FewG N
 sz : ∀ t ∈ T, t.sz ≤ 400
theorem SmallG.len {N : List Nd} {T : List Tm} (h : SmallG N T) : T.length ≤ 60 := by
 have := h.few.len; rw [h.eq, nodes_len] at this; exact this
theorem good_dp {T : List Tm} (h : Good T) : ∀ t ∈ T, t.dp ≤ T.length := by
 have key : ∀ (l : List Tm) (m : Nat), (∀ x ∈ l, x.dp ≤ m) → tdpL l ≤ m := by
  intro l
  induction l with
  | nil => intro m _; simp [tdpL]
  | cons x l ih =>
   intro m h
   rw [tdpL]
   have h1 := h x (by simp)
   have h2 := ih m fun y hy => h y (by simp [hy])
   omega
 induction h with
 | nil => simp
 | @add T t h hn hf hk ih =>
  intro x hx
  rw [List.length_append, List.length_singleton]
  rcases List.mem_append.1 hx with hx | hx
  ·have := ih x hx; omega
  ·rw [List.mem_singleton.1 hx]
   have : tdpL t.kids ≤ T.length := key _ _ fun y hy => ih y (hk y hy)
   cases t
   rw [Tm.dp]
   simp only [Tm.kids] at this
   omega
theorem GRes.eq {N M : List Nd} {i j e f : Int} {v : AV} (h : GRes N i e v) : ∃ al t, v = .tup [.agg [.sl al t], .int i, .int e] ∧ GIs N (.agg [.sl al t]) := by
 obtain ⟨ga, rfl, h1⟩ := h
 obtain ⟨al, t, rfl, h2⟩ := h1
 exact ⟨al, t, rfl, al, t, rfl, h2⟩
theorem AddR.eq {T : List Tm} {t : Tm} {v : AV} (h : AddR T t v) : ∃ (N : List Nd) (i e : Int), (∀ w, AddR T t w → GRes N i e w) ∧ GRes N i e v := by
 unfold AddR at h ⊢
 by_cases hr : t.allR = true
 ·simp only [hr, if_true] at h ⊢; exact ⟨_, _, _, fun _ h => h, h⟩
 ·simp only [hr, if_false] at h ⊢; exact ⟨_, _, _, fun _ h => h, h⟩
end Go.Proofs.Eng
namespace Go.Proofs.Eng
open Go Go.Proofs
set_option maxRecDepth 100000
set_option maxHeartbeats 16000000
theorem lift_sh {bi mi dm : Nat} {sc : Bool} {T : List Tm} {H : List AObj} {V : List Nat} {x z : Tm} {b fr : Int} {es : List (AV × AV)} (hB : BS bi mi sc T H V) (hG : GT T) (hx : x ∈ T) (hz : T[0]? = some z) (hf0 : 0 ≤ fr) (hf1 : fr ≤ 4294967294) (hb0 : -65536 ≤ b) (hb1 : b ≤ 1000000) (hdm : H[dm]? = some (.map es)) (hDM : DM fr (lvar z b fr) (lbad b fr) T sc es) (hne : dm ≠ mi) (hd : x.dp ≤ 1000000) (hl : ((x.mv fr (lvar z b fr) 0).enter T).length ≤ 65536) :
  Sh md pfs 47 [.ptr bi 0, .int (T.idxOf x : Nat), .int b, .int fr, .mp dm] ⟨H, V⟩ (fun v s => v = .int (((x.mv fr (lvar z b fr) 0).enter T).idxOf (x.mv fr (lvar z b fr) 0) : Nat) ∧ ∃ H' V' es', s = ⟨H', V'⟩ ∧ BS bi mi (sc || x.me fr (lbad b fr) 0) ((x.mv fr (lvar z b fr) 0).enter T) H' V' ∧ GT ((x.mv fr (lvar z b fr) 0).enter T) ∧ H'[dm]? = some (.map es') ∧ DM fr (lvar z b fr) (lbad b fr) ((x.mv fr (lvar z b fr) 0).enter T) (sc || x.me fr (lbad b fr) 0) es' ∧ StpP bi (fun k => k ≠ mi ∧ k ≠ dm) H V H' V') fun _ _ => False := by
 obtain ⟨lb, lm⟩ := hB.bi_lt
 have ldm := lt_of_get hdm
 have hnb : dm ≠ bi := fun e => by subst e; obtain ⟨_, _, _, _, _, b1, _⟩ := hB; rw [b1] at hdm; cases hdm
 have hzr : ∀ y ∈ z.subs, y.right = true := fun y hy => hG.right y (hG.good.subs z (List.mem_of_getElem? hz) y hy)
 have hV := lift_ok (P := fun k => k ≠ mi ∧ k ≠ dm) (z := z) (b := b) (fr := fr) (bi := bi) (mi := mi) (dm := dm) (bb := H.length) (yb := H.length + 1) (fb := H.length + 2) (base := H.length + 3) (fun h => h.2 rfl) (fun h => h.1 rfl) hzr hf0 hf1 hb0 hb1 (by omega) (by omega) (by omega) (by omega) (by omega) (by omega) hnb hne
 have hM : MvP fr (lvar z b fr) (lbad b fr) bi mi dm (fun k => k ≠ mi ∧ k ≠ dm) (LJ z b fr bi H.length (H.length + 1) (H.length + 2)) sc T (H ++ [.cells false [.ptr bi 0], .cells false [.int b], .cells false [.int fr]]) V es :=
  ⟨hB.app _, hG, app_get_of hdm _, hDM, by simp, by simp, by simp, hz⟩
 obtain ⟨_, _, ⟨rfl, H2, V2, es2, rfl, hM2, hS⟩, c53⟩ := (moved_sh hV hf0 hf1 x (d := 0) hM hx (by simp) (by omega) hl).callRet rfl
 rw [show (((0 : Nat)) : Int) = 0 from rfl] at c53
 refine sh_of pf47_is (Nat.le_of_ble_eq_true rfl) ?_
 simp only [pf47, ↓wpre, wall, simprocAttr, List.length_append, List.append_assoc, app_get_len, app_get_add, app_set_len, app_set_add, c53]
 exact ⟨_, _, es2, rfl, hM2.bs, hM2.gt, hM2.map, hM2.dm, (StpP.app V lb _).trans hS⟩
def MoveR (T : List Tm) (y : Tm) (e : Bool) (v : AV) : Prop := if e = true then GRes [] 0 24 v else GRes (nodesOf (y.enter T)) ((y.enter T).idxOf y : Nat) 0 v
theorem MoveR.eq {T : List Tm} {y : Tm} {e : Bool} {v : AV} (h : MoveR T y e v) : ∃ (N : List Nd) (i e' : Int), (∀ w, MoveR T y e w → GRes N i e' w) ∧ GRes N i e' v := by
 unfold MoveR at h ⊢
 by_cases hr : e = true
 ·simp only [hr, if_true] at h ⊢; exact ⟨_, _, _, fun _ h => h, h⟩
 ·simp only [hr] at h ⊢; exact ⟨_, _, _, fun _ h => h, h⟩
def LiftR (T : List Tm) (i b fr : Int) (v : AV) : Prop := ∃ bad : Bool, (bad = true ↔ i < 0 ∨ (T.length : Int) ≤ i ∨ fr < 0 ∨ b < -65536 ∨ 65536 < b) ∧ if bad = true then GRes [] 0 2 v else ∃ x z, T[i.toNat]? = some x ∧ T[0]? = some z ∧ MoveR T (x.mv (min fr 4294967294) (lvar z b (min fr 4294967294)) 0) (x.me (min fr 4294967294) (lbad b (min fr 4294967294)) 0) v
theorem LiftR.bad {T : List Tm} {i b fr : Int} (h : i < 0 ∨ (T.length : Int) ≤ i ∨ fr < 0 ∨ b < -65536 ∨ 65536 < b) : LiftR T i b fr (.tup [.agg [.sl [] .nil], .int 0, .int 2]) :=
 ⟨true, by simp [h], by rw [if_pos rfl]; exact ⟨_, rfl, [], .nil, rfl, rfl, Nat.zero_le _, trivial⟩⟩
end Go.Proofs.Eng
namespace Go.Proofs.Eng
open Go Go.Proofs
set_option maxRecDepth 100000
set_option maxHeartbeats 16000000
theorem keyEq_int (a b : Int) : keyEqM (.sc false) (.int a) (.int b) = some (decide (a = b)) := by
 show some (a == b) = _
 by_cases h : a = b
 ·subst h; simp
 ·simp [h]
def encD (p : Nat × Nat) : AV × AV := (.int (p.1 : Nat), .mp p.2)
theorem look_D (d : Nat) : ∀ D : List (Nat × Nat), (∃ m, (d, m) ∈ D ∧ lookA (.sc false) (.int (d : Nat)) (D.map encD) = some (some (.mp m))) ∨ ((∀ m, (d, m) ∉ D) ∧ lookA (.sc false) (.int (d : Nat)) (D.map encD) = some none)
 | [] => .inr ⟨by simp, by rw [List.map_nil, lookA]⟩
 | (e, m) :: D => by
  rw [List.map_cons, encD, lookA, keyEq_int]
  by_cases h : e = d
  ·subst h
   exact .inl ⟨m, by simp, by simp⟩
  ·have : decide (((d : Nat) : Int) = (e : Nat)) = false := by simp only [decide_eq_false_iff_not]; omega
   rw [this]
   rcases look_D d D with ⟨m', h1, h2⟩ | ⟨h1, h2⟩
   ·exact .inl ⟨m', by simp [h1], by simpa using h2⟩
   ·refine .inr ⟨fun m' hm => ?_, by simpa using h2⟩
    rcases List.mem_cons.1 hm with h3 | h3
    ·exact h (Prod.mk.inj h3).1.symm
    ·exact h1 m' h3
section
variable (ts : List Tm) (z : Tm)
def pbad (i : Int) (d : Nat) : Bool := if (ts.length : Int) ≤ i - d then decide (65535 < i - ts.length) else match ts[(i - d).toNat]? with | some t => t.me 0 (lbad d 0) 0 | none => false
def pvar (i : Int) (d : Nat) : Tm := if (ts.length : Int) ≤ i - d then (if 65535 < i - ts.length ∨ i < ts.length then z else vr (i - ts.length)) else match ts[(i - d).toNat]? with | some t => t.mv 0 (lvar z d 0) 0 | none => z
end
structure PJ (ts : List Tm) (z : Tm) (ks : List Int) (bi mi dm bb tb lb L : Nat) (sc : Bool) (H : List AObj) (T : List Tm) : Prop where
 hb : H[bb]? = some (.cells false [.ptr bi 0])
 ht : ∃ tt, H[tb]? = some (.cells false [.sl (ints ks) tt])
 hl : H[lb]? = some (.cells false [.mp L])
 hz : T[0]? = some z
 hk : ∀ (m : Nat) (t : Tm), ts[m]? = some t → t ∈ T ∧ ks[m]? = some ((T.idxOf t : Nat) : Int)
 hD : ∃ D : List (Nat × Nat), H[L]? = some (.map (D.map encD)) ∧ (∀ p ∈ D, ∀ q ∈ D, p.2 = q.2 → p = q) ∧ ∀ p ∈ D, p.2 ≠ mi ∧ p.2 ≠ dm ∧ p.2 ≠ L ∧ ∃ es, H[p.2]? = some (.map es) ∧ DM 0 (lvar z (p.1 : Nat) 0) (lbad (p.1 : Nat) 0) T sc es
theorem PJ.stab {ts : List Tm} {z : Tm} {ks : List Int} {bi mi dm bb tb lb L base : Nat} {sc sc' : Bool} {H H' : List AObj} {T m : List Tm} (h1 : bb < base) (h2 : tb < base) (h3 : lb < base) (h4 : bb ≠ bi) (h5 : tb ≠ bi) (h6 : lb ≠ bi) (h7 : L ≠ mi) (h8 : L ≠ dm) (h : PJ ts z ks bi mi dm bb tb lb L sc H T) (hs : sc = true → sc' = true)
  (hc : ∀ (k : Nat) (fz : Bool) (c : List AV), k < base → k ≠ bi → H[k]? = some (.cells fz c) → H'[k]? = some (.cells fz c)) (hm : ∀ (k : Nat) (es : List (AV × AV)), k ≠ mi → k ≠ dm → H[k]? = some (.map es) → H'[k]? = some (.map es)) : PJ ts z ks bi mi dm bb tb lb L sc' H' (T ++ m) := by
 obtain ⟨a1, ⟨tt, a2⟩, a3, a4, a5, D, a6, a7, a8⟩ := h
 refine ⟨hc _ _ _ h1 h4 a1, ⟨tt, hc _ _ _ h2 h5 a2⟩, hc _ _ _ h3 h6 a3, by rw [List.getElem?_append_left (lt_of_get a4)]; exact a4, fun j t ht => ?_, D, hm _ _ h7 h8 a6, a7, fun p hp => ?_⟩
 ·obtain ⟨b1, b2⟩ := a5 j t ht
  exact ⟨List.mem_append_left _ b1, by rw [idx_pre b1]; exact b2⟩
 ·obtain ⟨b1, b2, b3, es, b4, b5⟩ := a8 p hp
  exact ⟨b1, b2, b3, es, hm _ _ b1 b2 b4, b5.grow hs⟩
theorem PJ.lift {ts : List Tm} {z : Tm} {ks : List Int} {bi mi dm bb tb lb L base : Nat} {sc sc' : Bool} {H H' : List AObj} {V V' : List Nat} {T m : List Tm} (h4 : bb ≠ bi) (h5 : tb ≠ bi) (h6 : lb ≠ bi) (h7 : L ≠ mi) {D : List (Nat × Nat)} {d q : Nat} (h : PJ ts z ks bi mi dm bb tb lb L sc H T) (hD : H[L]? = some (.map (D.map encD))) (hd : (d, q) ∈ D) (hs : sc = true → sc' = true) (hS : StpP bi (fun k => k ≠ mi ∧ k ≠ q) H V H' V') {es' : List (AV × AV)} (he : H'[q]? = some (.map es')) (hDM : DM 0 (lvar z (d : Nat) 0) (lbad (d : Nat) 0) (T ++ m) sc' es') : PJ ts z ks bi mi dm bb tb lb L sc' H' (T ++ m) := by
 obtain ⟨a1, ⟨tt, a2⟩, a3, a4, a5, D', a6, a7, a8⟩ := h
 rw [hD] at a6
 have e : D.map encD = D'.map encD := by simpa using a6
 have e2 : D = D' := by
  have key : ∀ A B : List (Nat × Nat), A.map encD = B.map encD → A = B := by
   intro A
   induction A with
   | nil => intro B h; cases B with
    | nil => rfl
    | cons b B => simp at h
   | cons a A ih => intro B h; cases B with
    | nil => simp at h
    | cons b B =>
     simp only [List.map_cons, List.cons.injEq, encD, Prod.mk.injEq, AV.mp.injEq] at h
     obtain ⟨⟨g1, g2⟩, g3⟩ := h
     simp at g1
     rw [ih B g3]
     congr 1
     exact Prod.ext (by omega) g2
  exact key _ _ e
 subst e2
 obtain ⟨b1, b2, b3, _⟩ := a8 _ hd
 refine ⟨hS.cells _ _ _ h4 a1, ⟨tt, hS.cells _ _ _ h5 a2⟩, hS.cells _ _ _ h6 a3, by rw [List.getElem?_append_left (lt_of_get a4)]; exact a4, fun j t ht => ?_, D, hS.maps _ _ ⟨h7, Ne.symm b3⟩ hD, a7, fun p hp => ?_⟩
 ·obtain ⟨b1, b2⟩ := a5 j t ht
  exact ⟨List.mem_append_left _ b1, by rw [idx_pre b1]; exact b2⟩
 ·obtain ⟨c1, c2, c3, es, c4, c5⟩ := a8 p hp
  by_cases hpq : p.2 = q
  ·have := a7 p hp _ hd hpq
   subst this
   exact ⟨c1, c2, c3, es', he, hDM⟩
  ·exact ⟨c1, c2, c3, es, hS.maps _ _ ⟨c1, hpq⟩ c4, c5.grow hs⟩
end Go.Proofs.Eng
namespace Go.Proofs.Eng
open Go Go.Proofs
set_option maxRecDepth 100000
set_option maxHeartbeats 16000000
theorem pvar_right {ts : List Tm} {z : Tm} (hz : ∀ y ∈ z.subs, y.right = true) (hts : ∀ t ∈ ts, ∀ y ∈ t.subs, y.right = true) (i : Int) (d : Nat) : ∀ y ∈ (pvar ts z i d).subs, y.right = true := by
 unfold pvar
 split
 ·split
  ·exact hz
  ·rename_i h
   rw [not_or] at h
   exact vr_right (by omega) (by omega)
 ·split
  ·rename_i t ht
   exact mv_right (fun i e => by
    unfold lvar
    split
    ·exact hz
    ·rename_i h
     have : 0 ≤ i + (d : Nat) ∧ i + (d : Nat) ≤ 65535 := by
      simp only [lbad, Bool.or_eq_true, decide_eq_true_eq, not_or] at h
      omega
     exact vr_right this.1 this.2) 0 (hts t (List.mem_of_getElem? ht))
  ·exact hz
theorem put_ok {ts : List Tm} {z : Tm} {ks : List Int} {bi mi dm bb tb lb L base : Nat} (hz : ∀ y ∈ z.subs, y.right = true) (hts : ∀ t ∈ ts, ∀ y ∈ t.subs, y.right = true) (htd : ∀ t ∈ ts, t.dp ≤ 1000000) (hkl : ks.length = ts.length) (hkn : ts.length ≤ 1000) (h1 : bb < base) (h2 : tb < base) (h3 : lb < base) (h4 : bb ≠ bi) (h5 : tb ≠ bi) (h6 : lb ≠ bi) (h7 : L ≠ mi) (h8 : L ≠ dm) (h9 : dm ≠ bi) (h10 : dm ≠ mi) (h11 : dm < base) (h12 : L < base) :
  VOk 0 (pvar ts z) (pbad ts) bi mi dm base (fun _ => False) (PJ ts z ks bi mi dm bb tb lb L) 54 [.ptr tb 0, .ptr bb 0, .ptr lb 0] := by
 refine ⟨fun {sc T H V i d} hB hG hJ hbase i0 i1 i2 hd hl => ?_, fun hJ hs hc hm => hJ.stab h1 h2 h3 h4 h5 h6 h7 h8 hs hc hm, fun h => h, fun h => h, h9, h10, pvar_right hz hts⟩
 have hJ0 := hJ
 obtain ⟨a1, ⟨tt, a2⟩, a3, a4, a5, D, a6, a7, a8⟩ := hJ
 obtain ⟨z1, z2⟩ := enter_zero a4
 obtain ⟨lbi, lmi⟩ := hB.bi_lt
 have hLb : L ≠ bi := fun e => by subst e; obtain ⟨_, _, _, _, _, b1, _⟩ := hB; rw [b1] at a6; cases a6
 have w11 : IntKind.i64.wrap (i - (d : Nat)) = i - (d : Nat) := wrap_in (by unfold in64; omega)
 have w20 : IntKind.i64.wrap (i - (ts.length : Nat)) = i - (ts.length : Nat) := wrap_in (by unfold in64; omega)
 have hsh : Sh md pfs 54 [.int i, .int (d : Nat), .ptr tb 0, .ptr bb 0, .ptr lb 0] ⟨H, V⟩ (fun v s => v = .int (((pvar ts z i d).enter T).idxOf (pvar ts z i d) : Nat) ∧ ∃ H' V', s = ⟨H', V'⟩ ∧ BS bi mi (sc || pbad ts i d) ((pvar ts z i d).enter T) H' V' ∧ StpP bi (fun k => False ∨ k = dm) H V H' V' ∧ PJ ts z ks bi mi dm bb tb lb L (sc || pbad ts i d) H' ((pvar ts z i d).enter T)) fun _ _ => False := by
  refine sh_of pf54_is (Nat.le_of_ble_eq_true rfl) ?_
  rcases Int.lt_or_le (i - d) ts.length with hlt | hge
  ·have d15 : decide (i - (d : Nat) ≥ (ts.length : Nat)) = false := by simp only [decide_eq_false_iff_not]; omega
   have hn : ((i - d).toNat : Int) = i - d := by omega
   obtain ⟨t, ht⟩ : ∃ t, ts[(i - d).toNat]? = some t := ⟨ts[(i - d).toNat]'(by omega), List.getElem?_eq_getElem _⟩
   obtain ⟨htT, hkt⟩ := a5 _ t ht
   have htm := List.mem_of_getElem? ht
   have hv : pvar ts z i d = t.mv 0 (lvar z d 0) 0 := by rw [pvar, if_neg (by omega), ht]
   have hb : pbad ts i d = t.me 0 (lbad d 0) 0 := by rw [pbad, if_neg (by omega), ht]
   rw [hv] at hl ⊢
   rw [hb]
   have hki : (ints ks)[(i - d).toNat]? = some (.int (T.idxOf t : Nat)) := by simp only [ints, List.getElem?_map, hkt, Option.map_some]
   have hia := ints_all ks
   rcases look_D d D with ⟨q, m1, m2⟩ | ⟨m1, m2⟩
   ·obtain ⟨n1, n2, n3, es, n4, n5⟩ := a8 _ m1
    obtain ⟨_, _, ⟨rfl, H2, V2, es2, rfl, g1, g2, g3, g4, g5⟩, c47⟩ := (lift_sh (dm := q) (b := (d : Nat)) (fr := 0) (x := t) hB hG htT a4 (by omega) (by omega) (by omega) (by omega) n4 n5 n1 (htd t htm) hl).callRet rfl
    have hm0 : ∃ m, (t.mv 0 (lvar z (d : Nat) 0) 0).enter T = T ++ m := by
     have hr := pvar_right hz hts i d
     rw [hv] at hr
     exact (enter_pre hG hr).2.1
    obtain ⟨m0, hm0⟩ := hm0
    have gP : StpP bi (fun k => False ∨ k = dm) H V H2 V2 := g5.mono fun k h => by
     rcases h with h | rfl
     ·exact h.elim
     ·exact ⟨h10, Ne.symm n2⟩
    have hJ2 : PJ ts z ks bi mi dm bb tb lb L (sc || t.me 0 (lbad (d : Nat) 0) 0) H2 ((t.mv 0 (lvar z (d : Nat) 0) 0).enter T) := by
     rw [hm0] at g4 ⊢
     exact hJ0.lift (base := base) h4 h5 h6 h7 a6 m1 (fun h => by rw [h]; rfl) g5 g3 g4
    simp only [pf54, ↓wpre, wall, simprocAttr, a1, a2, a3, a6, w11, ints_len, hkl, d15, m2, hn, hki, hia, c47]
    exact ⟨by omega, _, _, rfl, g1, gP, hJ2⟩
   ·have hLl := lt_of_get a6
    have up := up_new (kk := .sc false) (k := .int (d : Nat)) (x := .mp H.length) m2
    have a6' := app_get_of a6 [AObj.map []]
    have eD : D.map encD ++ [(AV.int (d : Nat), AV.mp H.length)] = (D ++ [(d, H.length)]).map encD := by rw [List.map_append]; rfl
    rw [eD] at up
    have hlk : lookA (.sc false) (.int (d : Nat)) ((D ++ [(d, H.length)]).map encD) = some (some (.mp H.length)) := by
     rcases look_D d (D ++ [(d, H.length)]) with ⟨q, r1, r2⟩ | ⟨r1, _⟩
     ·rcases List.mem_append.1 r1 with r1 | r1
      ·exact absurd r1 (m1 q)
      ·have := List.mem_singleton.1 r1
       rw [(Prod.mk.inj this).2] at r2; exact r2
     ·exact absurd (by simp) (r1 H.length)
    have hg : ∀ (k : Nat) (o : AObj), k ≠ L → H[k]? = some o → ((H ++ [AObj.map []]).set L (.map ((D ++ [(d, H.length)]).map encD)))[k]? = some o := fun k o hk h => by
     rw [List.getElem?_set, if_neg (Ne.symm hk)]; exact app_get_of h _
    have hcl : ∀ (k : Nat) (fz : Bool) (c : List AV), H[k]? = some (.cells fz c) → k ≠ L := fun k fz c h e => by subst e; rw [a6] at h; cases h
    have hF1 : FrI (H ++ [AObj.map []]) ((H ++ [AObj.map []]).set L (.map ((D ++ [(d, H.length)]).map encD))) := fri_set a6' fun fz ks h => by cases h
    have hB1 : BS bi mi sc T ((H ++ [AObj.map []]).set L (.map ((D ++ [(d, H.length)]).map encD))) V := (hB.app [AObj.map []]).keep (by rw [List.getElem?_set, if_neg hLb]) (by rw [List.getElem?_set, if_neg h7]) hF1 fun _ _ _ h => h
    have hbi1 : ((H ++ [AObj.map []]).set L (.map ((D ++ [(d, H.length)]).map encD)))[bi]? = H[bi]? := by rw [List.getElem?_set, if_neg hLb, List.getElem?_append_left lbi]
    have hS1 : StpP bi (fun k => False ∨ k = dm) H V ((H ++ [AObj.map []]).set L (.map ((D ++ [(d, H.length)]).map encD))) V := by
     refine ⟨(FrI.app _ _).trans hF1, VK.same V hbi1, fun k fz c _ k2 => hg k _ (hcl k fz c k2) k2, fun k es k1 k2 => hg k _ (fun e => ?_) k2, fun Q hQ => hQ.same hbi1 fun _ h => .inl h⟩
     rcases k1 with k1 | rfl
     ·exact k1.elim
     ·exact h8 e.symm
    have hL1 : ((H ++ [AObj.map []]).set L (.map ((D ++ [(d, H.length)]).map encD)))[L]? = some (.map ((D ++ [(d, H.length)]).map encD)) := get_set a6'
    have hq1 : ((H ++ [AObj.map []]).set L (.map ((D ++ [(d, H.length)]).map encD)))[H.length]? = some (.map []) := by rw [List.getElem?_set, if_neg (by omega)]; simp
    have b1 := hg _ _ (hcl _ _ _ a1) a1
    have b2 := hg _ _ (hcl _ _ _ a2) a2
    have b3 := hg _ _ (hcl _ _ _ a3) a3
    have hJ1 : PJ ts z ks bi mi dm bb tb lb L sc ((H ++ [AObj.map []]).set L (.map ((D ++ [(d, H.length)]).map encD))) T := by
     refine ⟨b1, ⟨tt, b2⟩, b3, a4, a5, D ++ [(d, H.length)], hL1, fun p hp q hq hpq => ?_, fun p hp => ?_⟩
     ·have key : ∀ p ∈ D, p.2 < H.length := fun p hp => by obtain ⟨_, _, _, es, r, _⟩ := a8 p hp; exact lt_of_get r
      rcases List.mem_append.1 hp with hp | hp <;> rcases List.mem_append.1 hq with hq | hq
      ·exact a7 p hp q hq hpq
      ·rw [List.mem_singleton.1 hq] at hpq; have := key p hp; simp at hpq; omega
      ·rw [List.mem_singleton.1 hp] at hpq; have := key q hq; simp at hpq; omega
      ·rw [List.mem_singleton.1 hp, List.mem_singleton.1 hq]
     ·rcases List.mem_append.1 hp with hp | hp
      ·obtain ⟨r1, r2, r3, es, r4, r5⟩ := a8 p hp
       exact ⟨r1, r2, r3, es, hg _ _ r3 r4, r5⟩
      ·rw [List.mem_singleton.1 hp]
       exact ⟨by show H.length ≠ mi; omega, by show H.length ≠ dm; omega, by show H.length ≠ L; omega, [], hq1, [], rfl, by simp⟩
    have m1' : (d, H.length) ∈ D ++ [(d, H.length)] := by simp
    obtain ⟨_, _, ⟨rfl, H2, V2, es2, rfl, g1, g2, g3, g4, g5⟩, c47⟩ := (lift_sh (dm := H.length) (b := (d : Nat)) (fr := 0) (x := t) hB1 hG htT a4 (by omega) (by omega) (by omega) (by omega) hq1 ⟨[], rfl, by simp⟩ (by omega) (htd t htm) hl).callRet rfl
    have hm0 : ∃ m, (t.mv 0 (lvar z (d : Nat) 0) 0).enter T = T ++ m := by
     have hr := pvar_right hz hts i d
     rw [hv] at hr
     exact (enter_pre hG hr).2.1
    obtain ⟨m0, hm0⟩ := hm0
    have gP : StpP bi (fun k => False ∨ k = dm) H V H2 V2 := hS1.trans (g5.mono fun k h => by
     rcases h with h | rfl
     ·exact h.elim
     ·exact ⟨h10, by omega⟩)
    have hJ2 : PJ ts z ks bi mi dm bb tb lb L (sc || t.me 0 (lbad (d : Nat) 0) 0) H2 ((t.mv 0 (lvar z (d : Nat) 0) 0).enter T) := by
     rw [hm0] at g4 ⊢
     exact hJ1.lift (base := base) h4 h5 h6 h7 hL1 m1' (fun h => by rw [h]; rfl) g5 g3 g4
    simp only [pf54, ↓wpre, wall, simprocAttr, a1, a2, a3, a6, app_get_of a3, a6', b1, b2, b3, hL1, hlk, up, w11, ints_len, hkl, d15, m2, hn, hki, hia, c47]
    exact ⟨by omega, _, _, rfl, g1, gP, hJ2⟩
  ·have d15 : decide (i - (d : Nat) ≥ (ts.length : Nat)) = true := by simp only [decide_eq_true_eq]; omega
   have hSH := variable_sh (P := fun k => k ≠ mi) (i := i - ts.length) hB hG (fun h => h rfl) (by omega) (by omega) fun h => by
    rw [pvar, if_pos hge, if_neg (by omega)] at hl; exact hl
   obtain ⟨v, _, ⟨H2, V2, rfl, g1, g2, g3⟩, c55⟩ := hSH.callRet rfl
   have gP : StpP bi (fun k => False ∨ k = dm) H V H2 V2 := g1.mono fun k h => by rcases h with h | rfl; exact h.elim; exact h10
   rcases Int.lt_or_le 65535 (i - ts.length) with h | h
   ·obtain ⟨rfl, hb9⟩ := g3 h
    have hv : pvar ts z i d = z := by rw [pvar, if_pos hge, if_pos (.inl h)]
    have hb : pbad ts i d = true := by rw [pbad, if_pos hge]; simpa using h
    rw [hv, z1, z2, hb, Bool.or_true]
    have := hJ0.stab (m := []) (sc' := true) (H' := H2) h1 h2 h3 h4 h5 h6 h7 h8 (fun _ => rfl) (fun k fz c _ k2 h => g1.cells k fz c k2 h) (fun k es k1 _ h => g1.maps k es k1 h)
    rw [List.append_nil] at this
    simp only [pf54, ↓wpre, wall, simprocAttr, a1, a2, w11, ints_len, hkl, d15, w20, c55]
    exact ⟨_, _, rfl, hb9, gP, this⟩
   ·obtain ⟨rfl, hb9⟩ := g2 h
    have hv : pvar ts z i d = vr (i - ts.length) := by rw [pvar, if_pos hge, if_neg (by omega)]
    have hb : pbad ts i d = false := by rw [pbad, if_pos hge, decide_eq_false_iff_not]; omega
    rw [hv, hb, Bool.or_false]
    obtain ⟨_, ⟨m, hm⟩, _⟩ := enter_pre hG (vr_right (i := i - ts.length) (by omega) h)
    have := hJ0.stab (m := m) (sc' := sc) (H' := H2) h1 h2 h3 h4 h5 h6 h7 h8 id (fun k fz c _ k2 h => g1.cells k fz c k2 h) (fun k es k1 _ h => g1.maps k es k1 h)
    simp only [pf54, ↓wpre, wall, simprocAttr, a1, a2, w11, ints_len, hkl, d15, w20, c55]
    exact ⟨_, _, rfl, hb9, gP, by rw [hm]; exact this⟩
 obtain ⟨_, _, ⟨rfl, H2, V2, rfl, k1, k2, k3⟩, c54⟩ := hsh.callRet rfl
 exact ⟨H2, V2, k1, k2, k3, c54⟩
end Go.Proofs.Eng
namespace Go.Proofs.Eng
open Go Go.Proofs
set_option maxRecDepth 100000
set_option maxHeartbeats 16000000
theorem stripR_pure (n : Nat) (s : ASt) (t : Tl) : (t.stripR n s).pure = true := by
 cases t <;> simp only [Tl.stripR] <;> (try split) <;> rfl
end Go.Proofs.Eng
namespace Go.Proofs.Eng
open Go Go.Proofs
set_option maxRecDepth 100000
set_option maxHeartbeats 16000000
theorem check52_ret (k : Int) {al : List AV} {t : Tl} : Out md pfs 52 [.int k, .ip [.sl al t] 0] (· = .bool (decide (k < 0) || decide (k ≥ (al.length : Nat)))) fun _ => False := by
 refine out_of pf52_is (Nat.le_of_ble_eq_true rfl) ?_
 cases c1 : decide (k < 0)
 ·simp only [pf52, ↓wpre, wall, simprocAttr, c1, Bool.false_or]
 ·simp only [pf52, ↓wpre, wall, simprocAttr, c1, Bool.true_or]
theorem pz_slints {k : Nat} {s : ASt} {l : List Int} {t : Tl} : purify (k + 2) s (.sl (ints l) t) = some (.sl (ints l) (t.stripR (k + 1) s)) := by
 rw [pz_sl, mapO_at (ints_pure _)]; rfl
theorem range52_call {ks : List Int} {t tg : Tl} (hl : ks.length ≤ lenB) {al : List AV} (ht : tg.pure = true) (ha : pureAVs al = true) {H : List AObj} {T : List Nat} {q : Nat} (hq : H[q]? = some (.cells false [.sl al tg])) : ∀ K KP, CW (run md pfs) md false ⟨H, T⟩ 35 [.sl (ints ks) t, .fn 52 [.ptr q 0]] K KP () = K (.bool (ks.any fun k => decide (k < 0) || decide (k ≥ (al.length : Nat)))) ⟨H.set q (.cells true [.sl al tg]), T⟩ := by
 have hpa : pureAV (.sl al tg) = true := by rw [pv_sl, ht, ha]; rfl
 obtain ⟨_, rfl, hc⟩ := (cont35_ret 52 [.ip [.sl al tg] 0] rfl (by simp [pvs_cons, pvs_nil, pv_ip, hpa]) (fun k => decide (k < 0) || decide (k ≥ (al.length : Nat))) (stripR_pure 19 ⟨H, T⟩ t) hl (fun x _ => check52_ret x)).callP rfl (s := ⟨H, T⟩) (args := [.sl (ints ks) t, .fn 52 [.ptr q 0]]) (by
  simp only [mapO, pz_slints, pz_fn, pz_ptr, hq, List.length_cons, List.length_nil, Nat.zero_le, if_true, purify_pure (n := 17) hpa, Option.map_some])
 intro K KP
 rw [hc K KP]
 have e1 : frz 20 ⟨H, T⟩ (.sl (ints ks) t) = ⟨H, T⟩ := fr_sl (ints_pure _)
 have e2 : frz 20 ⟨H, T⟩ (.fn 52 [.ptr q 0]) = ⟨H.set q (.cells true [.sl al tg]), T⟩ := by
  rw [fr_fn, if_neg (by simp [pvs_cons, pv_ptr])]
  simp only [List.foldl_cons, List.foldl_nil, fr_ptr, hq, fz_cells hq]
  exact fr_pure hpa
 simp only [List.foldl_cons, List.foldl_nil, e1, e2]
theorem app_cap (i : Int) {ks : List Int} (h : ks.length ≤ 1000) : ∃ t T', ∀ H, appA ⟨H, []⟩ 1 none [AV.int i] (.cap 1) (ints ks) = some (.sl (ints (i :: ks)) t, ⟨H, T'⟩) := by
 cases ks with
 | nil => exact ⟨.cap 1, [], fun H => rfl⟩
 | cons k ks =>
  refine ⟨.tl 0 0, [0], fun H => ?_⟩
  have h1 := ints_all (k :: ks)
  have h2 : ((ints (k :: ks)).all fun x => x.cells.length == 1 && x.cells.all oneCell) = true := by
   rw [List.all_eq_true]
   intro x hx
   obtain ⟨y, _, rfl⟩ := List.mem_map.1 hx
   rfl
  have h3 : ([AV.int i].length + (ints (k :: ks)).length ≤ 1073741824 ∨ (1 : Nat) = 1 ∧ [AV.int i].length + (ints (k :: ks)).length ≤ 8796093022208) := by
   rw [ints_len]; simp only [List.length_cons, List.length_nil] at h ⊢; omega
  have h4 : 1 < [AV.int i].length + (ints (k :: ks)).length := by rw [ints_len]; simp
  show (if _ then _ else _) = _
  rw [if_pos ⟨h3, rfl, h2⟩]
  simp only [h4, if_true]
  rfl
def rngB (N : Nat) (l : List Int) : Bool := l.any fun k => decide (k < 0) || decide (k ≥ (N : Nat))
def pTs (T : List Tm) (z : Tm) (ks : List Int) : List Tm := ks.map fun k => (T[k.toNat]?).getD z
theorem pTs_get {T : List Tm} (hG : GT T) {z : Tm} {ks : List Int} (hb : rngB T.length ks = false) (m : Nat) (t : Tm) (h : (pTs T z ks)[m]? = some t) : t ∈ T ∧ ks[m]? = some ((T.idxOf t : Nat) : Int) := by
 simp only [pTs, List.getElem?_map] at h
 cases hk : ks[m]? with
 | none => rw [hk] at h; cases h
 | some k =>
  rw [hk] at h
  simp only [Option.map_some, Option.some.injEq] at h
  have h1 : (decide (k < 0) || decide (k ≥ (T.length : Nat))) = false := by
   have := List.any_eq_false.1 hb k (List.mem_of_getElem? hk)
   simpa using this
  rw [Bool.or_eq_false_iff, decide_eq_false_iff_not, decide_eq_false_iff_not] at h1
  obtain ⟨x, hx⟩ : ∃ x, T[k.toNat]? = some x := ⟨T[k.toNat]'(by omega), List.getElem?_eq_getElem _⟩
  rw [hx, Option.getD_some] at h
  subst h
  obtain ⟨_, hnm, _⟩ := good_at hG hx
  have := (idx_first hx fun y hy e => hnm (by rw [← e]; exact hy)).2
  exact ⟨List.mem_of_getElem? hx, by congr 1; omega⟩
end Go.Proofs.Eng
