/- Few graphs, and the law of the check. No conditions beyond those in the theorems. -/
import Derived.Test.YtjiheebhmokfbaaDoorT13
import Derived.Test.YtjiheebhmokfbaaDoorC6
import Derived.Test.YtjiheebhmokfbaaDoorPf50
import Derived.KernelRfl
set_option linter.all false
set_option linter.deprecated false
set_option linter.unnecessarySimpa false
set_option linter.unusedVariables false
set_option linter.unusedSimpArgs false
set_option linter.defProp false
namespace Go.Proofs.Eng
open Go Go.Proofs
set_option maxRecDepth 100000
set_option maxHeartbeats 16000000
section
variable {fr : Int} {var : Int → Nat → Tm} {ve : Int → Nat → Bool}
theorem mv_pos {x : Tm} {d : Nat} (h : (x.fv : Int) ≤ fr + d) : x.mv fr var d = x ∧ x.me fr ve d = false := by
 cases x
 exact ⟨by rw [Tm.mv, if_pos h], by rw [Tm.me, if_pos h]⟩
theorem mv_var {k i : Int} {n : ByteArray} {ls : List Lv} {kids : List Tm} {d : Nat} (h : ¬ ((Tm.mk k i n ls kids).fv : Int) ≤ fr + d) (hk : k = 0) : (Tm.mk k i n ls kids).mv fr var d = var i d ∧ (Tm.mk k i n ls kids).me fr ve d = ve i d :=
 ⟨by rw [Tm.mv, if_neg h, if_pos hk], by rw [Tm.me, if_neg h, if_pos hk]⟩
theorem mv_neg {k i : Int} {n : ByteArray} {ls : List Lv} {kids : List Tm} {d : Nat} (h : ¬ ((Tm.mk k i n ls kids).fv : Int) ≤ fr + d) (hk : k ≠ 0) : (Tm.mk k i n ls kids).mv fr var d = .mk k i n ls (mvL fr var d k 0 kids) ∧ (Tm.mk k i n ls kids).me fr ve d = meL fr ve d k 0 kids :=
 ⟨by rw [Tm.mv, if_neg h, if_neg hk], by rw [Tm.me, if_neg h, if_neg hk]⟩
theorem mvL_take {d : Nat} {k : Int} {l : List Tm} {j : Nat} {x : Tm} (h : l[j]? = some x) : mvL fr var d k 0 (l.take (j + 1)) = mvL fr var d k 0 (l.take j) ++ [x.mv fr var (d + (binderG k j).toNat)] ∧ meL fr ve d k 0 (l.take (j + 1)) = (meL fr ve d k 0 (l.take j) || x.me fr ve (d + (binderG k j).toNat)) := by
 have hlt := (List.getElem?_eq_some_iff.1 h).1
 have e : l.take (j + 1) = l.take j ++ [x] := by rw [List.take_add_one, h]; rfl
 rw [e, mvL_snoc, meL_snoc, List.length_take, Nat.min_eq_left (by omega), Nat.zero_add]
 exact ⟨rfl, rfl⟩
theorem mvL_tk {d : Nat} {k : Int} : ∀ {l : List Tm} {i j : Nat}, mvL fr var d k i (l.take j) = (mvL fr var d k i l).take j
 | [], i, j => by rw [List.take_nil, mvL, List.take_nil]
 | x :: l, i, 0 => by rw [List.take_zero, List.take_zero, mvL]
 | x :: l, i, j + 1 => by rw [List.take_succ_cons, mvL, mvL, List.take_succ_cons, mvL_tk]
theorem enterL_one (T l : List Tm) (x : Tm) : enterL T (l ++ [x]) = Tm.enter (enterL T l) x := by
 rw [enterL_split, enterL, enterL]
theorem ids_step {a : List Int} {v : Int} {n j : Nat} (ha : a.length = j) (hj : j < n) : (ints (a ++ List.replicate (n - j) 0)).take j ++ [AV.v (.int .i64 v)] ++ (ints (a ++ List.replicate (n - j) 0)).drop (j + 1) = ints (a ++ [v] ++ List.replicate (n - (j + 1)) 0) := by
 have e : n - j = n - (j + 1) + 1 := by omega
 rw [e, List.replicate_succ]
 subst ha
 simp [ints]
 rw [List.drop_append, List.drop_eq_nil_of_le (by simp), List.length_map, show a.length + 1 - a.length = 1 from by omega]; rfl
theorem flat_rep (w : Nat) : flat (List.replicate w (AV.v (.int .i64 0))) = ints (List.replicate w 0) := by
 induction w with
 | zero => rfl
 | succ w ih => rw [List.replicate_succ, flat_cons, ih]; rfl
def Par (bi : Nat) (idx : Nat) (d : Nat) (fr : Int) (dm : Nat) (f : FuncId) (caps : List AV) (E : Env) : Prop := E 0 = .ptr bi 0 ∧ E 1 = .int (idx : Nat) ∧ E 2 = .int (d : Nat) ∧ E 3 = .int fr ∧ E 4 = .mp dm ∧ E 5 = .fn f caps
structure MvP (fr : Int) (var : Int → Nat → Tm) (ve : Int → Nat → Bool) (bi mi dm : Nat) (P : Nat → Prop) (J : Bool → List AObj → List Tm → Prop) (sc : Bool) (T : List Tm) (H : List AObj) (V : List Nat) (es : List (AV × AV)) : Prop where
 bs : BS bi mi sc T H V
 gt : GT T
 map : H[dm]? = some (.map es)
 dm : DM fr var ve T sc es
 j : J sc H T
theorem VOk.japp {bi mi dm base : Nat} {P : Nat → Prop} {J : Bool → List AObj → List Tm → Prop} {f : FuncId} {caps : List AV} (hV : VOk fr var ve bi mi dm base P J f caps) {sc : Bool} {H : List AObj} {T : List Tm} (h : J sc H T) (G : List AObj) : J sc (H ++ G) T := by
 have := hV.stab (m := []) h id (H' := H ++ G) (fun k fz c _ _ h => app_get_of h G) (fun k es _ _ h => app_get_of h G)
 simpa using this
theorem MvP.app {bi mi dm base : Nat} {P : Nat → Prop} {J : Bool → List AObj → List Tm → Prop} {f : FuncId} {caps : List AV} (hV : VOk fr var ve bi mi dm base P J f caps) {sc : Bool} {T : List Tm} {H : List AObj} {V : List Nat} {es : List (AV × AV)} (h : MvP fr var ve bi mi dm P J sc T H V es) (G : List AObj) : MvP fr var ve bi mi dm P J sc T (H ++ G) V es := ⟨h.bs.app G, h.gt, app_get_of h.map G, h.dm, hV.japp h.j G⟩
theorem moved_sh {bi mi dm base : Nat} {P : Nat → Prop} {J : Bool → List AObj → List Tm → Prop} {f : FuncId} {caps : List AV} (hV : VOk fr var ve bi mi dm base P J f caps) (hf0 : 0 ≤ fr) (hf1 : fr ≤ 4294967294) (x : Tm) : ∀ {sc : Bool} {T : List Tm} {H : List AObj} {V : List Nat} {d : Nat} {es : List (AV × AV)}, MvP fr var ve bi mi dm P J sc T H V es → x ∈ T → base ≤ H.length → d + x.dp ≤ 1000000 → ((x.mv fr var d).enter T).length ≤ 65536 →
  Sh md pfs 53 [.ptr bi 0, .int (T.idxOf x : Nat), .int (d : Nat), .int fr, .mp dm, .fn f caps] ⟨H, V⟩ (fun v s => v = .int (((x.mv fr var d).enter T).idxOf (x.mv fr var d) : Nat) ∧ ∃ H' V' es', s = ⟨H', V'⟩ ∧ MvP fr var ve bi mi dm P J (sc || x.me fr ve d) ((x.mv fr var d).enter T) H' V' es' ∧ StpP bi P H V H' V') fun _ _ => False := by
 induction x using Tm.ind with
 | h k i nm ls kids ih =>
 intro sc T H V d es hM hx hbase hd hl
 generalize hX : Tm.mk k i nm ls kids = x at *
 obtain ⟨hne, al, tn, tf, es0, b1, b2, b3, b4, b5, b6, b7⟩ := hM.bs
 obtain ⟨lb, lm⟩ := hM.bs.bi_lt
 have hG := hM.gt
 have hln := b3.len
 rw [nodes_len] at hln
 have hix := List.idxOf_lt_length_of_mem hx
 have hfr := frs_get hx
 have hfa := ints_all (frs T)
 have w30 : IntKind.i64.wrap (fr + (d : Nat)) = fr + (d : Nat) := wrap_in (by unfold in64; omega)
 have hrx := hG.right x hx
 have hkx := (hG.good.all x hx).2
 refine sh_of pf53_is (Nat.le_of_ble_eq_true rfl) ?_
 simp only [pf53]
 refine seqE (fun E H' V' => H = H' ∧ V = V' ∧ Par bi (T.idxOf x) d fr dm f caps E) ?_ ?_
 ·simp only [↓wpre, wall, simprocAttr]; exact EQ_in ⟨rfl, rfl, rfl, rfl, rfl, rfl, rfl, rfl⟩
 rintro E _ _ ⟨rfl, rfl, e0, e1, e2, e3, e4, e5⟩
 by_cases hfv : (x.fv : Int) ≤ fr + d
 ·have dA : decide (((x.fv : Nat) : Int) ≤ fr + (d : Nat)) = true := by simp only [decide_eq_true_eq]; exact hfv
  obtain ⟨m1, m2⟩ := mv_pos (var := var) (ve := ve) hfv
  rw [m1, m2, enter_mem hx, Bool.or_false]
  simp only [↓wpre, wall, simprocAttr, e0, e1, e2, e3, e4, e5, b1, hfr, hfa, w30, dA]
  exact ⟨_, _, es, rfl, hM, .refl _, VK.same V rfl, fun _ _ _ _ h => h, fun _ _ _ h => h, fun Q hQ => hQ.same rfl fun _ h => .inl h⟩
 have dA : decide (((x.fv : Nat) : Int) ≤ fr + (d : Nat)) = false := by simp only [decide_eq_false_iff_not]; exact hfv
 refine seqE (fun E H' V' => H = H' ∧ V = V' ∧ Par bi (T.idxOf x) d fr dm f caps E) ?_ ?_
 ·simp only [↓wpre, wall, simprocAttr, e0, e1, e2, e3, e4, e5, b1, hfr, hfa, w30, dA]; exact EQ_in ⟨rfl, rfl, e0, e1, e2, e3, e4, e5⟩
 clear e0 e1 e2 e3 e4 e5 E
 rintro E _ _ ⟨rfl, rfl, e0, e1, e2, e3, e4, e5⟩
 refine seqE (fun E H' V' => H' = H ++ [AObj.cells false [AV.int (T.idxOf x : Nat), AV.int (d : Nat)]] ∧ V = V' ∧ Par bi (T.idxOf x) d fr dm f caps E ∧ E 13 = .ptr H.length 0) ?_ ?_
 ·simp only [↓wpre, wall, simprocAttr, List.length_append, List.append_assoc, app_get_len, app_get_add, app_set_len, app_set_add, e0, e1, e2, e3, e4, e5]; exact EQ_in ⟨rfl, rfl, ⟨e0, e1, e2, e3, e4, e5⟩, rfl⟩
 clear e0 e1 e2 e3 e4 e5 E
 rintro E _ _ ⟨rfl, rfl, ⟨e0, e1, e2, e3, e4, e5⟩, e13⟩
 obtain ⟨L, eL, hL⟩ := hM.dm
 have hlk := look_dm (fr := fr) (var := var) (d := d) hx (L := L) fun p hp => (hL p hp).1
 rw [← eL] at hlk
 have hmd := app_get_of hM.map [AObj.cells false [AV.int (T.idxOf x : Nat), AV.int (d : Nat)]]
 by_cases hin : (x, d) ∈ L
 ·rw [if_pos hin] at hlk
  obtain ⟨_, q2, q3⟩ := hL _ hin
  have hsc : (sc || x.me fr ve d) = sc := by
   cases hme : x.me fr ve d
   ·rw [Bool.or_false]
   ·rw [q3 hme]; rfl
  rw [enter_mem q2, hsc]
  simp only [↓wpre, wall, simprocAttr, List.length_append, List.append_assoc, app_get_len, app_get_add, app_set_len, app_set_add, e0, e1, e2, e3, e4, e5, e13, hmd, hlk, gOK]
  exact ⟨_, _, es, rfl, ⟨hM.bs.app _, hG, app_get_of hM.map _, hM.dm, hV.japp hM.j _⟩, .app V lb _⟩
 rw [if_neg hin] at hlk
 refine seqE (fun E H' V' => H' = H ++ [AObj.cells false [AV.int (T.idxOf x : Nat), AV.int (d : Nat)]] ∧ V = V' ∧ Par bi (T.idxOf x) d fr dm f caps E ∧ E 13 = .ptr H.length 0) ?_ ?_
 ·simp only [↓wpre, wall, simprocAttr, List.length_append, List.append_assoc, app_get_len, app_get_add, app_set_len, app_set_add, e0, e1, e2, e3, e4, e5, e13, hmd, hlk, gOK]; exact EQ_in ⟨rfl, rfl, ⟨e0, e1, e2, e3, e4, e5⟩, e13⟩
 clear e0 e1 e2 e3 e4 e5 e13 E
 rintro E _ _ ⟨rfl, rfl, ⟨e0, e1, e2, e3, e4, e5⟩, e13⟩
 obtain ⟨n, c, n0, n1, n2, n3, n4⟩ := ndh_get b3 (i := T.idxOf x) (by omega)
 have hnx : n = ndOf T x := by
  rw [nodesOf, List.getElem?_map, List.getElem?_eq_getElem hix, List.getElem_idxOf] at n0
  exact (Option.some.inj n0).symm
 have hall := ndh_all b3
 obtain ⟨t1, las, kv, hcc, r1, r2, r3, r4, r5, r6, r7, r8, r9⟩ := n4
 simp only [AV.agg.injEq] at hcc
 subst hcc
 have hb1' := app_get_of b1 [AObj.cells false [AV.int (T.idxOf x : Nat), AV.int (d : Nat)]]
 have hone := kids_one r9
 have hcl : kv.cells = [kv] := by cases kv <;> first | rfl | simp [oneCell] at hone
 refine seqE (fun E H' V' => H' = H ++ [AObj.cells false [AV.int (T.idxOf x : Nat), AV.int (d : Nat)], AObj.cells false [AV.int n.k, AV.int n.i, AV.str n.n, AV.sl las t1, kv]] ∧ V = V' ∧ Par bi (T.idxOf x) d fr dm f caps E ∧ E 13 = .ptr H.length 0 ∧ E 16 = .ptr (H.length + 1) 0) ?_ ?_
 ·simp only [↓wpre, wall, simprocAttr, List.length_append, List.append_assoc, app_get_len, app_get_add, app_set_len, app_set_add, e0, e1, e2, e3, e4, e5, e13, hb1', n1, n3, hall, hone, List.length_append]; exact EQ_in ⟨rfl, rfl, ⟨e0, e1, e2, e3, e4, e5⟩, e13, rfl⟩
 clear e0 e1 e2 e3 e4 e5 e13 E
 rintro E _ _ ⟨rfl, rfl, ⟨e0, e1, e2, e3, e4, e5⟩, e13, e16⟩
 refine seqE (fun E H' V' => H' = H ++ [AObj.cells false [AV.int (T.idxOf x : Nat), AV.int (d : Nat)], AObj.cells false [AV.int n.k, AV.int n.i, AV.str n.n, AV.sl las t1, kv]] ∧ V = V' ∧ Par bi (T.idxOf x) d fr dm f caps E ∧ E 13 = .ptr H.length 0 ∧ E 16 = .ptr (H.length + 1) 0) ?_ ?_
 ·simp only [↓wpre, wall, simprocAttr]; exact EQ_in ⟨rfl, rfl, ⟨e0, e1, e2, e3, e4, e5⟩, e13, e16⟩
 clear e0 e1 e2 e3 e4 e5 e13 e16 E
 rintro E _ _ ⟨rfl, rfl, ⟨e0, e1, e2, e3, e4, e5⟩, e13, e16⟩
 refine seqE (fun E H' V' => ∃ es', MvP fr var ve bi mi dm P J (sc || x.me fr ve d) ((x.mv fr var d).enter T) H' V' es' ∧ StpP bi P H V H' V' ∧ H'[H.length]? = some (.cells false [.int (T.idxOf x : Nat), .int (d : Nat)]) ∧ E 4 = .mp dm ∧ E 13 = .ptr H.length 0 ∧ E 17 = .int (((x.mv fr var d).enter T).idxOf (x.mv fr var d) : Nat)) ?_ ?_
 ·have hM1 := hM.app hV [AObj.cells false [AV.int (T.idxOf x : Nat), AV.int (d : Nat)], AObj.cells false [AV.int n.k, AV.int n.i, AV.str n.n, AV.sl las t1, kv]]
  have hS1 : StpP bi P H V (H ++ [AObj.cells false [AV.int (T.idxOf x : Nat), AV.int (d : Nat)], AObj.cells false [AV.int n.k, AV.int n.i, AV.str n.n, AV.sl las t1, kv]]) V := .app V lb _
  have hpl : (H ++ [AObj.cells false [AV.int (T.idxOf x : Nat), AV.int (d : Nat)], AObj.cells false [AV.int n.k, AV.int n.i, AV.str n.n, AV.sl las t1, kv]])[H.length]? = some (.cells false [.int (T.idxOf x : Nat), .int (d : Nat)]) := by simp
  have hnl : (H ++ [AObj.cells false [AV.int (T.idxOf x : Nat), AV.int (d : Nat)], AObj.cells false [AV.int n.k, AV.int n.i, AV.str n.n, AV.sl las t1, kv]])[H.length + 1]? = some (.cells false [.int n.k, .int n.i, .str n.n, .sl las t1, kv]) := by simp
  have hr9 : KidsH (H ++ [AObj.cells false [AV.int (T.idxOf x : Nat), AV.int (d : Nat)], AObj.cells false [AV.int n.k, AV.int n.i, AV.str n.n, AV.sl las t1, kv]]) n.kids kv := r9.mono (.app _ _)
  have hbi1 : (H ++ [AObj.cells false [AV.int (T.idxOf x : Nat), AV.int (d : Nat)], AObj.cells false [AV.int n.k, AV.int n.i, AV.str n.n, AV.sl las t1, kv]])[bi]? = H[bi]? := List.getElem?_append_left lb
  have hll : (H ++ [AObj.cells false [AV.int (T.idxOf x : Nat), AV.int (d : Nat)], AObj.cells false [AV.int n.k, AV.int n.i, AV.str n.n, AV.sl las t1, kv]]).length = H.length + 2 := by simp
  generalize H ++ [AObj.cells false [AV.int (T.idxOf x : Nat), AV.int (d : Nat)], AObj.cells false [AV.int n.k, AV.int n.i, AV.str n.n, AV.sl las t1, kv]] = H1 at *
  have hfx := formed_facts (n := n) (by rw [hnx, formed_ndOf]; exact hrx)
  by_cases hk0 : n.k = 0
  ·have q0 : (n.k == 0) = true := by simp [hk0]
   have hnk : n.k = k := by rw [hnx, ← hX]; rfl
   have hni : n.i = i := by rw [hnx, ← hX]; rfl
   have hkd : kids = [] := by
    have h1 := (right_facts hrx).1.kids
    rw [← hX] at h1
    simp only [Tm.k, Tm.kids] at h1
    rw [show k = 0 from by omega, show kidsN 0 = 0 from by decide] at h1
    exact List.length_eq_zero_iff.1 (by omega)
   have hxf : (x.fv : Int) = i + 1 := by
    rw [← hX, fv_mk, hkd]
    simp only [List.map_nil, fvF]
    rw [fv0, if_pos (by omega)]; omega
   have hmm := mv_var (var := var) (ve := ve) (k := k) (i := i) (n := nm) (ls := ls) (kids := kids) (d := d) (by rw [hX]; exact hfv) (by omega)
   rw [hX] at hmm
   obtain ⟨m1, m2⟩ := hmm
   rw [m1] at hl
   rw [m1, m2]
   obtain ⟨H2, V2, hB2, hS2, hJ2, hc⟩ := hV.call (d := d) hM1.bs hG hM1.j (by omega) (i := n.i) (by omega) (by omega) (by omega) (by omega) (by rw [hni]; exact hl)
   rw [hni] at hB2 hJ2
   have hc' : ∀ K KP, CW (run md pfs) md false ⟨H1, V⟩ f (.int n.i :: .int (d : Nat) :: caps) K KP () = K (.int (((var i d).enter T).idxOf (var i d) : Nat)) ⟨H2, V2⟩ := fun K KP => by rw [← hni]; exact hc K KP
   have hrm : ∀ y ∈ (var i d).subs, y.right = true := hV.right i d
   obtain ⟨hG2, ⟨m3, hm3⟩, _⟩ := enter_pre hG hrm
   simp only [↓wpre, wall, simprocAttr, e0, e1, e2, e3, e4, e5, e13, e16, hnl, q0, hc']
   refine EQ_in ⟨es, ⟨hB2, hG2, hS2.maps _ _ (.inr rfl) hM1.map, ?_, hJ2⟩, hS1.trans (hS2.mono fun k h => .inl h), hS2.cells _ _ _ (by omega) hpl, e4, e13, rfl⟩
   rw [hm3]
   exact hM.dm.grow fun h => by rw [h]; rfl
  ·have q0 : (n.k == 0) = false := by simp [hk0]
   have hnk : n.k = k := by rw [hnx, ← hX]; rfl
   have hmm := mv_neg (var := var) (ve := ve) (k := k) (i := i) (n := nm) (ls := ls) (kids := kids) (d := d) (by rw [hX]; exact hfv) (by omega)
   rw [hX] at hmm
   obtain ⟨m1, m2⟩ := hmm
   rw [m1, m2]
   rw [m1] at hl
   have hkl : n.kids.length = kids.length := by rw [hnx, ← hX]; simp [ndOf, Tm.kids]
   have hkx' : ∀ y ∈ kids, y ∈ T := by rw [← hX] at hkx; exact hkx
   have hmx : 0 ≤ (n.kids.length : Int) ∧ (n.kids.length : Int) ≤ 1073741824 := by omega
   refine seqE (fun E H' V' => H1 = H' ∧ V = V' ∧ Par bi (T.idxOf x) d fr dm f caps E ∧ E 13 = .ptr H.length 0 ∧ E 16 = .ptr (H.length + 1) 0 ∧ E 53 = .bool false) ?_ ?_
   ·simp only [↓wpre, wall, simprocAttr, e16, hnl, q0]; exact EQ_in ⟨rfl, rfl, ⟨e0, e1, e2, e3, e4, e5⟩, e13, e16, rfl⟩
   clear e0 e1 e2 e3 e4 e5 e13 e16 E
   rintro E _ _ ⟨rfl, rfl, ⟨e0, e1, e2, e3, e4, e5⟩, e13, e16, e53⟩
   rw [W_false (by rw [evX_t (by decide), e53])]
   have hflr : flat (List.replicate n.kids.length (AV.v (.int .i64 0))) = ints (List.replicate n.kids.length 0) := flat_rep _
   refine seqE (fun E H' V' => H' = H1 ++ [AObj.cells false (ints (List.replicate n.kids.length 0))] ∧ V = V' ∧ Par bi (T.idxOf x) d fr dm f caps E ∧ E 13 = .ptr H.length 0 ∧ E 16 = .ptr (H.length + 1) 0 ∧ E 18 = .bs (H.length + 2) 0 n.kids.length 1 false) ?_ ?_
   ·rcases hr9 with ⟨tk, rfl⟩ | ⟨q, fz, rfl, hq⟩
    ·simp only [↓wpre, wall, simprocAttr, List.length_append, List.append_assoc, app_get_len, app_get_add, app_set_len, app_set_add, e16, hnl, ints_len, hmx, Int.toNat_natCast, hflr, hll]; exact EQ_in ⟨rfl, rfl, ⟨e0, e1, e2, e3, e4, e5⟩, e13, e16, rfl⟩
    ·simp only [↓wpre, wall, simprocAttr, List.length_append, List.append_assoc, app_get_len, app_get_add, app_set_len, app_set_add, e16, hnl, hmx, Int.toNat_natCast, hflr, hll]; exact EQ_in ⟨rfl, rfl, ⟨e0, e1, e2, e3, e4, e5⟩, e13, e16, rfl⟩
   clear e0 e1 e2 e3 e4 e5 e13 e16 e53 E
   rintro E _ _ ⟨rfl, rfl, ⟨e0, e1, e2, e3, e4, e5⟩, e13, e16, e18⟩
   have hM2 := hM1.app hV [AObj.cells false (ints (List.replicate n.kids.length 0))]
   have hS2 := hS1.trans (.app V (by omega) [AObj.cells false (ints (List.replicate n.kids.length 0))])
   have hpl2 := app_get_of hpl [AObj.cells false (ints (List.replicate n.kids.length 0))]
   have hnl2 := app_get_of hnl [AObj.cells false (ints (List.replicate n.kids.length 0))]
   have hil2 : (H1 ++ [AObj.cells false (ints (List.replicate n.kids.length 0))])[H.length + 2]? = some (.cells false (ints (List.replicate n.kids.length 0))) := by rw [← hll]; simp
   have hr92 := hr9.mono (.app H1 [AObj.cells false (ints (List.replicate n.kids.length 0))])
   have hbi2 : (H1 ++ [AObj.cells false (ints (List.replicate n.kids.length 0))])[bi]? = H[bi]? := by rw [List.getElem?_append_left (by omega)]; exact hbi1
   have hl2 : (H1 ++ [AObj.cells false (ints (List.replicate n.kids.length 0))]).length = H.length + 3 := by rw [List.length_append, hll]; rfl
   generalize H1 ++ [AObj.cells false (ints (List.replicate n.kids.length 0))] = H2 at *
   refine seqE (fun E H' V' => ∃ es', MvP fr var ve bi mi dm P J (sc || meL fr ve d k 0 kids) (enterL T (mvL fr var d k 0 kids)) H' V' es' ∧ StpP bi P H V H' V' ∧ H'[H.length]? = some (.cells false [.int (T.idxOf x : Nat), .int (d : Nat)]) ∧ H'[H.length + 1]? = some (.cells false [.int n.k, .int n.i, .str n.n, .sl las t1, kv]) ∧ H'[H.length + 2]? = some (.cells false (ints ((mvL fr var d k 0 kids).map fun y => (((enterL T (mvL fr var d k 0 kids)).idxOf y : Nat) : Int)))) ∧ Par bi (T.idxOf x) d fr dm f caps E ∧ E 13 = .ptr H.length 0 ∧ E 16 = .ptr (H.length + 1) 0 ∧ E 18 = .bs (H.length + 2) 0 n.kids.length 1 false) ?_ ?_
   ·have hS0 : StpP bi P H V H2 V := hS2
    have hmk : ∀ y ∈ subsL (mvL fr var d k 0 kids), y.right = true := fun y hy => by
     have h1 : ∀ y ∈ (x.mv fr var d).subs, y.right = true := mv_right (var := var) hV.right d fun y hy => hG.right y (hG.good.subs x hx y hy)
     rw [m1] at h1
     exact h1 y (by rw [Tm.subs]; simp [hy])
    have hlE : (enterL T (mvL fr var d k 0 kids)).length ≤ 65536 := by
     rw [enter_eq hG.good] at hl
     obtain ⟨m, hm⟩ := addT_pre (enterL T (mvL fr var d k 0 kids)) (.mk k i nm ls (mvL fr var d k 0 kids))
     have := congrArg List.length hm
     rw [List.length_append] at this; omega
    have hbk0 : BK bi (fun q => q ≠ H.length + 2) H2 := hM.bs.bk.same hbi2 fun q hq => by omega
    refine seqE (fun E H' V' => H2 = H' ∧ V = V' ∧ Par bi (T.idxOf x) d fr dm f caps E ∧ E 13 = .ptr H.length 0 ∧ E 16 = .ptr (H.length + 1) 0 ∧ E 18 = .bs (H.length + 2) 0 n.kids.length 1 false ∧ E 64 = kv ∧ E 65 = .int (n.kids.length : Nat) ∧ E 66 = .int (0 : Nat)) ?_ ?_
    ·rcases hr92 with ⟨tk, rfl⟩ | ⟨q, fz, rfl, hq⟩
     ·simp only [↓wpre, wall, simprocAttr, e16, hnl2, ints_len]; exact EQ_in ⟨rfl, rfl, ⟨e0, e1, e2, e3, e4, e5⟩, e13, e16, e18, rfl, rfl, rfl⟩
     ·simp only [↓wpre, wall, simprocAttr, e16, hnl2]; exact EQ_in ⟨rfl, rfl, ⟨e0, e1, e2, e3, e4, e5⟩, e13, e16, e18, rfl, rfl, rfl⟩
    clear e0 e1 e2 e3 e4 e5 e13 e16 e18 E
    rintro E _ _ ⟨rfl, rfl, ⟨e0, e1, e2, e3, e4, e5⟩, e13, e16, e18, e64, e65, e66⟩
    rw [W_block]
    have hTj : ∀ j, ∃ m, enterL T (mvL fr var d k 0 (kids.take j)) = T ++ m := fun j => (enter_preL hG fun y hy => hmk y (by
     rw [mvL_tk] at hy
     obtain ⟨z, hz, hyz⟩ := mem_subsL.1 hy
     exact mem_subsL.2 ⟨z, List.mem_of_mem_take hz, hyz⟩)).2.1
    refine W_loopE (fun j => n.kids.length - j) (fun j E H' V' => ∃ es', MvP fr var ve bi mi dm P J (sc || meL fr ve d k 0 (kids.take j)) (enterL T (mvL fr var d k 0 (kids.take j))) H' V' es' ∧ StpP bi P H V H' V' ∧ BK bi (fun q => q ≠ H.length + 2) H' ∧ H'[H.length]? = some (.cells false [.int (T.idxOf x : Nat), .int (d : Nat)]) ∧ H'[H.length + 1]? = some (.cells false [.int n.k, .int n.i, .str n.n, .sl las t1, kv]) ∧ H'[H.length + 2]? = some (.cells false (ints (((mvL fr var d k 0 (kids.take j)).map fun y => (((enterL T (mvL fr var d k 0 (kids.take j))).idxOf y : Nat) : Int)) ++ List.replicate (n.kids.length - j) 0))) ∧ Par bi (T.idxOf x) d fr dm f caps E ∧ E 13 = .ptr H.length 0 ∧ E 16 = .ptr (H.length + 1) 0 ∧ E 18 = .bs (H.length + 2) 0 n.kids.length 1 false ∧ E 64 = kv ∧ E 65 = .int (n.kids.length : Nat) ∧ E 66 = .int (j : Nat) ∧ j ≤ n.kids.length) ?_ 0 ⟨es, ?_, hS2, hbk0, hpl2, hnl2, ?_, ⟨e0, e1, e2, e3, e4, e5⟩, e13, e16, e18, e64, e65, e66, Nat.zero_le _⟩
    rotate_left
    ·rw [List.take_zero, mvL, enterL, meL, Bool.or_false]; exact hM2
    ·rw [List.take_zero, mvL, List.map_nil, List.nil_append, Nat.sub_zero]; exact hil2
    clear e0 e1 e2 e3 e4 e5 e13 e16 e18 e64 e65 e66 E
    rintro j E H3 V3 ⟨es3, hM3, hS3, hbk3, hp3, hn3, hi3, ⟨e0, e1, e2, e3, e4, e5⟩, e13, e16, e18, e64, e65, e66, hj⟩
    rcases Nat.lt_or_ge j n.kids.length with hlt | hge
    ·have hdec : decide ((j : Int) < n.kids.length) = true := by simpa using hlt
     have hltI : (j : Int) < n.kids.length := by omega
     obtain ⟨y0, d0, d1, d2⟩ := ints_get hlt
     have hy : kids[j]? = some (kids[j]'(by omega)) := List.getElem?_eq_getElem _
     generalize kids[j]'(by omega) = y at hy
     have hym := List.mem_of_getElem? hy
     have hyT : y ∈ T := hkx' y hym
     have hx0 : y0 = (T.idxOf y : Nat) := by
      have : n.kids[j]? = some ((T.idxOf y : Nat) : Int) := by rw [hnx, ← hX]; simp [ndOf, Tm.kids, hy]
      rw [this] at d0
      exact (Option.some.inj d0).symm
     subst hx0
     obtain ⟨_, rfl, c78⟩ := (binder_ret n.k j).call rfl (by simp [pvs_cons, pvs_nil, pv_v])
     have hb01 := binder_01 n.k j
     have hb02 := binder_01 k j
     obtain ⟨mj, hmj⟩ := hTj j
     have hyT3 : y ∈ enterL T (mvL fr var d k 0 (kids.take j)) := by rw [hmj]; exact List.mem_append_left _ hyT
     have hdp : d + (binderG k j).toNat + y.dp ≤ 1000000 := by
      have h1 := (tdp_split hy).2
      rw [← hX, Tm.dp] at hd
      omega
     obtain ⟨mv1, mv2⟩ := mvL_take (fr := fr) (var := var) (ve := ve) (d := d) (k := k) hy
     have hen : enterL T (mvL fr var d k 0 (kids.take (j + 1))) = Tm.enter (enterL T (mvL fr var d k 0 (kids.take j))) (y.mv fr var (d + (binderG k j).toNat)) := by rw [mv1, enterL_one]
     have hlj : (Tm.enter (enterL T (mvL fr var d k 0 (kids.take j))) (y.mv fr var (d + (binderG k j).toNat))).length ≤ 65536 := by
      rw [← hen, mvL_tk]
      obtain ⟨_, ⟨m, hm⟩, _⟩ := enterL_at hG hmk (j + 1)
      have := congrArg List.length hm
      rw [List.length_append] at this; omega
     have w80 : IntKind.i64.wrap ((d : Nat) + binderG n.k j) = ((d + (binderG k j).toNat : Nat) : Int) := by rw [hnk] at hb01 ⊢; rw [wrap_in (by unfold in64; omega)]; omega
     obtain ⟨_, _, ⟨rfl, H4, V4, es4, rfl, hM4, hS4⟩, c53⟩ := (ih y hym hM3 hyT3 (Nat.le_trans hbase hS3.fr.1) hdp hlj).callRet rfl
     have hiy : (enterL T (mvL fr var d k 0 (kids.take j))).idxOf y = T.idxOf y := by rw [hmj, idx_pre hyT]
     rw [hiy] at c53
     have hP4 := hS3.trans hS4
     have hp4 := hS4.cells _ _ _ (by omega) hp3
     have hn4 := hS4.cells _ _ _ (by omega) hn3
     have hi4 := hS4.cells _ _ _ (by omega) hi3
     have hkj3 := r9.mono hS3.fr
     rw [← hen] at hM4 c53
     rw [Bool.or_assoc, ← mv2] at hM4
     have ldm := lt_of_get hM.map
     have lq3 := lt_of_get hi3
     have hbk4 : BK bi (fun q => q ≠ H.length + 2) H4 := (hS4.bk _ hbk3).same rfl fun q hq => hq.elim id fun hq => by omega
     have hJ4 : ∀ o, J (sc || meL fr ve d k 0 (kids.take (j + 1))) (H4.set (H.length + 2) o) (enterL T (mvL fr var d k 0 (kids.take (j + 1)))) := fun o => by
      have := hV.stab (m := []) (H' := H4.set (H.length + 2) o) hM4.j id (fun q fz c q1 _ h => by rw [List.getElem?_set, if_neg (by omega)]; exact h) (fun q es _ _ h => by
       have : H.length + 2 ≠ q := by rintro rfl; rw [hi4] at h; cases h
       rw [List.getElem?_set, if_neg this]; exact h)
      simpa using this
     have hmid : ((mvL fr var d k 0 (kids.take (j + 1))).map fun y => (((enterL T (mvL fr var d k 0 (kids.take (j + 1)))).idxOf y : Nat) : Int)) = ((mvL fr var d k 0 (kids.take j)).map fun y => (((enterL T (mvL fr var d k 0 (kids.take j))).idxOf y : Nat) : Int)) ++ [(((enterL T (mvL fr var d k 0 (kids.take (j + 1)))).idxOf (y.mv fr var (d + (binderG k j).toNat)) : Nat) : Int)] := by
      have hmj1 : ∀ z ∈ (y.mv fr var (d + (binderG k j).toNat)).subs, z.right = true := fun z hz => hmk z (mem_subsL.2 ⟨_, List.mem_of_getElem? (by simpa using mvL_get (fr := fr) (var := var) (d := d) (k := k) (j := 0) hy), hz⟩)
      obtain ⟨_, ⟨m, hm⟩, _⟩ := enter_pre hM3.gt hmj1
      rw [← hen] at hm
      conv => lhs; arg 2; rw [mv1]
      rw [List.map_append, List.map_cons, List.map_nil]
      congr 1
      rw [hm]
      refine idx_map_pre fun z hz => ?_
      have h3 := (enterL_at hG hmk j).2.2
      rw [← mvL_tk] at h3
      exact h3 z hz
     have hset := ids_step (v := (((enterL T (mvL fr var d k 0 (kids.take (j + 1)))).idxOf (y.mv fr var (d + (binderG k j).toNat)) : Nat) : Int)) (n := n.kids.length) (a := (mvL fr var d k 0 (kids.take j)).map fun y => (((enterL T (mvL fr var d k 0 (kids.take j))).idxOf y : Nat) : Int)) (j := j) (by rw [List.length_map, mvL_len, List.length_take]; omega) hlt
     rw [← hmid] at hset
     rcases hkj3 with ⟨tk, rfl⟩ | ⟨q, fz, rfl, hq3⟩
     ·simp only [↓wpre, wall, simprocAttr, e0, e1, e2, e3, e4, e5, e16, e18, e64, e65, e66, hdec, d2, ints_all, hn3, c78, w80, c53, hltI, hi4, Nat.zero_add, Nat.mul_one]
      have hjl : j + 1 ≤ (ints (((mvL fr var d k 0 (kids.take j)).map fun y => (((enterL T (mvL fr var d k 0 (kids.take j))).idxOf y : Nat) : Int)) ++ List.replicate (n.kids.length - j) 0)).length := by rw [ints_len, List.length_append, List.length_map, mvL_len, List.length_take, List.length_replicate]; omega
      refine ⟨hjl, EQ_in ⟨j + 1, by omega, es4, ⟨hM4.bs.setQ hbk4 (by omega) (by omega) _, hM4.gt, by rw [List.getElem?_set, if_neg (by omega)]; exact hM4.map, hM4.dm, hJ4 _⟩, hP4.setN (by omega) lb _, hbk4.same (by rw [List.getElem?_set, if_neg (by omega)]) fun _ h => h, by rw [List.getElem?_set, if_neg (by omega)]; exact hp4, by rw [List.getElem?_set, if_neg (by omega)]; exact hn4, by rw [List.getElem?_set, if_pos rfl, if_pos (lt_of_get hi4)]; exact congrArg (fun l => some (AObj.cells false l)) hset, ⟨e0, e1, e2, e3, e4, e5⟩, e13, e16, e18, e64, e65, next_ixv (by omega), by omega⟩⟩
     ·have hdr : ((ints n.kids).drop j).head? = some (.int (T.idxOf y : Nat)) := by rw [List.head?_drop]; exact d2
      simp only [↓wpre, wall, simprocAttr, e0, e1, e2, e3, e4, e5, e16, e18, e64, e65, e66, hdec, hq3, ints_all, hn3, c78, w80, c53, hltI, hi4, Nat.zero_add, Nat.mul_one, hdr]
      have hjl : j + 1 ≤ (ints (((mvL fr var d k 0 (kids.take j)).map fun y => (((enterL T (mvL fr var d k 0 (kids.take j))).idxOf y : Nat) : Int)) ++ List.replicate (n.kids.length - j) 0)).length := by rw [ints_len, List.length_append, List.length_map, mvL_len, List.length_take, List.length_replicate]; omega
      refine ⟨hjl, EQ_in ⟨j + 1, by omega, es4, ⟨hM4.bs.setQ hbk4 (by omega) (by omega) _, hM4.gt, by rw [List.getElem?_set, if_neg (by omega)]; exact hM4.map, hM4.dm, hJ4 _⟩, hP4.setN (by omega) lb _, hbk4.same (by rw [List.getElem?_set, if_neg (by omega)]) fun _ h => h, by rw [List.getElem?_set, if_neg (by omega)]; exact hp4, by rw [List.getElem?_set, if_neg (by omega)]; exact hn4, by rw [List.getElem?_set, if_pos rfl, if_pos (lt_of_get hi4)]; exact congrArg (fun l => some (AObj.cells false l)) hset, ⟨e0, e1, e2, e3, e4, e5⟩, e13, e16, e18, e64, e65, next_ixv (by omega), by omega⟩⟩
    ·have hdec : decide ((j : Int) < n.kids.length) = false := by simpa using hge
     rw [List.take_of_length_le (by omega)] at hM3 hi3
     rw [show n.kids.length - j = 0 from by omega, List.replicate_zero, List.append_nil] at hi3
     simp only [↓wpre, wall, simprocAttr, e65, e66, hdec]
     exact EQ_in ⟨es3, hM3, hS3, hp3, hn3, hi3, ⟨e0, e1, e2, e3, e4, e5⟩, e13, e16, e18⟩
   clear e0 e1 e2 e3 e4 e5 e13 e16 e18 E
   rintro E H3 V3 ⟨es3, hM3, hS3, hp3, hn3, hi3, ⟨e0, e1, e2, e3, e4, e5⟩, e13, e16, e18⟩
   have hlm : (mvL fr var d k 0 kids).length = kids.length := mvL_len
   obtain ⟨hGk, ⟨mk0, hmk0⟩, hkk⟩ := enter_preL (l := mvL fr var d k 0 kids) hG fun y hy => by
    have h1 : ∀ y ∈ (x.mv fr var d).subs, y.right = true := mv_right (var := var) hV.right d fun y hy => hG.right y (hG.good.subs x hx y hy)
    rw [m1] at h1
    exact h1 y (by rw [Tm.subs]; simp [hy])
   have hr0 : (Tm.mk k i nm ls (mvL fr var d k 0 kids)).right = true := by rw [right_len hlm, hX]; exact hrx
   have hin : ∀ y ∈ mvL fr var d k 0 kids, y ∈ enterL T (mvL fr var d k 0 kids) := fun y hy => (hkk y).2 (.inr (mem_subsL.2 ⟨y, hy, subs_self y⟩))
   rw [enter_eq hG.good] at hl ⊢
   have hnk1 : n.i = i := by rw [hnx, ← hX]; rfl
   have hnk2 : n.n = nm := by rw [hnx, ← hX]; rfl
   have hnk3 : n.ls = ls := by rw [hnx, ← hX]; rfl
   have hlq3 := lt_of_get hi3
   have ldm := lt_of_get hM.map
   have hS5 := hS3.setN (q := H.length + 1) (by omega) lb (.cells false [.int n.k, .int n.i, .str n.n, .sl las t1, .bs (H.length + 2) 0 n.kids.length 1 false])
   have hB5 := hM3.bs.keep (H' := H3.set (H.length + 1) (.cells false [.int n.k, .int n.i, .str n.n, .sl las t1, .bs (H.length + 2) 0 n.kids.length 1 false])) (V' := V3) (by rw [List.getElem?_set, if_neg (by omega)]) (by rw [List.getElem?_set, if_neg (by omega)]) (fri_set hn3 node_noints) fun _ _ _ h => h
   have hn5 : (H3.set (H.length + 1) (.cells false [.int n.k, .int n.i, .str n.n, .sl las t1, .bs (H.length + 2) 0 n.kids.length 1 false]))[H.length + 1]? = some (.cells false [.int n.k, .int n.i, .str n.n, .sl las t1, .bs (H.length + 2) 0 n.kids.length 1 false]) := by rw [List.getElem?_set, if_pos rfl, if_pos (by omega)]
   have hg5 : ∀ q, q ≠ H.length + 1 → (H3.set (H.length + 1) (AObj.cells false [.int n.k, .int n.i, .str n.n, .sl las t1, .bs (H.length + 2) 0 n.kids.length 1 false]))[q]? = H3[q]? := fun q hq => by rw [List.getElem?_set, if_neg (Ne.symm hq)]
   have hi5 := hi3
   rw [← hg5 _ (by omega)] at hi5
   have hL5 : (H3.set (H.length + 1) (AObj.cells false [.int n.k, .int n.i, .str n.n, .sl las t1, .bs (H.length + 2) 0 n.kids.length 1 false])).length = H3.length := List.length_set
   have hnd : NdH (H3.set (H.length + 1) (.cells false [.int n.k, .int n.i, .str n.n, .sl las t1, .bs (H.length + 2) 0 n.kids.length 1 false])) (ndOf (enterL T (mvL fr var d k 0 kids)) (.mk k i nm ls (mvL fr var d k 0 kids))) (.agg [.int n.k, .int n.i, .str n.n, .sl las t1, .bs (H.length + 2) 0 n.kids.length 1 false]) := by
    refine ⟨t1, las, .bs (H.length + 2) 0 n.kids.length 1 false, ?_, r1, by show in64 k; rw [← hnk]; exact r2, by show in64 i; rw [← hnk1]; exact r3, by show nm.size ≤ _; rw [← hnk2]; exact r4, r5, ?_, by show LIs Lv.Is ls las; rw [← hnk3]; exact r7, ?_, .inr ⟨H.length + 2, false, ?_, hi5⟩⟩
    ·show _ = AV.agg [.int k, .int i, .str nm, _, _]
     rw [hnk, hnk1, hnk2]
    ·show ((mvL fr var d k 0 kids).map _).length ≤ _
     rw [List.length_map, hlm, ← hkl]; exact r6
    ·intro z hz
     obtain ⟨y, hy, rfl⟩ := List.mem_map.1 hz
     have := List.idxOf_lt_length_of_mem (hin y hy)
     unfold in64
     obtain ⟨m, hm⟩ := addT_pre (enterL T (mvL fr var d k 0 kids)) (.mk k i nm ls (mvL fr var d k 0 kids))
     have := congrArg List.length hm
     rw [List.length_append] at this; omega
    ·show _ = AV.bs _ _ ((mvL fr var d k 0 kids).map _).length _ _
     rw [List.length_map, hlm, hkl]
   have hAK : ∀ q, AKid (.agg [.int n.k, .int n.i, .str n.n, .sl las t1, .bs (H.length + 2) 0 n.kids.length 1 false]) q → q = H.length + 2 := by
    rintro q ⟨_, _, _, _, _, e, _, _, _, _, rfl⟩
    simp only [AV.agg.injEq, List.cons.injEq, AV.bs.injEq] at e
    exact e.2.2.2.2.1.1.symm
   obtain ⟨_, _, ⟨rfl, H6, V6, rfl, hB6, hF6, hV6, hK6, hQ6⟩, c73⟩ := (badd_sh hB5 hGk hr0 hin hnd hl).callRet rfl
   simp only [↓wpre, wall, simprocAttr, e0, e16, e18, hn3, hn5, c73]
   have hK : ∀ q, q < H.length → q ≠ bi → q ≠ mi → H6[q]? = H3[q]? := fun q h1 h2 h3 => by
    rw [hK6 q (by omega) h2 h3 fun h => by have := hAK q h; omega]
    exact hg5 q (by omega)
   obtain ⟨m6, hm6⟩ := addT_pre (enterL T (mvL fr var d k 0 kids)) (.mk k i nm ls (mvL fr var d k 0 kids))
   refine EQ_in ⟨es3, ⟨hB6, addT_good hGk hr0 hin, by rw [hK dm ldm hV.nb hV.nm]; exact hM3.map, ?_, ?_⟩, ⟨hS5.fr.trans hF6, hS5.vk.trans hV6, fun q fz c h1 h2 => ?_, fun q es h1 h2 => ?_, fun Q hQ => hQ6 _ (hS5.bk Q hQ) fun q hq => .inr (by have := hAK q hq; omega)⟩, ?_, e4, e13, rfl⟩
   ·rw [hm6]; exact hM3.dm.grow fun h => h
   ·rw [hm6]
    refine hV.stab hM3.j id (fun q fz c h1 h2 h3 => ?_) fun q es h1 h2 h3 => ?_
    ·rw [hK q (by omega) h2 (fun e => by subst e; obtain ⟨_, _, _, _, _, _, c2, _⟩ := hM3.bs; rw [c2] at h3; cases h3)]; exact h3
    ·have hb : q ≠ bi := fun e => by subst e; obtain ⟨_, _, _, _, _, c1, _⟩ := hM3.bs; rw [c1] at h3; cases h3
     have h4 : q ≠ H.length + 1 := fun e => by subst e; rw [hn3] at h3; cases h3
     have h5 : q ≠ H.length + 2 := fun e => by subst e; rw [hi3] at h3; cases h3
     rw [hK6 q (by rw [hL5]; exact lt_of_get h3) hb h1 fun h => h5 (hAK q h), hg5 q h4]; exact h3
   ·have hq := lt_of_get h2
    rw [hK q hq h1 (fun e => by subst e; rw [b2] at h2; cases h2)]
    exact hS3.cells q fz c h1 h2
   ·have hq := lt_of_get h2
    rw [hK q hq (fun e => by subst e; rw [b1] at h2; cases h2) (fun e => hV.pm (e ▸ h1))]
    exact hS3.maps q es h1 h2
   ·rw [hK6 H.length (by omega) (by omega) (by omega) fun h => by have := hAK _ h; omega, hg5 _ (by omega)]; exact hp3
 clear e0 e1 e2 e3 e4 e5 e13 e16 E
 rintro E H2 V2 ⟨es2, hM2, hS2, hp2, e4, e13, e17⟩
 obtain ⟨L2, eL2, hL2⟩ := hM2.dm
 obtain ⟨m2, hm2⟩ : ∃ m, (x.mv fr var d).enter T = T ++ m := by
  have hrm : ∀ y ∈ (x.mv fr var d).subs, y.right = true := mv_right (var := var) hV.right d fun y hy => hG.right y (hG.good.subs x hx y hy)
  exact (enter_pre hG hrm).2.1
 have hx2 : x ∈ (x.mv fr var d).enter T := by rw [hm2]; exact List.mem_append_left _ hx
 have hi2 : ((x.mv fr var d).enter T).idxOf x = T.idxOf x := by rw [hm2]; exact idx_pre hx
 have hmv2 : x.mv fr var d ∈ (x.mv fr var d).enter T := by
  have hrm : ∀ y ∈ (x.mv fr var d).subs, y.right = true := mv_right (var := var) hV.right d fun y hy => hG.right y (hG.good.subs x hx y hy)
  exact ((enter_pre hG hrm).2.2 _).2 (.inr (subs_self _))
 obtain ⟨L3, hup, hL3⟩ := up_dm (fr := fr) (var := var) (d := d) hx2 (L := L2) fun p hp => (hL2 p hp).1
 rw [← eL2, hi2] at hup
 have hmd2 := hM2.map
 have ldm := lt_of_get hmd2
 simp only [↓wpre, wall, simprocAttr, e4, e13, e17, hp2, hmd2, hup, gOK]
 have hFm : FrI H2 (H2.set dm (.map (L3.map (dmE fr var ((x.mv fr var d).enter T))))) := fri_set hmd2 fun fz ks h => by cases h
 have hbs := hM2.bs
 refine ⟨_, _, _, rfl, ⟨hbs.keep (by rw [List.getElem?_set, if_neg hV.nb]) (by rw [List.getElem?_set, if_neg hV.nm]) hFm fun _ _ _ h => h, hM2.gt, by rw [List.getElem?_set, if_pos rfl, if_pos ldm], ⟨L3, rfl, fun p hp => ?_⟩, ?_⟩, hS2.trans ⟨hFm, VK.same V2 (by rw [List.getElem?_set, if_neg hV.nb]), fun q fz c q1 q2 => ?_, fun q es q1 q2 => ?_, fun Q hQ => hQ.same (by rw [List.getElem?_set, if_neg hV.nb]) fun _ h => .inl h⟩⟩
 ·rcases hL3 p hp with h | rfl
  ·exact hL2 p h
  ·exact ⟨hx2, hmv2, fun h => by rw [show x.me fr ve d = true from h, Bool.or_true]⟩
 ·have := hV.stab (m := []) (H' := H2.set dm (.map (L3.map (dmE fr var ((x.mv fr var d).enter T))))) hM2.j id (fun q fz c _ _ h => by
   have : dm ≠ q := by rintro rfl; rw [hmd2] at h; cases h
   rw [List.getElem?_set, if_neg this]; exact h) (fun q es _ q2 h => by rw [List.getElem?_set, if_neg (Ne.symm q2)]; exact h)
  simpa using this
 ·have : dm ≠ q := by rintro rfl; rw [hmd2] at q2; cases q2
  rw [List.getElem?_set, if_neg this]; exact q2
 ·have : dm ≠ q := by rintro rfl; exact hV.pd q1
  rw [List.getElem?_set, if_neg this]; exact q2
end
end Go.Proofs.Eng
namespace Go.Proofs.Eng
open Go Go.Proofs
set_option maxRecDepth 100000
set_option maxHeartbeats 16000000
theorem bs_noints {x y : AV} {m : Nat} {b c : Bool} (fz : Bool) (fz' : Bool) (ks : List Int) : AObj.cells fz [x, .mp m, y, .bool b, .bool c] ≠ AObj.cells fz' (ints ks) := by
 intro h
 simp only [AObj.cells.injEq] at h
 have := congrArg (fun l => l[1]?) h.2
 simp only [ints, List.getElem?_map] at this
 cases hk : ks[1]? with
 | none => rw [hk] at this; simp at this
 | some z => rw [hk] at this; simp at this
theorem Stp.toP {bi mi : Nat} {sc : Bool} {T : List Tm} {H H' : List AObj} {V V' : List Nat} {P : Nat → Prop} (h : Stp bi mi H V H' V') (hB : BS bi mi sc T H V) (hP : ¬ P mi) (hQ : ∀ Q, BK bi Q H → BK bi Q H') : StpP bi P H V H' V' := by
 obtain ⟨hne, al, tn, tf, es, b1, b2, _⟩ := hB
 refine ⟨h.fr, h.vk, fun k fz c h1 h2 => ?_, fun k es h1 h2 => ?_, fun Q hK => (hQ Q hK).same rfl fun _ h => .inl h⟩
 ·exact h.get h2 h1 fun e => by subst e; rw [b2] at h2; cases h2
 ·exact h.get h2 (fun e => by subst e; rw [b1] at h2; cases h2) fun e => hP (e ▸ h1)
theorem BS.stop {bi mi : Nat} {sc : Bool} {T : List Tm} {H : List AObj} {V : List Nat} (h : BS bi mi sc T H V) : ∃ al tn tf, H[bi]? = some (.cells false [.sl al tn, .mp mi, .sl (ints (frs T)) tf, .bool false, .bool sc]) ∧ BS bi mi true T (H.set bi (.cells false [.sl al tn, .mp mi, .sl (ints (frs T)) tf, .bool false, .bool true])) V ∧ ∀ P, StpP bi P H V (H.set bi (.cells false [.sl al tn, .mp mi, .sl (ints (frs T)) tf, .bool false, .bool true])) V := by
 obtain ⟨hne, al, tn, tf, es, b1, b2, b3, b4⟩ := h
 have lb := lt_of_get b1
 have hF : FrI H (H.set bi (.cells false [.sl al tn, .mp mi, .sl (ints (frs T)) tf, .bool false, .bool true])) := fri_set b1 (bs_noints false)
 have hb : (H.set bi (AObj.cells false [.sl al tn, .mp mi, .sl (ints (frs T)) tf, .bool false, .bool true]))[bi]? = some (.cells false [.sl al tn, .mp mi, .sl (ints (frs T)) tf, .bool false, .bool true]) := by rw [List.getElem?_set, if_pos rfl, if_pos lb]
 refine ⟨al, tn, tf, b1, ⟨hne, al, tn, tf, es, hb, by rw [List.getElem?_set, if_neg hne]; exact b2, b3.mono2 fun x a hx => hx.mono hF, b4⟩, fun P => ⟨hF, ⟨Nat.le_refl _, fun _ _ h _ => h, fun i ⟨al', tn', x, fr', tf', y, z, v, e1, e2⟩ => ?_⟩, fun k fz c h1 h2 => by rw [List.getElem?_set, if_neg (Ne.symm h1)]; exact h2, fun k es h1 h2 => ?_, fun Q hQ al' tn' x y z w e1 a ha k hk => ?_⟩⟩
 ·rw [hb] at e1
  simp only [Option.some.injEq, AObj.cells.injEq, List.cons.injEq, AV.sl.injEq, true_and, and_true] at e1
  obtain ⟨⟨rfl, rfl⟩, rfl, ⟨rfl, rfl⟩, _⟩ := e1
  exact .inl ⟨_, _, _, _, _, _, _, v, b1, e2⟩
 ·have : bi ≠ k := fun e => by subst e; rw [b1] at h2; cases h2
  rw [List.getElem?_set, if_neg this]; exact h2
 ·rw [hb] at e1
  simp only [Option.some.injEq, AObj.cells.injEq, List.cons.injEq, AV.sl.injEq, true_and, and_true] at e1
  obtain ⟨⟨rfl, _⟩, _⟩ := e1
  exact .inl (hQ _ _ _ _ _ _ b1 a ha k hk)
def vr (i : Int) : Tm := .mk 0 i ⟨#[]⟩ [] []
theorem vr_right {i : Int} (h0 : 0 ≤ i) (h1 : i ≤ 65535) : ∀ y ∈ (vr i).subs, y.right = true := by
 intro y hy
 simp only [vr, Tm.subs, subsL, List.mem_cons, List.not_mem_nil, or_false] at hy
 subst hy
 show (Tm.mk 0 i ⟨#[]⟩ [] []).right = true
 have h2 : i ≤ 2147483647 := by omega
 have h3 : kidsN 0 = 0 := by decide
 have h4 : (⟨#[]⟩ : ByteArray).size = 0 := rfl
 simp only [Tm.right, Tm.ls, Tm.k, Tm.kids, Tm.n, Tm.i, h0, h2, h3, h4]
 simp
theorem variable_sh {bi mi : Nat} {sc : Bool} {T : List Tm} {H : List AObj} {V : List Nat} {P : Nat → Prop} (hB : BS bi mi sc T H V) (hG : GT T) (hP : ¬ P mi) {i : Int} (h0 : 0 ≤ i) (h1 : i ≤ 4294967296) (hl : i ≤ 65535 → ((vr i).enter T).length ≤ 65536) :
  Sh md pfs 55 [.ptr bi 0, .int i] ⟨H, V⟩ (fun v s => ∃ H' V', s = ⟨H', V'⟩ ∧ StpP bi P H V H' V' ∧ (i ≤ 65535 → v = .int (((vr i).enter T).idxOf (vr i) : Nat) ∧ BS bi mi sc ((vr i).enter T) H' V') ∧ (65535 < i → v = .int 0 ∧ BS bi mi true T H' V')) fun _ _ => False := by
 refine sh_of pf55_is (Nat.le_of_ble_eq_true rfl) ?_
 obtain ⟨al, tn, tf, b1, hB2, hS⟩ := hB.stop
 rcases Int.lt_or_le 65535 i with h2 | h2
 ·have dA : decide (i > 65535) = true := by simpa using h2
  simp only [pf55, ↓wpre, wall, simprocAttr, dA, b1]
  exact ⟨_, _, rfl, hS P, fun h => by omega, fun _ => hB2⟩
 ·have dA : decide (i > 65535) = false := by simp only [decide_eq_false_iff_not]; omega
  have hr := vr_right h0 h2
  have he : (vr i).enter T = addT T (vr i) := by rw [vr, enter_eq hG.good, enterL]
  have hl := hl h2
  rw [he] at hl
  have hn : NdH H (ndOf T (vr i)) (.agg [.int 0, .int i, .str ⟨#[]⟩, .sl [] .nil, .sl [] .nil]) :=
   ⟨.nil, [], .sl [] .nil, rfl, rfl, by show in64 0; unfold in64; decide, by show in64 i; unfold in64; omega, by show (0 : Nat) ≤ lenB; exact Nat.zero_le _, by show (0 : Nat) ≤ lenB; exact Nat.zero_le _, by show (0 : Nat) ≤ lenB; exact Nat.zero_le _, trivial, fun x hx => (by cases hx), .inl ⟨.nil, rfl⟩⟩
  have hak : ∀ k, ¬ AKid (.agg [.int 0, .int i, .str ⟨#[]⟩, .sl [] .nil, .sl [] .nil]) k := by
   rintro k ⟨_, _, _, _, _, e, _, _, _, _, rfl⟩
   simp at e
  obtain ⟨H2, V2, g1, g2, g3, c73⟩ := badd_call hB hG (hr _ (subs_self _)) (fun x hx => by cases hx) hn hl fun k hk => absurd hk (hak k)
  simp only [pf55, ↓wpre, wall, simprocAttr, dA, c73]
  exact ⟨_, _, rfl, g2.toP hB hP fun Q hQ => g3 Q hQ fun k hk => absurd hk (hak k), fun _ => by rw [he]; exact ⟨rfl, g1⟩, fun h => by omega⟩
section
variable (z : Tm) (b : Int) (fr : Int)
def lbad (i : Int) (d : Nat) : Bool := decide (i + b < fr + d) || decide (65535 < i + b)
def lvar (i : Int) (d : Nat) : Tm := if lbad b fr i d = true then z else vr (i + b)
end
def LJ (z : Tm) (b fr : Int) (bi bb yb fb : Nat) (_ : Bool) (H : List AObj) (T : List Tm) : Prop := H[bb]? = some (.cells false [.ptr bi 0]) ∧ H[yb]? = some (.cells false [.int b]) ∧ H[fb]? = some (.cells false [.int fr]) ∧ T[0]? = some z
theorem enter_zero {T : List Tm} {z : Tm} (h : T[0]? = some z) : z.enter T = T ∧ T.idxOf z = 0 := by
 obtain ⟨a, b⟩ := idx_first (T := T) h (by simp)
 exact ⟨enter_mem a, b⟩
theorem lift_ok {z : Tm} {b fr : Int} {bi mi dm bb yb fb base : Nat} {P : Nat → Prop} (hPd : ¬ P dm) (hPm : ¬ P mi) (hz : ∀ y ∈ z.subs, y.right = true) (hf0 : 0 ≤ fr) (hf1 : fr ≤ 4294967294) (hb0 : -65536 ≤ b) (hb1 : b ≤ 1000000) (h1 : bb < base) (h2 : yb < base) (h3 : fb < base) (h4 : bb ≠ bi) (h5 : yb ≠ bi) (h6 : fb ≠ bi) (h7 : dm ≠ bi) (h8 : dm ≠ mi) :
  VOk fr (lvar z b fr) (lbad b fr) bi mi dm base P (LJ z b fr bi bb yb fb) 75 [.ptr yb 0, .ptr fb 0, .ptr bb 0] := by
 refine ⟨fun {sc T H V i d} hB hG hJ hbase i0 i1 i2 hd hl => ?_, fun hJ _ hc hm => ⟨hc _ _ _ h1 h4 hJ.1, hc _ _ _ h2 h5 hJ.2.1, hc _ _ _ h3 h6 hJ.2.2.1, ?_⟩, hPd, hPm, h7, h8, fun i d => ?_⟩
 ·obtain ⟨j1, j2, j3, j4⟩ := hJ
  obtain ⟨z1, z2⟩ := enter_zero j4
  obtain ⟨al, tn, tf, b1, hB2, hS⟩ := hB.stop
  have w10 : IntKind.i64.wrap (i + b) = i + b := wrap_in (by unfold in64; omega)
  have w13 : IntKind.i64.wrap (fr + (d : Nat)) = fr + (d : Nat) := wrap_in (by unfold in64; omega)
  have hsh : Sh md pfs 75 [.int i, .int (d : Nat), .ptr yb 0, .ptr fb 0, .ptr bb 0] ⟨H, V⟩ (fun v s => v = .int (((lvar z b fr i d).enter T).idxOf (lvar z b fr i d) : Nat) ∧ ∃ H' V', s = ⟨H', V'⟩ ∧ BS bi mi (sc || lbad b fr i d) ((lvar z b fr i d).enter T) H' V' ∧ StpP bi (fun k => P k ∨ k = dm) H V H' V' ∧ LJ z b fr bi bb yb fb (sc || lbad b fr i d) H' ((lvar z b fr i d).enter T)) fun _ _ => False := by
   refine sh_of pf75_is (Nat.le_of_ble_eq_true rfl) ?_
   rcases Int.lt_or_le (i + b) (fr + d) with hlt | hge
   ·have dA : decide (i + b < fr + (d : Nat)) = true := by simpa using hlt
    have hbad : lbad b fr i d = true := by rw [lbad, dA, Bool.true_or]
    have hv : lvar z b fr i d = z := if_pos hbad
    rw [hv, z1, z2, hbad, Bool.or_true]
    simp only [pf75, ↓wpre, wall, simprocAttr, j1, j2, j3, w10, w13, dA, b1]
    exact ⟨_, _, rfl, hB2, hS _, (hS (fun _ => False)).cells _ _ _ h4 j1, (hS (fun _ => False)).cells _ _ _ h5 j2, (hS (fun _ => False)).cells _ _ _ h6 j3, j4⟩
   ·have dA : decide (i + b < fr + (d : Nat)) = false := by simp only [decide_eq_false_iff_not]; omega
    obtain ⟨v, _, ⟨H2, V2, rfl, g1, g2, g3⟩, c55⟩ := (variable_sh (P := fun k => P k ∨ k = dm) (i := i + b) hB hG (by rintro (h | h); exact hPm h; exact h8 h.symm) (by omega) (by omega) (fun h => by
     have hbad : lbad b fr i d = false := by rw [lbad, dA, Bool.false_or]; simp only [decide_eq_false_iff_not]; omega
     rw [lvar, hbad] at hl; exact hl)).callRet rfl
    have j1' := g1.cells _ _ _ h4 j1
    have j2' := g1.cells _ _ _ h5 j2
    have j3' := g1.cells _ _ _ h6 j3
    rcases Int.lt_or_le 65535 (i + b) with h9 | h9
    ·have hbad : lbad b fr i d = true := by rw [lbad, dA, Bool.false_or]; simpa using h9
     have hv : lvar z b fr i d = z := if_pos hbad
     obtain ⟨rfl, hb9⟩ := g3 h9
     rw [hv, z1, z2, hbad, Bool.or_true]
     simp only [pf75, ↓wpre, wall, simprocAttr, j1, j2, j3, w10, w13, dA, c55]
     exact ⟨_, _, rfl, hb9, g1, j1', j2', j3', j4⟩
    ·have hbad : lbad b fr i d = false := by rw [lbad, dA, Bool.false_or]; simp only [decide_eq_false_iff_not]; omega
     have hv : lvar z b fr i d = vr (i + b) := by rw [lvar, hbad]; rfl
     obtain ⟨rfl, hb9⟩ := g2 h9
     rw [hv, hbad, Bool.or_false]
     obtain ⟨_, ⟨m, hm⟩, _⟩ := enter_pre hG (vr_right (i := i + b) (by omega) h9)
     simp only [pf75, ↓wpre, wall, simprocAttr, j1, j2, j3, w10, w13, dA, c55]
     exact ⟨_, _, rfl, hb9, g1, j1', j2', j3', by rw [hm, List.getElem?_append_left (lt_of_get j4)]; exact j4⟩
  obtain ⟨_, _, ⟨rfl, H2, V2, rfl, k1, k2, k3⟩, c75⟩ := hsh.callRet rfl
  exact ⟨H2, V2, k1, k2, k3, c75⟩
 ·rw [List.getElem?_append_left (lt_of_get hJ.2.2.2)]; exact hJ.2.2.2
 ·unfold lvar
  split
  ·exact hz
  ·rename_i h
   have : 0 ≤ i + b ∧ i + b ≤ 65535 := by
    simp only [lbad, Bool.or_eq_true, decide_eq_true_eq, not_or] at h
    omega
   exact vr_right this.1 this.2
end Go.Proofs.Eng
namespace Go.Proofs.Eng
open Go Go.Proofs
set_option maxRecDepth 100000
def isTrueA : Option (Outc × ASt) → Bool
 | some (.ret (.v (.bool true)), _) => true
 | _ => false
theorem awake_try : isTrueA (callN md pfs 100 11 [] ⟨[], []⟩) = true := by kernel_rfl
theorem true_ret {f : Nat} (h : isTrueA (callN md pfs 100 f [] ⟨[], []⟩) = true) : Out md pfs f [] (· = .bool true) fun _ => False := by
 cases hc : callN md pfs 100 f [] ⟨[], []⟩ with
 | none => rw [hc] at h; cases h
 | some x =>
  obtain ⟨out, s⟩ := x
  rw [hc] at h
  have ho : out = .ret (.v (.bool true)) := by
   cases out with
   | pan v => cases h
   | ret v => cases v with
    | v x => cases x with
     | bool b => cases b with
      | true => rfl
      | false => cases h
     | _ => cases h
    | _ => cases h
  subst ho
  exact ⟨_, s, .ret (.bool true), run_of hc, by simp only [Outc.purify, purify_pure pv_v, Option.map_some], rfl⟩
theorem awake_ret : Out md pfs 11 [] (· = .bool true) fun _ => False := true_ret awake_try
end Go.Proofs.Eng
namespace Go.Proofs.Eng
open Go Go.Proofs
set_option maxRecDepth 100000
set_option maxHeartbeats 16000000
structure Nd.Few (n : Nd) : Prop where
 nm : n.n.size ≤ 100
 ls : n.ls.length ≤ 10
 kids : n.kids.length ≤ 5
 vs : ∀ l ∈ n.ls, l.vs.length ≤ 10
structure FewG (N : List Nd) : Prop where
 len : N.length ≤ 60
 all : ∀ n ∈ N, n.Few
end Go.Proofs.Eng
