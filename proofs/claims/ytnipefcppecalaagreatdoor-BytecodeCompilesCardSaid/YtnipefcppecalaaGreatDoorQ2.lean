/- The reference's compiler emits expressions. No conditions beyond those in the theorems. -/
import Derived.Test.YtnipefcppecalaaGreatDoorY5
set_option linter.all false
set_option linter.deprecated false
set_option linter.unnecessarySimpa false
set_option linter.unusedVariables false
set_option linter.unusedSimpArgs false
set_option linter.defProp false
namespace Go.Proofs.Eng
open Go Go.Proofs
set_option maxRecDepth 100000
set_option maxHeartbeats 16000000
theorem Out.callV {f : FuncId} {args args' : List AV} {s : ASt} {PR : AV → Prop} (h : Out md pfs f args' PR fun _ => False) (hm : md f = .pure) (ha : mapO (purify 20 s) args = some args') : ∃ v, PR v ∧ ∀ K KP, CW (run md pfs) md false s f args K KP () = K v (args.foldl (frz 20) s) := by
 obtain ⟨out, s', out', h1, h2, h3⟩ := h
 cases out' with
 | pan v => exact h3.elim
 | ret v => exact ⟨v, h3, fun K KP => by simp [CW, callA, hm, ha, h1, h2]⟩
theorem gidx_of {n : ByteArray} : ∀ {gs : List Gl} {j : Nat} {x : Gl}, gs[j]? = some x → x.1 = n → ((gs.take j).any fun g => decide (g.1 = n)) = false → gidx gs n = j
 | [], j, x, h, _, _ => by simp at h
 | g :: gs, 0, x, h, h1, _ => by
  simp only [List.getElem?_cons_zero, Option.some.injEq] at h
  subst h
  rw [gidx, if_pos h1]
 | g :: gs, j + 1, x, h, h1, h2 => by
  simp only [List.getElem?_cons_succ] at h
  simp only [List.take_succ_cons, List.any_cons, Bool.or_eq_false_iff, decide_eq_false_iff_not] at h2
  rw [gidx, if_neg h2.1, gidx_of h h1 h2.2]
theorem isg_ret {g : Gl} {a : AV} (h : glIs g a) {k i : Int} {n : ByteArray} {x y : AV} (hp : pureAVs [.int k, .int i, .str n, x, y] = true) : Out md pfs 121 [a, .ip [.int k, .int i, .str n, x, y] 0] (· = .bool (decide (g.1 = n))) fun _ => False := by
 obtain ⟨m, x0⟩ := g
 obtain ⟨k', i', n', s', kids'⟩ := x0
 obtain ⟨c, rfl, l, he⟩ := h
 obtain ⟨t1, t2, kas, e, _⟩ := he.opn
 simp only [AV.agg.injEq] at e
 subst e
 refine out_of pf121_is (Nat.le_of_ble_eq_true rfl) ?_
 simp only [pf121, ↓wpre, wall, simprocAttr, List.length_append, List.append_assoc, app_get_len, app_get_add, app_set_len, app_set_add, str_eq, str_beq]
theorem pz_box1 {H : List AObj} {V : List Nat} {L : List AV} {f b : Nat} {fz : Bool} (h : H[b]? = some (.cells fz L)) (hp : pureAVs L = true) : purify 20 ⟨H, V⟩ (.fn f [.ptr b 0]) = some (.fn f [.ip L 0]) := by
 rw [pz_fn]; simp only [mapO, pz_ptr, h, mapO_pure hp, Nat.zero_le, if_true, Option.map_some]
theorem fr_all (m : Nat) : ∀ (l : List AV) (s : ASt), pureAVs l = true → l.foldl (frz m) s = s
 | [], s, _ => rfl
 | x :: l, s, h => by
  rw [pvs_cons, Bool.and_eq_true] at h
  rw [List.foldl_cons, fr_pure h.1, fr_all m l s h.2]
theorem fz_box1 {H : List AObj} {V : List Nat} {L : List AV} {f b : Nat} {fz : Bool} (h : H[b]? = some (.cells fz L)) (hp : pureAVs L = true) : frz 20 ⟨H, V⟩ (.fn f [.ptr b 0]) = ⟨H.set b (.cells true L), V⟩ := by
 rw [fr_fn]
 simp only [pvs_cons, pv_ptr, Bool.false_and, Bool.false_eq_true, if_false, List.foldl_cons, List.foldl_nil, fr_ptr, h, fr_all _ _ _ hp, ASt.fz]
theorem global_em {ci : Nat} {gas : List AV} {tg : Tl} {gs : List Gl} {i : Int} {n : ByteArray} {s : List Int} {kids : List Ex} (hg : LIs glIs gs gas) (htg : tg.pure = true) (hl : gas.length ≤ lenB) (hf : (gfind gs n).isSome = true) : EmS ci (.sl gas tg) gs 97 (fun a => [.ptr ci 0, a]) (.mk 5 i n s kids) := by
 intro es O H V a hC hx b1 b2
 have e : (Ex.mk 5 i n s kids).emit gs es.length = ([⟨7, (gidx gs n : Nat), 0, ⟨#[]⟩⟩], []) := by simp [Ex.emit]
 rw [e] at b1 b2 ⊢
 obtain ⟨t1, t2, kas, rfl, g1, g2, g3, g4, g5, g6⟩ := hx.opn
 have hpur := exPure _ hx
 rw [pv_agg] at hpur
 simp only [List.length_cons, List.length_nil] at b1
 have hall := hg.all glAgg
 have hgp : pureAV (.sl gas tg) = true := by rw [pv_sl]; simp [htg, hg.pure fun x a h => glAgg.pure h]
 have hbx : (H ++ [AObj.cells false [.int 5, .int i, .str n, .sl (ints s) t1, .sl kas t2]])[H.length]? = some (.cells false [.int 5, .int i, .str n, .sl (ints s) t1, .sl kas t2]) := by simp
 obtain ⟨v, ⟨r, rfl, hr⟩, hc⟩ := (index6_ret glAgg 121 [.ip [.int 5, .int i, .str n, .sl (ints s) t1, .sl kas t2] 0] rfl (by simp [pvs_cons, pvs_nil, pv_ip, hpur]) (fun g => decide (g.1 = n)) (t := tg) hg hl fun g _ a ha => isg_ret ha hpur).callV rfl (s := ⟨H ++ [.cells false [.int 5, .int i, .str n, .sl (ints s) t1, .sl kas t2]], V⟩) (args := [.sl gas tg, .fn 121 [.ptr H.length 0]]) (by
  rw [mapO, purify_pure hgp, mapO, pz_box1 hbx hpur, mapO])
 have hr' : r = (gidx gs n : Nat) := by
  rcases hr with ⟨_, h2⟩ | ⟨j, x, rfl, h2, h3, h4⟩
  ·have := gfind_any n gs
   rw [hf, h2] at this; cases this
  ·rw [gidx_of h2 (by simpa using h3) h4]
 subst hr'
 have hfz : (([.sl gas tg, .fn 121 [.ptr H.length 0]] : List AV).foldl (frz 20) ⟨H ++ [.cells false [.int 5, .int i, .str n, .sl (ints s) t1, .sl kas t2]], V⟩) = ⟨H ++ [.cells true [.int 5, .int i, .str n, .sl (ints s) t1, .sl kas t2]], V⟩ := by
  rw [List.foldl_cons, fr_pure hgp, List.foldl_cons, fz_box1 hbx hpur, List.foldl_nil]
  simp
 rw [hfz] at hc
 obtain ⟨H', V', c1, c2, c3⟩ := put_call (hC.app [.cells true [.int 5, .int i, .str n, .sl (ints s) t1, .sl kas t2]]) 7 (gidx gs n : Nat) 0 ⟨#[]⟩ (by omega)
 obtain ⟨Q, tq, to, h1, _⟩ := id hC
 refine sh_of pf97_is (Nat.le_of_ble_eq_true rfl) ?_
 simp only [pf97, ↓wpre, wall, simprocAttr, List.length_append, List.append_assoc, app_get_len, app_get_add, app_set_len, app_set_add, app_get_of h1, hc, c3]
 exact ⟨_, _, rfl, by simpa using c1, (Stp.app hC.lt _ _).trans c2⟩
end Go.Proofs.Eng
namespace Go.Proofs.Eng
open Go Go.Proofs
set_option maxRecDepth 100000
set_option maxHeartbeats 16000000
theorem emit_call (H : List AObj) (V : List Nat) (ci : Nat) (K KP) : CW (run md pfs) md false ⟨H, V⟩ 52 [.ptr ci 0] K KP () = K (emA (.ptr ci 0)) ⟨H, V⟩ := by
 have h := run_ora (md := md) (pfs := pfs) (f := 52) (pf := ⟨0, [], .ora emitO⟩) (by simp [pfs]) rfl (args := [.ptr ci 0]) (v := emA (.ptr ci 0)) (s := ⟨H, V⟩) (s' := ⟨H, V⟩) rfl
 simp [CW, callA, show md 52 = .raw from rfl, h]
theorem eqI (k : IntKind) (x : Int) : eqAV (.v (.int k x)) (.v (.int k x)) = true := by rw [eqAV]; simp [eqV]
theorem eqS (x : ByteArray) : eqAV (.v (.string x)) (.v (.string x)) = true := by rw [eqAV]; simp [eqV, str_beq]
theorem eqL {α : Type} {R : α → AV → Prop} : ∀ {l : List α} {al : List AV}, (∀ x ∈ l, ∀ a, R x a → eqAV a a = true) → LIs R l al → eqAVs al al = true
 | [], [], _, _ => by rw [eqAVs]
 | [], _ :: _, _, h => h.elim
 | _ :: _, [], _, h => h.elim
 | x :: l, a :: al, h, hl => by
  rw [eqAVs, h x (by simp) a hl.1, eqL (fun y hy => h y (by simp [hy])) hl.2]; rfl
theorem eqT (t : Tl) (l : List AV) (h : eqAVs l l = true) : eqAV (.sl l t) (.sl l t) = true := by rw [eqAV, h]; simp
theorem eqIs : ∀ l : List Int, eqAVs (ints l) (ints l) = true
 | [] => by rw [ints, List.map_nil, eqAVs]
 | x :: l => by have := eqIs l; simp only [ints] at this ⊢; rw [List.map_cons, eqAVs, this, eqAV]; simp [eqV]
theorem eqEx (e : Ex) : ∀ {a : AV}, e.Is a → eqAV a a = true := by
 induction e using Ex.ind with
 | h k i n s kids ih =>
  intro a h
  obtain ⟨t1, t2, kas, rfl, _, _, _, _, _, h5⟩ := h.opn
  rw [eqAV, eqAVs, eqAVs, eqAVs, eqAVs, eqAVs, eqAVs, eqI, eqI, eqS, eqT _ _ (eqIs _), eqT _ _ (eqL (fun x hx a h => ih x hx h) h5)]; rfl
theorem expr_em {ci : Nat} {gas : List AV} {tg : Tl} {gs : List Gl} (hg : LIs glIs gs gas) (htg : tg.pure = true) (hl : gas.length ≤ lenB) (e : Ex) : ∀ {v : Int}, e.err (fun n => (gfind gs n).isSome) v = 0 → 0 ≤ v → v + 64 * e.dep ≤ B62 → Exp ci (.sl gas tg) gs e := by
 induction e using Ex.ind with
 | h k i n s kids ih =>
 intro v he hv hd es O H V a hC hx b1 b2
 have ihk : ∀ x ∈ kids, Exp ci (.sl gas tg) gs x := fun x hxk => by
  obtain ⟨j, hj⟩ := List.getElem?_of_mem hxk
  obtain ⟨h1, h2, h3⟩ := kid_err he hv hd hj
  exact ih x hxk h1 h2 (by omega)
 have har := err_ar _ he
 rw [Ex.ar] at har
 obtain ⟨r0, r1, r4, r5, r7, _⟩ := har
 obtain ⟨f1, f2, f3, f4, f5⟩ := err_facts he
 obtain ⟨k0, k1, _⟩ := fm_facts f1
 obtain ⟨t1, t2, kas, rfl, g1, g2, g3, g4, g5, g6⟩ := (id hx).opn
 have hC' := hC.app [.cells false [.int k, .int i, .str n, .sl (ints s) t1, .sl kas t2]]
 have hS := Stp.app hC.lt V [AObj.cells false [.int k, .int i, .str n, .sl (ints s) t1, .sl kas t2]]
 have hk12 : k = 0 ∨ k = 1 ∨ k = 2 ∨ k = 3 ∨ k = 4 ∨ k = 5 ∨ k = 6 ∨ k = 7 ∨ k = 8 ∨ k = 9 ∨ k = 10 ∨ k = 11 := by omega
 have heq := eqEx _ hx
 refine sh_of pf23_is (Nat.le_of_ble_eq_true rfl) ?_
 rcases hk12 with rfl | rfl | rfl | rfl | rfl | rfl | rfl | rfl | rfl | rfl | rfl | rfl
 ·obtain ⟨H', V', c1, c2, c3⟩ := EmS.call (f := 92) var_em rfl hC' hx b1 b2
  simp only [pf23, ↓wpre, wall, simprocAttr, List.length_append, List.append_assoc, app_get_len, app_get_add, app_set_len, app_set_add, emit_call, emA, c3]
  exact ⟨⟨eqI _ _, heq⟩, _, _, rfl, c1, hS.trans c2⟩
 ·obtain ⟨H', V', c1, c2, c3⟩ := EmS.call (f := 93) (fun_em (r1 rfl)) rfl hC' hx b1 b2
  simp only [pf23, ↓wpre, wall, simprocAttr, List.length_append, List.append_assoc, app_get_len, app_get_add, app_set_len, app_set_add, emit_call, emA, c3]
  exact ⟨⟨eqI _ _, heq⟩, _, _, rfl, c1, hS.trans c2⟩
 ·obtain ⟨H', V', c1, c2, c3⟩ := EmS.call (f := 119) (after_em (by omega) ihk) rfl hC' hx b1 b2
  simp only [opK, show ((6 : Int) = 2) = False by decide, show ((6 : Int) = 8) = False by decide, show ((6 : Int) = 9) = False by decide, show ((6 : Int) = 10) = False by decide, show ((8 : Int) = 2) = False by decide, show ((8 : Int) = 6) = False by decide, show ((8 : Int) = 9) = False by decide, show ((8 : Int) = 10) = False by decide, show ((9 : Int) = 2) = False by decide, show ((9 : Int) = 6) = False by decide, show ((9 : Int) = 8) = False by decide, show ((9 : Int) = 10) = False by decide, show ((10 : Int) = 2) = False by decide, show ((10 : Int) = 6) = False by decide, show ((10 : Int) = 8) = False by decide, show ((10 : Int) = 9) = False by decide, show ((11 : Int) = 2) = False by decide, show ((11 : Int) = 6) = False by decide, show ((11 : Int) = 8) = False by decide, show ((11 : Int) = 9) = False by decide, show ((11 : Int) = 10) = False by decide, if_false, if_true] at c3
  simp only [pf23, ↓wpre, wall, simprocAttr, List.length_append, List.append_assoc, app_get_len, app_get_add, app_set_len, app_set_add, emit_call, emA, afA, c3]
  exact ⟨⟨eqI _ _, heq⟩, _, _, rfl, c1, hS.trans c2⟩
 ·obtain ⟨H', V', c1, c2, c3⟩ := EmS.call (f := 95) (ctor_em ihk) rfl hC' hx b1 b2
  simp only [pf23, ↓wpre, wall, simprocAttr, List.length_append, List.append_assoc, app_get_len, app_get_add, app_set_len, app_set_add, emit_call, emA, afA, c3]
  exact ⟨⟨eqI _ _, heq⟩, _, _, rfl, c1, hS.trans c2⟩
 ·obtain ⟨H', V', c1, c2, c3⟩ := EmS.call (f := 96) (cases_em (r4 rfl) ihk) rfl hC' hx b1 b2
  simp only [pf23, ↓wpre, wall, simprocAttr, List.length_append, List.append_assoc, app_get_len, app_get_add, app_set_len, app_set_add, emit_call, emA, afA, c3]
  exact ⟨⟨eqI _ _, heq⟩, _, _, rfl, c1, hS.trans c2⟩
 ·obtain ⟨H', V', c1, c2, c3⟩ := EmS.call (f := 97) (global_em hg htg hl (f4 rfl)) rfl hC' hx b1 b2
  simp only [pf23, ↓wpre, wall, simprocAttr, List.length_append, List.append_assoc, app_get_len, app_get_add, app_set_len, app_set_add, emit_call, emA, afA, c3]
  exact ⟨⟨eqI _ _, heq⟩, _, _, rfl, c1, hS.trans c2⟩
 ·obtain ⟨H', V', c1, c2, c3⟩ := EmS.call (f := 119) (after_em (by omega) ihk) rfl hC' hx b1 b2
  simp only [opK, show ((6 : Int) = 2) = False by decide, show ((6 : Int) = 8) = False by decide, show ((6 : Int) = 9) = False by decide, show ((6 : Int) = 10) = False by decide, show ((8 : Int) = 2) = False by decide, show ((8 : Int) = 6) = False by decide, show ((8 : Int) = 9) = False by decide, show ((8 : Int) = 10) = False by decide, show ((9 : Int) = 2) = False by decide, show ((9 : Int) = 6) = False by decide, show ((9 : Int) = 8) = False by decide, show ((9 : Int) = 10) = False by decide, show ((10 : Int) = 2) = False by decide, show ((10 : Int) = 6) = False by decide, show ((10 : Int) = 8) = False by decide, show ((10 : Int) = 9) = False by decide, show ((11 : Int) = 2) = False by decide, show ((11 : Int) = 6) = False by decide, show ((11 : Int) = 8) = False by decide, show ((11 : Int) = 9) = False by decide, show ((11 : Int) = 10) = False by decide, if_false, if_true] at c3
  simp only [pf23, ↓wpre, wall, simprocAttr, List.length_append, List.append_assoc, app_get_len, app_get_add, app_set_len, app_set_add, emit_call, emA, afA, c3]
  exact ⟨⟨eqI _ _, heq⟩, _, _, rfl, c1, hS.trans c2⟩
 ·obtain ⟨H', V', c1, c2, c3⟩ := EmS.call (f := 98) (let_em (r7 rfl) ihk) rfl hC' hx b1 b2
  simp only [pf23, ↓wpre, wall, simprocAttr, List.length_append, List.append_assoc, app_get_len, app_get_add, app_set_len, app_set_add, emit_call, emA, afA, c3]
  exact ⟨⟨eqI _ _, heq⟩, _, _, rfl, c1, hS.trans c2⟩
 all_goals
  obtain ⟨H', V', c1, c2, c3⟩ := EmS.call (f := 119) (after_em (by omega) ihk) rfl hC' hx b1 b2
  simp only [opK, show ((6 : Int) = 2) = False by decide, show ((6 : Int) = 8) = False by decide, show ((6 : Int) = 9) = False by decide, show ((6 : Int) = 10) = False by decide, show ((8 : Int) = 2) = False by decide, show ((8 : Int) = 6) = False by decide, show ((8 : Int) = 9) = False by decide, show ((8 : Int) = 10) = False by decide, show ((9 : Int) = 2) = False by decide, show ((9 : Int) = 6) = False by decide, show ((9 : Int) = 8) = False by decide, show ((9 : Int) = 10) = False by decide, show ((10 : Int) = 2) = False by decide, show ((10 : Int) = 6) = False by decide, show ((10 : Int) = 8) = False by decide, show ((10 : Int) = 9) = False by decide, show ((11 : Int) = 2) = False by decide, show ((11 : Int) = 6) = False by decide, show ((11 : Int) = 8) = False by decide, show ((11 : Int) = 9) = False by decide, show ((11 : Int) = 10) = False by decide, if_false, if_true] at c3
  simp only [pf23, ↓wpre, wall, simprocAttr, List.length_append, List.append_assoc, app_get_len, app_get_add, app_set_len, app_set_add, emit_call, emA, afA, c3]
  exact ⟨⟨eqI _ _, heq⟩, _, _, rfl, c1, hS.trans c2⟩
end Go.Proofs.Eng
namespace Go.Proofs.Eng
open Go Go.Proofs
set_option maxRecDepth 100000
set_option maxHeartbeats 16000000
theorem stripR_pure (n : Nat) (s : ASt) (t : Tl) : (t.stripR n s).pure = true := by
 cases t <;> simp only [Tl.stripR] <;> (try split) <;> rfl
theorem insPure (l : List Ins) : pureAVs (insA l) = true := by
 induction l with
 | nil => rfl
 | cons x l ih => simp only [insA, List.map_cons] at ih ⊢; rw [pvs_cons, ih, Ins.av]; simp [pv_agg, pvs_cons, pvs_nil, pv_v]
def nmA (l : List ByteArray) : List AV := l.map fun n => .str n
theorem nmPure (l : List ByteArray) : pureAVs (nmA l) = true := by
 induction l with
 | nil => rfl
 | cons x l ih => simp only [nmA, List.map_cons] at ih ⊢; rw [pvs_cons, ih]; simp [pv_v]
theorem nmA_all (l : List ByteArray) : ((nmA l).all fun x => x.cells.length == 1) = true := by
 rw [List.all_eq_true]; intro x hx
 obtain ⟨b, _, rfl⟩ := List.mem_map.1 hx; rfl
theorem nmA_snoc (l : List ByteArray) (x : ByteArray) : nmA (l ++ [x]) = nmA l ++ [.str x] := by simp [nmA]
theorem nmA_len (l : List ByteArray) : (nmA l).length = l.length := by simp [nmA]
def blX (b : List Ins) (a : AV) : Prop := ∃ t, a = .sl (insA b) t
def blIs (b : List Ins) (a : AV) : Prop := ∃ t, a = .sl (insA b) t ∧ t.pure = true ∧ b.length ≤ lenB
def Cd.Is (c : Cd) (a : AV) : Prop := ∃ Bs t1 t2 t3, a = .agg [.sl Bs t1, .sl (nmA c.gl) t2, .sl (ints c.st) t3] ∧ LIs blIs c.bl Bs ∧ t1.pure = true ∧ t2.pure = true ∧ t3.pure = true ∧ Bs.length ≤ lenB ∧ c.gl.length ≤ lenB ∧ c.st.length ≤ lenB
theorem blAgg {b : List Ins} {a : AV} (h : blX b a) : (a.cells.length == 1) = true := by
 obtain ⟨t, rfl⟩ := h; rfl
theorem pz_ins {n : Nat} {s : ASt} {l : List Ins} {t : Tl} : purify (n + 2) s (.sl (insA l) t) = some (.sl (insA l) (t.stripR (n + 1) s)) := by
 rw [pz_sl, mapO_at (insPure l)]; rfl
theorem pz_bls (n : Nat) (s : ASt) : ∀ {l : List (List Ins)} {al : List AV}, (∀ b ∈ l, b.length ≤ lenB) → LIs blX l al → ∃ al', mapO (atCells (purify (n + 2) s)) al = some al' ∧ LIs blIs l al'
 | [], [], _, _ => ⟨[], rfl, trivial⟩
 | [], _ :: _, _, h => h.elim
 | _ :: _, [], _, h => h.elim
 | b :: l, a :: al, hb, hh => by
  obtain ⟨⟨t, rfl⟩, h⟩ := hh
  obtain ⟨al', h1, h2⟩ := pz_bls n s (fun x hx => hb x (by simp [hx])) h
  exact ⟨_ :: al', by rw [mapO, h1, show atCells (purify (n + 2) s) (.sl (insA b) t) = purify (n + 2) s (.sl (insA b) t) from rfl, pz_ins], ⟨_, rfl, stripR_pure _ _ _, hb b (by simp)⟩, h2⟩
theorem LIs.mp {α : Type} {R S : α → AV → Prop} (h : ∀ x a, R x a → S x a) : ∀ {l : List α} {al : List AV}, LIs R l al → LIs S l al
 | [], [], _ => trivial
 | [], _ :: _, h => h.elim
 | _ :: _, [], h => h.elim
 | _ :: _, _ :: _, ⟨h1, h2⟩ => ⟨h _ _ h1, LIs.mp h h2⟩
def Sep (ci : Nat) (H : List AObj) (t : Tl) : Prop := ∀ i v, t = .tl i v → ¬ OwC ci H i
def Dif (t u : Tl) : Prop := ∀ i v v', t = .tl i v → u ≠ .tl i v'
theorem Dif.symm {t u : Tl} (h : Dif t u) : Dif u t := fun i v v' e e' => h i v' v e' e
theorem Dif.oth {V V' : List Nat} {l : List AV} {t u u' : Tl} (h : Dif t u) (ha : App V l t) (o : Oth V u V' u') : Dif t u' := fun i v v' e e' => by
 rcases o.2.2 i v' e' with ⟨v0, e0⟩ | hle
 ·exact h i v v0 e e0
 ·have := ha.lt e; omega
theorem Sep.oth {ci : Nat} {gl : AV} {es : List Ex} {O : List Ins} {H H' : List AObj} {V V' : List Nat} {t t' : Tl} (h : Sep ci H t) (hC : CS ci gl es O H V) (hH : H'[ci]? = H[ci]?) (o : Oth V t V' t') : Sep ci H' t' := fun i v e hw => by
 rw [owc_eq hH] at hw
 rcases o.2.2 i v e with ⟨v0, e0⟩ | hle
 ·exact h i v0 e0 hw
 ·obtain ⟨Q, tq, to, h1, _, h3, h4, _⟩ := hC
  obtain ⟨x, Q', tq', O', to', v', e1, e2⟩ := hw
  rw [h1] at e1
  simp only [Option.some.injEq, AObj.cells.injEq, List.cons.injEq, AV.sl.injEq, true_and, and_true] at e1
  obtain ⟨_, ⟨_, rfl⟩, _, rfl⟩ := e1
  rcases e2 with e2 | e2
  ·have := h3.lt e2; omega
  ·have := h4.lt e2; omega
theorem CS.oth {ci : Nat} {gl : AV} {es : List Ex} {O : List Ins} {H H' : List AObj} {V V' : List Nat} {t t' : Tl} (hC : CS ci gl es O H V) (h : Sep ci H t) (hH : H'[ci]? = H[ci]?) (o : Oth V t V' t') : CS ci gl es O H' V' := by
 obtain ⟨Q, tq, to, h1, h2, h3, h4, h5⟩ := hC
 refine ⟨Q, tq, to, hH.trans h1, h2, h3.keep o fun i v v' e e' => h i v e ⟨_, _, _, _, _, v', h1, .inl e'⟩, h4.keep o fun i v v' e e' => h i v e ⟨_, _, _, _, _, v', h1, .inr e'⟩, h5⟩
theorem Stp.row {ci : Nat} {H H' : List AObj} {V V' : List Nat} (h : Stp ci H V H' V') {l : List AV} {t : Tl} (ha : App V l t) (hs : Sep ci H t) : App V' l t ∧ Sep ci H' t := by
 refine ⟨?_, fun i v e hw => ?_⟩
 ·rcases ha with ⟨h1, rfl⟩ | ⟨h1, id, ver, rfl, h2⟩
  ·exact .inl ⟨h1, rfl⟩
  ·exact .inr ⟨h1, id, ver, rfl, h.vk id ver h2 (hs id ver rfl)⟩
 ·rcases h.own i hw with h' | h'
  ·exact hs i v e h'
  ·have := ha.lt e; omega
structure CI (gl : AV) (es : List Ex) (O : List Ins) (bls : List (List Ins)) (ns : List ByteArray) (ss : List Int) (H : List AObj) (V : List Nat) (Bs : List AV) (tb tg ts : Tl) : Prop where
 cs : CS 2 gl es O H V
 h3 : H[3]? = some (.cells false [.ptr 2 0])
 h4 : H[4]? = some (.cells false [.sl Bs tb, .sl (nmA ns) tg, .sl (ints ss) ts])
 bl : LIs blX bls Bs
 ab : App V Bs tb
 ag : App V (nmA ns) tg
 ai : App V (ints ss) ts
 sb : Sep 2 H tb
 sg : Sep 2 H tg
 ss : Sep 2 H ts
 bg : Dif tb tg
 bs : Dif tb ts
 gs : Dif tg ts
section
variable {gl : AV} {es : List Ex} {O : List Ins} {bls : List (List Ins)} {ns : List ByteArray} {ss : List Int} {H : List AObj} {V : List Nat} {Bs : List AV} {tb tg ts : Tl}
theorem CI.lt (h : CI gl es O bls ns ss H V Bs tb tg ts) : 4 < H.length := lt_of_get h.h4
theorem Sep.app {ci : Nat} {H : List AObj} {t : Tl} (h : Sep ci H t) (hl : ci < H.length) (G : List AObj) : Sep ci (H ++ G) t := fun i v e hw => h i v e ((owc_eq (List.getElem?_append_left hl) i).1 hw)
theorem CI.app (h : CI gl es O bls ns ss H V Bs tb tg ts) (G : List AObj) : CI gl es O bls ns ss (H ++ G) V Bs tb tg ts :=
 ⟨h.cs.app G, app_get_of h.h3 G, app_get_of h.h4 G, h.bl, h.ab, h.ag, h.ai, h.sb.app h.cs.lt G, h.sg.app h.cs.lt G, h.ss.app h.cs.lt G, h.bg, h.bs, h.gs⟩
theorem CI.stp (h : CI gl es O bls ns ss H V Bs tb tg ts) {es' : List Ex} {O' : List Ins} {H' : List AObj} {V' : List Nat} (hC : CS 2 gl es' O' H' V') (hS : Stp 2 H V H' V') : CI gl es' O' bls ns ss H' V' Bs tb tg ts :=
 ⟨hC, hS.get h.h3 (by decide), hS.get h.h4 (by decide), h.bl, (hS.row h.ab h.sb).1, (hS.row h.ag h.sg).1, (hS.row h.ai h.ss).1, (hS.row h.ab h.sb).2, (hS.row h.ag h.sg).2, (hS.row h.ai h.ss).2, h.bg, h.bs, h.gs⟩
theorem CI.setB (h : CI gl es O bls ns ss H V Bs tb tg ts) {b : List Ins} {x : AV} {tb' : Tl} {V' : List Nat} (hx : blX b x) (ha : App V' (Bs ++ [x]) tb') (o : Oth V tb V' tb') : CI gl es O (bls ++ [b]) ns ss (H.set 4 (.cells false [.sl (Bs ++ [x]) tb', .sl (nmA ns) tg, .sl (ints ss) ts])) V' (Bs ++ [x]) tb' tg ts := by
 have hl := h.lt
 have e : ∀ Y : AObj, (H.set 4 Y)[2]? = H[2]? := fun Y => by rw [List.getElem?_set, if_neg (by decide)]
 refine ⟨h.cs.oth h.sb (e _) o, by rw [List.getElem?_set, if_neg (by decide)]; exact h.h3, by rw [List.getElem?_set, if_pos rfl, if_pos hl], h.bl.append (.one hx), ha, h.ag.keep o h.bg, h.ai.keep o h.bs, h.sb.oth h.cs (e _) o, fun i v ee hw => h.sg i v ee ((owc_eq (e _) i).1 hw), fun i v ee hw => h.ss i v ee ((owc_eq (e _) i).1 hw), (h.bg.symm.oth h.ag o).symm, (h.bs.symm.oth h.ai o).symm, h.gs⟩
theorem CI.setG (h : CI gl es O bls ns ss H V Bs tb tg ts) {n : ByteArray} {tg' : Tl} {V' : List Nat} (ha : App V' (nmA (ns ++ [n])) tg') (o : Oth V tg V' tg') : CI gl es O bls (ns ++ [n]) ss (H.set 4 (.cells false [.sl Bs tb, .sl (nmA (ns ++ [n])) tg', .sl (ints ss) ts])) V' Bs tb tg' ts := by
 have hl := h.lt
 have e : ∀ Y : AObj, (H.set 4 Y)[2]? = H[2]? := fun Y => by rw [List.getElem?_set, if_neg (by decide)]
 refine ⟨h.cs.oth h.sg (e _) o, by rw [List.getElem?_set, if_neg (by decide)]; exact h.h3, by rw [List.getElem?_set, if_pos rfl, if_pos hl], h.bl, h.ab.keep o h.bg.symm, ha, h.ai.keep o h.gs, fun i v ee hw => h.sb i v ee ((owc_eq (e _) i).1 hw), h.sg.oth h.cs (e _) o, fun i v ee hw => h.ss i v ee ((owc_eq (e _) i).1 hw), h.bg.oth h.ab o, h.bs, (h.gs.symm.oth h.ai o).symm⟩
theorem CI.setS (h : CI gl es O bls ns ss H V Bs tb tg ts) {n : Int} {ts' : Tl} {V' : List Nat} (ha : App V' (ints (ss ++ [n])) ts') (o : Oth V ts V' ts') : CI gl es O bls ns (ss ++ [n]) (H.set 4 (.cells false [.sl Bs tb, .sl (nmA ns) tg, .sl (ints (ss ++ [n])) ts'])) V' Bs tb tg ts' := by
 have hl := h.lt
 have e : ∀ Y : AObj, (H.set 4 Y)[2]? = H[2]? := fun Y => by rw [List.getElem?_set, if_neg (by decide)]
 refine ⟨h.cs.oth h.ss (e _) o, by rw [List.getElem?_set, if_neg (by decide)]; exact h.h3, by rw [List.getElem?_set, if_pos rfl, if_pos hl], h.bl, h.ab.keep o h.bs.symm, h.ag.keep o h.gs.symm, ha, fun i v ee hw => h.sb i v ee ((owc_eq (e _) i).1 hw), fun i v ee hw => h.sg i v ee ((owc_eq (e _) i).1 hw), h.ss.oth h.cs (e _) o, h.bg, h.bs.oth h.ab o, h.gs.oth h.ag o⟩
theorem CI.nil (h : CI gl es O bls ns ss H V Bs tb tg ts) {Q : List AV} {tq to : Tl} {L : List AV} (h1 : H[2]? = some (.cells false [gl, .sl Q tq, .sl L to])) : CI gl es [] bls ns ss (H.set 2 (.cells false [gl, .sl Q tq, .sl [] .nil])) V Bs tb tg ts := by
 have hl := h.lt
 obtain ⟨Q', tq', to', g1, g2, g3, g4, g5⟩ := h.cs
 rw [h1] at g1
 simp only [Option.some.injEq, AObj.cells.injEq, List.cons.injEq, AV.sl.injEq, true_and, and_true] at g1
 obtain ⟨⟨rfl, rfl⟩, rfl, rfl⟩ := g1
 have hs : (H.set 2 (.cells false [gl, .sl Q tq, .sl [] .nil]))[2]? = some (.cells false [gl, .sl Q tq, .sl (insA []) .nil]) := by rw [List.getElem?_set, if_pos rfl, if_pos (by omega)]; rfl
 have ho : ∀ i, OwC 2 (H.set 2 (.cells false [gl, .sl Q tq, .sl [] .nil])) i → OwC 2 H i := fun i ⟨_, _, _, _, _, v, e1, e2⟩ => by
  rw [hs] at e1
  simp only [Option.some.injEq, AObj.cells.injEq, List.cons.injEq, AV.sl.injEq, true_and, and_true] at e1
  obtain ⟨_, ⟨_, rfl⟩, _, rfl⟩ := e1
  rcases e2 with e2 | e2
  ·exact ⟨_, _, _, _, _, _, h1, .inl e2⟩
  ·cases e2
 refine ⟨⟨Q, tq, .nil, hs, g2, g3, .inl ⟨rfl, rfl⟩, fun i v v' _ e => by cases e⟩, by rw [List.getElem?_set, if_neg (by decide)]; exact h.h3, by rw [List.getElem?_set, if_neg (by decide)]; exact h.h4, h.bl, h.ab, h.ag, h.ai, fun i v e hw => h.sb i v e (ho i hw), fun i v e hw => h.sg i v e (ho i hw), fun i v e hw => h.ss i v e (ho i hw), h.bg, h.bs, h.gs⟩
end
theorem blocks_call (H : List AObj) (V : List Nat) (ci : Nat) (K KP) : CW (run md pfs) md false ⟨H, V⟩ 22 [.ptr ci 0] K KP () = K (.fn 51 [.ptr H.length 0]) ⟨H ++ [.cells false [.ptr ci 0]], V⟩ := by
 have : Rw 22 [.ptr ci 0] ⟨H, V⟩ (fun v s => v = .fn 51 [.ptr H.length 0] ∧ s = ⟨H ++ [.cells false [.ptr ci 0]], V⟩) := by
  refine rw_of pf22_is (Nat.le_of_ble_eq_true rfl) ?_
  simp only [pf22, ↓wpre, wall, simprocAttr, List.length_append, List.append_assoc, app_get_len, app_get_add, app_set_len, app_set_add, AQ_ret, AQ_normal]
 obtain ⟨v, s, ⟨rfl, rfl⟩, h⟩ := this.call rfl
 exact h K KP
end Go.Proofs.Eng
namespace Go.Proofs.Eng
open Go Go.Proofs
set_option maxRecDepth 100000
set_option maxHeartbeats 16000000
def nsL (n : Nat) : List Int := (List.range' 1 n).map fun (i : Nat) => (i : Int)
theorem nsL_snoc (n : Nat) : nsL (n + 1) = nsL n ++ [((n + 1 : Nat) : Int)] := by
 rw [nsL, nsL, List.range'_concat, List.map_append, List.map_cons, List.map_nil]; congr 2; simp; omega
theorem nsL_len (n : Nat) : (nsL n).length = n := by simp [nsL]
theorem ints_snoc (l : List Int) (x : Int) : ints (l ++ [x]) = ints l ++ [.int x] := by simp [ints]
theorem sum_mem {b : Nat} : ∀ {l : List Nat}, b ∈ l → b ≤ l.sum
 | x :: l, h => by
  rcases List.mem_cons.1 h with rfl | h
  ·simp
  ·have := sum_mem h; simp; omega
theorem set_ne {H : List AObj} {k j : Nat} {o x : AObj} (h : H[k]? = some o) (n : j ≠ k) : (H.set j x)[k]? = some o := by rw [List.getElem?_set, if_neg n]; exact h
theorem setPs1 {nt : Nat} {E : Env} {q : Nat} {x : AV} : setPs (tmE nt E) [q] [x] = tmE nt (updE E q x) := (show setPs (tmE nt E) [q] [x] = put (tmE nt E) (some q) x from rfl).trans (by simp only [↓wpre, wall, simprocAttr])
theorem AllZ.mem {P : Ex → Int → Prop} : ∀ {l : List Ex} {zs : List Int}, AllZ P l zs → ∀ {x}, x ∈ l → ∃ z, P x z
 | [], [], _, x, hx => by cases hx
 | y :: l, z :: zs, h, x, hx => by
  rcases List.mem_cons.1 hx with rfl | hx
  ·exact ⟨z, h.1⟩
  ·exact AllZ.mem h.2 hx
 | [], _ :: _, h, _, _ => h.elim
 | _ :: _, [], h, _, _ => h.elim
theorem itF_at {gl : AV} {es : List Ex} {O : List Ins} {H : List AObj} {V : List Nat} (hC : CS 2 gl es O H V) {k : Nat} (hk : H[k]? = some (.cells false [.ptr 2 0])) (hl : es.length ≤ 4000000000000000000) :
  (∀ i x, es[i]? = some x → ∃ c, x.Is (.agg c) ∧ itF 51 [.ptr k 0] ⟨H, V⟩ i = some (some [.agg c])) ∧ itF 51 [.ptr k 0] ⟨H, V⟩ es.length = some none := by
 obtain ⟨Q, tq, to, h1, h2, _⟩ := hC
 have hall := h2.all exAgg
 have hlen := h2.len
 have hc : ((Q.all fun x => x.cells.length == 5) = true ∧ Q.length ≤ 4000000000000000000) := ⟨hall, by omega⟩
 refine ⟨fun i x hx => ?_, ?_⟩
 ·have hi : i < Q.length := by rw [hlen]; exact (List.getElem?_eq_some_iff.1 hx).1
  obtain ⟨y, c, d0, _, _, d4, _, _, _, d8⟩ := h2.get exAgg hi
  rw [hx] at d0; cases d0
  exact ⟨c, d8, by simp only [itF, if_true, hk, h1]; rw [if_pos hc, d4]⟩
 ·simp only [itF, if_true, hk, h1]
  rw [if_pos hc, List.getElem?_eq_none (by omega), hlen]; simp
theorem Compile_ret {p : Pr} {pa : AV} (hp : p.Is pa) {B : Int} (hok : p.check = 0 → PrOK p B ∧ (compC p).bl.length ≤ 900000 ∧ ((compC p).bl.map List.length).sum ≤ capB) :
  Out md pfs 7 [pa] (fun v => (p.check ≠ 0 ∧ v = .tup [.agg [.sl [] .nil, .sl [] .nil, .sl [] .nil], .int p.check]) ∨ (p.check = 0 ∧ ∃ a, v = .tup [a, .int 0] ∧ (compC p).Is a)) fun _ => False := by
 obtain ⟨gas, tg0, c, rfl, h1, h2, h3, h4, h5, h6, h7, h8, h9, h10⟩ := id hp
 have hgl : gas.length = p.gs.length := h3.len
 have hcap : capB = 1073741824 := rfl
 refine out_of pf7_is (Nat.le_of_ble_eq_true rfl) ?_
 obtain ⟨_, rfl, cck⟩ := (Check_ret hp).call rfl (by simp [pvs_cons, pvs_nil, prPure hp])
 cases hz : (p.check == 0)
 ·have hz' : p.check ≠ 0 := by simpa using hz
  have hne : (p.check != 0) = true := by simp [bne, hz]
  simp only [pf7, ↓wpre, wall, simprocAttr, List.length_append, List.append_assoc, app_get_len, app_get_add, app_set_len, app_set_add, h5, h6, h10, cck, hz, hne]
  exact .inl hz'
 have hz' : p.check = 0 := by simpa using hz
 obtain ⟨hP, hbl, hsum⟩ := hok hz'
 rw [hz'] at cck
 have hcnt := comp_cnt hP
 have hI0 : CI (.sl gas tg0) [] [] [] [] [] [.cells false (.sl gas tg0 :: c), .cells false [.sl [] .nil, .sl [] .nil, .sl [] .nil], .cells false [.sl gas tg0, .sl [] .nil, .sl [] .nil], .cells false [.ptr 2 0], .cells false [.sl [] .nil, .sl [] .nil, .sl [] .nil]] [] [] .nil .nil .nil :=
  ⟨⟨[], .nil, .nil, rfl, trivial, .inl ⟨rfl, rfl⟩, .inl ⟨rfl, rfl⟩, fun _ _ _ e => by cases e⟩, rfl, rfl, trivial, .inl ⟨rfl, rfl⟩, .inl ⟨rfl, rfl⟩, .inl ⟨rfl, rfl⟩, fun _ _ e => (by cases e), fun _ _ e => (by cases e), fun _ _ e => (by cases e), fun _ _ _ e => (by cases e), fun _ _ _ e => (by cases e), fun _ _ _ e => (by cases e)⟩
 obtain ⟨H1, V1, a1, a2, a3⟩ := block_call hI0.cs h4 (by simp)
 have hI1 := hI0.stp a1 a2
 simp only [pf7, ↓wpre, wall, simprocAttr, List.length_append, List.append_assoc, app_get_len, app_get_add, app_set_len, app_set_add, h5, h6, h10, cck, a3]
 have hH1 : H1[1]? = some (.cells false [.sl [] .nil, .sl [] .nil, .sl [] .nil]) := a2.get rfl (by decide)
 have hH0 : H1[0]? = some (.cells false (.sl gas tg0 :: c)) := a2.get rfl (by decide)
 simp only [↓wpre, wall, simprocAttr, List.length_append, List.append_assoc, app_get_len, app_get_add, app_set_len, app_set_add, hH0]
 refine W_loopE (fun j => gas.length - j) (fun j E H T => j ≤ gas.length ∧ H[1]? = some (.cells false [.sl [] .nil, .sl [] .nil, .sl [] .nil]) ∧ E 2 = .ptr 1 0 ∧ E 5 = .ptr 3 0 ∧ E 6 = .ptr 4 0 ∧ E 25 = .sl gas tg0 ∧ E 26 = .int gas.length ∧ E 27 = .int j ∧ ∃ tg ts, CI (.sl gas tg0) (p.main :: (p.gs.take j).map (·.2)) [] [] ((p.gs.take j).map (·.1)) (nsL j) H T [] .nil tg ts) ?_ 0 ⟨Nat.zero_le _, hH1, rfl, rfl, rfl, rfl, rfl, rfl, _, _, hI1⟩
 rintro j E H V ⟨hj, b1, e2, e5, e6, e25, e26, e27, tg, ts, hI⟩
 rcases Nat.lt_or_ge j gas.length with hlt | hge
 ·obtain ⟨g, _, d0, d1, d3, d4, ⟨c2, rfl, hns, hg⟩⟩ := h3.at hlt
  obtain ⟨c3, e, g1, g2⟩ := exAgg.cells hg
  cases e
  have g3 : c2.take 5 = c2 := List.take_of_length_le (by omega)
  have hdec : decide ((j : Int) < gas.length) = true := by simpa using hlt
  have hA := hI.app [.cells false (.str g.1 :: c2)]
  have hgn : ((p.gs.take (j + 1)).map (·.1)) = (p.gs.take j).map (·.1) ++ [g.1] := by rw [List.take_add_one, d0]; simp
  have hge : p.main :: ((p.gs.take (j + 1)).map (·.2)) = (p.main :: (p.gs.take j).map (·.2)) ++ [g.2] := by rw [List.take_add_one, d0]; simp
  have hbl' := hcnt.1
  obtain ⟨tg', V', q1, q2, q3⟩ := app_many (es := 1) (xs := [.str g.1]) hA.ag (by simp [nmA_len]; omega) (nmA_all _) rfl
  rw [← nmA_snoc] at q1 q2
  replace q1 : ∀ H, appA ⟨H, V⟩ 1 none (nmA ((p.gs.take j).map (·.1))) tg [.str g.1] = some (.sl (nmA ((p.gs.take j).map (·.1) ++ [g.1])) tg', ⟨H, V'⟩) := q1
  have hB := hA.setG q2 q3
  obtain ⟨H3, V3, r1, r2, r3⟩ := block_call hB.cs hg (by simp; omega)
  have hD := hB.stp r1 r2
  have hel : (p.main :: (p.gs.take j).map (·.2)).length = j + 1 := by simp; omega
  rw [hel] at r3
  obtain ⟨ts', V4, u1, u2, u3⟩ := app_many (es := 1) (xs := [.int ((j + 1 : Nat) : Int)]) hD.ai (by rw [ints_len, nsL_len]; simp only [List.length_cons, List.length_nil]; omega) (ints_all _) rfl
  rw [← ints_snoc, ← nsL_snoc] at u1
  rw [← ints_snoc] at u2
  replace u1 : ∀ H, appA ⟨H, V3⟩ 1 none (ints (nsL j)) ts [.int ((j + 1 : Nat) : Int)] = some (.sl (ints (nsL (j + 1))) ts', ⟨H, V4⟩) := u1
  have hF := hD.setS u2 u3
  rw [← nsL_snoc] at hF
  have hlen := hI.lt
  have f8 : ((H ++ [AObj.cells false (.str g.1 :: c2)]).set 4 (.cells false [.sl [] .nil, .sl (nmA ((p.gs.take j).map (·.1) ++ [g.1])) tg', .sl (ints (nsL j)) ts]))[H.length]? = some (.cells false (.str g.1 :: c2)) := set_ne (by simp) (by omega)
  have hq : eqAV (.sl (ints (nsL j)) ts) (.sl (ints (nsL j)) ts) = true := eqT _ _ (eqIs _)
  simp only [↓wpre, wall, simprocAttr, List.length_append, List.append_assoc, app_get_len, app_get_add, app_set_len, app_set_add, e2, e5, e6, e25, e26, e27, hdec, d4, h10, g1, g2, g3, hA.h3, hA.h4, hB.h3, hB.h4, f8, q1, r3, hD.h4, hD.h3, u1, hq]
  exact EQ_in ⟨j + 1, by omega, by omega, set_ne (r2.get (set_ne (app_get_of b1 _) (by decide)) (by decide)) (by decide), e2, e5, e6, e25, e26, next_ixv (by omega), _, _, by rw [hgn, hge]; exact hF⟩
 have hdec : decide ((j : Int) < gas.length) = false := by simpa using hge
 have hjl : j = p.gs.length := by omega
 subst hjl
 rw [List.take_of_length_le (by omega)] at hI
 have hlen := hI.lt
 have hA := hI.app [.cells false [.ptr 2 0]]
 simp only [↓wpre, wall, simprocAttr, List.length_append, List.append_assoc, app_get_len, app_get_add, app_set_len, app_set_add, e2, e5, e6, e25, e26, e27, hdec, hI.h3, blocks_call]
 generalize hk : H.length = k
 have hk4 : 4 < k := by omega
 have hkx : (H ++ [AObj.cells false [.ptr 2 0]])[k]? = some (.cells false [.ptr 2 0]) := by rw [← hk]; simp
 refine W_rangeq (gf := 51) (caps := [.ptr k 0]) rfl rfl 900000 (by decide) (fun i s => ∃ H V es bls zs f Bs O tb tg ts, s = ⟨H, V⟩ ∧ CI (.sl gas tg0) es O bls (p.gs.map (·.1)) (nsL p.gs.length) H V Bs tb tg ts ∧ H[1]? = some (.cells false [.sl [] .nil, .sl [] .nil, .sl [] .nil]) ∧ H[k]? = some (.cells false [.ptr 2 0]) ∧ bls.length = i ∧ i ≤ es.length ∧ szL (es.drop i) ≤ f ∧ AllZ (ErrZ p.gl B) (es.drop i) zs ∧ bls ++ blocks p.gs f es.length (es.drop i) = (compC p).bl) ?_ ?_
 ·rintro i s ⟨H, V, es, bls, zs, f, Bs, O, tb, tg, ts, rfl, hI, b1, hkk, hbi, hi, hf, hz, hb⟩
  have har : arL (es.drop i) := (arL_iff _).2 fun x hx => by
   obtain ⟨z, hz⟩ := AllZ.mem hz hx
   exact err_ar _ hz.1
  have hcb := (blocks_cnt p.gs f es.length (es.drop i) hf har).1
  have hle : es.length ≤ 900000 := by
   have := congrArg List.length hb
   rw [List.length_append, hcb, List.length_drop] at this; omega
  obtain ⟨it1, it2⟩ := itF_at hI.cs hkk (by omega)
  rcases Nat.lt_or_ge i es.length with hlt | hge
  ·right
   have hx : es[i]? = some es[i] := List.getElem?_eq_getElem hlt
   generalize es[i] = x at hx
   obtain ⟨c3, hxI, hit⟩ := it1 i x hx
   refine ⟨by omega, _, hit, rfl, ?_⟩
   obtain ⟨c4, e, g1, g2⟩ := exAgg.cells hxI
   cases e
   have g3 : c3.take 5 = c3 := List.take_of_length_le (by omega)
   have hA := hI.app [.cells false c3]
   obtain ⟨Q, tq, to, k1, _⟩ := id hA.cs
   have hN := hA.nil k1
   have hdr : es.drop i = x :: es.drop (i + 1) := by
    obtain ⟨h, rfl⟩ := List.getElem?_eq_some_iff.1 hx
    exact List.drop_eq_getElem_cons h
   rw [hdr] at hz hb hf hcb har
   obtain ⟨z, zs', rfl⟩ : ∃ z zs', zs = z :: zs' := by
    cases zs with
    | nil => exact hz.elim
    | cons z zs' => exact ⟨z, zs', rfl⟩
   obtain ⟨⟨he1, he2, he3⟩, hz2⟩ := hz
   have hP3 := hP.hB
   obtain ⟨n1, n2, n3⟩ := emit_cnt p.gs x (err_ar _ he1) es.length
   have hsz := emit_sz p.gs x es.length
   rw [blocks_cons hf] at hb
   have hm := congrArg List.length hb
   have hml : ((x.emit p.gs es.length).1 ++ [Ins.o 3]).length ≤ capB := by
    refine Nat.le_trans ?_ hsum
    refine sum_mem (List.mem_map_of_mem ?_)
    rw [← hb]; simp
   simp only [List.length_append, List.length_cons, List.length_nil] at hml
   rw [nbL] at hcb
   have hdl := congrArg List.length hdr
   rw [List.length_drop] at hdl
   have hbb := congrArg List.length hb
   rw [List.length_append, ← blocks_cons hf, hcb] at hbb
   obtain ⟨H2, V2, r1, r2, r3⟩ := EmS.call (f := 23) (mk := fun a => [.ptr 2 0, a]) (expr_em h3 h1 h2 x he1 he2 (by omega)) rfl hN.cs hxI (by simp only [List.length_nil]; omega) (by simp only [List.length_cons] at hdl hbb; omega)
   have hN2 := hN.stp r1 r2
   obtain ⟨H3, V3, t1, t2, t3⟩ := put_call hN2.cs 3 0 0 ⟨#[]⟩ (by simp only [List.length_nil, List.length_append]; omega)
   have hN3 := hN2.stp t1 t2
   obtain ⟨Q3, tq3, to3, k3, _⟩ := id hN3.cs
   rw [List.nil_append] at t1 hN3 k3
   have hBs := hI.bl.len
   obtain ⟨tb', V4, u1, u2, u3⟩ := app_many (es := 1) (xs := [.sl (insA ((x.emit p.gs es.length).1 ++ [⟨3, 0, 0, ⟨#[]⟩⟩])) to3]) hN3.ab (by simp only [List.length_cons, List.length_nil]; omega) (List.all_eq_true.2 fun y hy => by
    obtain ⟨q, hq⟩ := List.mem_iff_getElem?.1 hy
    obtain ⟨b, a, _, _, _, e4, e5⟩ := hI.bl.at (i := q) (List.getElem?_eq_some_iff.1 hq).1
    rw [hq] at e4; cases e4
    exact blAgg e5) rfl
   have hF := hN3.setB (b := (x.emit p.gs es.length).1 ++ [⟨3, 0, 0, ⟨#[]⟩⟩]) ⟨to3, rfl⟩ u2 u3
   have f9 : (((H ++ [AObj.cells false c3]).set 2 (.cells false [.sl gas tg0, .sl Q tq, .sl [] .nil])))[H.length]? = some (.cells false c3) := set_ne (by simp) (by have := hI.lt; omega)
   simp only [setPs1, ↓wpre, wall, simprocAttr, List.length_append, List.append_assoc, app_get_len, app_get_add, app_set_len, app_set_add, RA_n, RB_n, g1, g2, g3, e2, e5, e6, hA.h3, hA.h4, k1, hN.h3, f9, r3, t3, hN2.h3, hN3.h3, hN3.h4, k3, u1]
   refine ⟨_, _, _, bls ++ [(x.emit p.gs es.length).1 ++ [Ins.o 3]], zs' ++ x.envs z, f, _, _, _, _, _, rfl, hF, ?_, ?_, by simp [hbi], by simp only [List.length_append]; omega, ?_, ?_, ?_⟩
   ·exact set_ne (t2.get (r2.get (set_ne (app_get_of b1 _) (by decide)) (by decide)) (by decide)) (by decide)
   ·exact set_ne (t2.get (r2.get (set_ne (app_get_of hkk _) (by omega)) (by omega)) (by omega)) (by omega)
   ·rw [List.drop_append_of_le_length (by omega), szL_app]; rw [szL] at hf; omega
   ·rw [List.drop_append_of_le_length (by omega)]
    exact hz2.app (emit_env hP3 x ⟨he1, he2, he3⟩)
   ·rw [List.drop_append_of_le_length (by omega), List.length_append, List.append_assoc]
    exact hb
  ·left
   have : i = es.length := by omega
   subst this
   refine ⟨it2, ?_⟩
   rw [List.drop_length] at hb
   have hb0 : blocks p.gs f es.length [] = [] := by cases f <;> rfl
   rw [hb0, List.append_nil] at hb
   subst hb
   have hlt1 : 1 < H.length := by have := hI.lt; omega
   have hs1 : ∀ Y : AObj, (H.set 1 Y)[1]? = some Y := fun Y => by rw [List.getElem?_set, if_pos rfl, if_pos hlt1]
   have hBl := hI.bl.len
   obtain ⟨Bs', p1, p2⟩ := pz_bls 1015 ⟨H.set 1 (.cells false [.sl Bs tb, .sl (nmA (p.gs.map (·.1))) tg, .sl (ints (nsL p.gs.length)) ts]), V⟩ (l := (compC p).bl) (fun b hb => by
    have := sum_mem (List.mem_map_of_mem (f := List.length) hb)
    have : lenB = 9223372036854775807 := rfl
    omega) hI.bl
   have p3 : purify 1020 ⟨H.set 1 (.cells false [.sl Bs tb, .sl (nmA (p.gs.map (·.1))) tg, .sl (ints (nsL p.gs.length)) ts]), V⟩ (.tup [.agg [.sl Bs tb, .sl (nmA (p.gs.map (·.1))) tg, .sl (ints (nsL p.gs.length)) ts], .int 0]) = some (.tup [.agg [.sl Bs' (tb.stripR 1017 ⟨H.set 1 (.cells false [.sl Bs tb, .sl (nmA (p.gs.map (·.1))) tg, .sl (ints (nsL p.gs.length)) ts]), V⟩), .sl (nmA (p.gs.map (·.1))) (tg.stripR 1017 ⟨H.set 1 (.cells false [.sl Bs tb, .sl (nmA (p.gs.map (·.1))) tg, .sl (ints (nsL p.gs.length)) ts]), V⟩), .sl (ints (nsL p.gs.length)) (ts.stripR 1017 ⟨H.set 1 (.cells false [.sl Bs tb, .sl (nmA (p.gs.map (·.1))) tg, .sl (ints (nsL p.gs.length)) ts]), V⟩)], .int 0]) := by
    rw [pz_tup]
    simp only [mapO, pz_agg, pz_sl, p1, mapO_at (nmPure _), mapO_at (ints_pure _), purify_pure (n := 1018) pv_v, purify_pure (n := 1019) pv_v, Option.map_some]
   have p4 := p2.len
   have hlb : lenB = 9223372036854775807 := rfl
   simp only [↓wpre, wall, simprocAttr, List.length_append, List.append_assoc, app_get_len, app_get_add, app_set_len, app_set_add, hI.h4, b1, e2, e6, hlt1, hs1, p3]
   exact .inr ⟨hz', _, rfl, _, _, _, _, rfl, p2, stripR_pure _ _ _, stripR_pure _ _ _, stripR_pure _ _ _, by omega, by simp only [compC, List.length_map]; omega, by simp only [compC, List.length_map, List.length_range']; omega⟩
 ·refine ⟨_, _, p.es, [], List.replicate p.es.length 0, szL p.es, _, _, _, _, _, rfl, hA, app_get_of b1 _, hkx, rfl, Nat.zero_le _, Nat.le_refl _, ?_, rfl⟩
  exact allz_zero hP.all
end Go.Proofs.Eng
namespace Go.Proofs.Eng
open Go Go.Proofs
set_option maxRecDepth 100000
set_option maxHeartbeats 16000000
theorem rput_sh {ci : Nat} {gl : AV} {es : List Ex} {O : List Ins} {H : List AObj} {V : List Nat} (hC : CS ci gl es O H V) (x : Ins) (hl : O.length < capB) :
  Sh md pfs 28 [.ptr ci 0, .int x.op, .int x.a, .int x.b, .str x.n] ⟨H, V⟩ (fun v s => v = .tup [] ∧ ∃ H' V', s = ⟨H', V'⟩ ∧ CS ci gl es (O ++ [x]) H' V' ∧ Stp ci H V H' V') fun _ _ => False := by
 obtain ⟨Q, tq, to, h1, h2, h3, h4, h5⟩ := hC
 obtain ⟨to', V', a1, a2, a3⟩ := app_many (es := 4) (xs := [x.av]) h4 (by rw [insA_len]; simp only [List.length_cons, List.length_nil]; omega) (insA_all O) rfl
 rw [← insA_snoc] at a1 a2
 replace a1 : ∀ H, appA ⟨H, V⟩ 4 none (insA O) to [.agg [.int x.op, .int x.a, .int x.b, .str x.n]] = some (.sl (insA (O ++ [x])) to', ⟨H, V'⟩) := a1
 obtain ⟨c1, c2⟩ := CS.out h1 h2 h3 h5 a2 a3
 refine sh_of pf28_is (Nat.le_of_ble_eq_true rfl) ?_
 simp only [pf28, ↓wpre, wall, simprocAttr, List.length_append, List.append_assoc, app_get_len, app_get_add, app_set_len, app_set_add, h1, a1]
 exact ⟨_, _, rfl, c1, c2⟩
theorem rblock_sh {ci : Nat} {gl : AV} {es : List Ex} {O : List Ins} {H : List AObj} {V : List Nat} (hC : CS ci gl es O H V) {x : Ex} {a : AV} (hx : x.Is a) (hl : es.length < capB) :
  Sh md pfs 26 [.ptr ci 0, a] ⟨H, V⟩ (fun v s => v = .int (es.length : Nat) ∧ ∃ H' V', s = ⟨H', V'⟩ ∧ CS ci gl (es ++ [x]) O H' V' ∧ Stp ci H V H' V') fun _ _ => False := by
 have hlt := hC.lt
 obtain ⟨Q, tq, to, h1, h2, h3, h4, h5⟩ := hC
 have hln := h2.len
 obtain ⟨k, i, n, s, kids⟩ := x
 have hx0 := hx
 obtain ⟨t1, t2, kas, rfl, g1, g2, g3, g4, g5, g6⟩ := hx.opn
 obtain ⟨tq', V', a1, a2, a3⟩ := app_many (es := 5) (xs := [.agg [.int k, .int i, .str n, .sl (ints s) t1, .sl kas t2]]) h3 (by simp only [List.length_cons, List.length_nil]; omega) (h2.all exAgg) (by
  simp only [List.all_cons, List.all_nil, cells_agg, onec_v, onec_sl]; rfl)
 have b1 := app_get_of h1 [AObj.cells false [.int k, .int i, .str n, .sl (ints s) t1, .sl kas t2]]
 have hB : ∀ H, appB ⟨H, V⟩ 5 Q tq [.agg [.int k, .int i, .str n, .sl (ints s) t1, .sl kas t2]] = some (.sl (Q ++ [.agg [.int k, .int i, .str n, .sl (ints s) t1, .sl kas t2]]) tq', ⟨H, V'⟩) := fun H => by rw [appB_eq h3, a1]
 obtain ⟨c1, c2⟩ := CS.que b1 h4 h5 (h2.append (.one hx0)) a2 a3
 have c3 := (Stp.app hlt V [AObj.cells false [.int k, .int i, .str n, .sl (ints s) t1, .sl kas t2]]).trans c2
 have lb := lt_of_get b1
 have hs1 : ∀ Y, ((H ++ [AObj.cells false [AV.int k, .int i, .str n, .sl (ints s) t1, .sl kas t2]]).set ci Y)[ci]? = some Y := fun Y => by rw [List.getElem?_set, if_pos rfl, if_pos lb]
 have w92 : IntKind.i64.wrap (((Q.length + 1 : Nat) : Int) - 1) = (es.length : Nat) := by rw [wrap_in (by unfold in64; unfold capB at hl; omega)]; omega
 refine sh_of pf26_is (Nat.le_of_ble_eq_true rfl) ?_
 simp only [pf26, ↓wpre, wall, simprocAttr, List.length_append, List.append_assoc, app_get_len, app_get_add, app_set_len, app_set_add, b1, hB, hs1, srcA_sl, w92, List.length_singleton]
 exact ⟨_, _, rfl, c1, c3⟩
theorem rput_call {ci : Nat} {gl : AV} {es : List Ex} {O : List Ins} {H : List AObj} {V : List Nat} (hC : CS ci gl es O H V) (op a b : Int) (n : ByteArray) (hl : O.length < capB) :
  ∃ H' V', CS ci gl es (O ++ [⟨op, a, b, n⟩]) H' V' ∧ Stp ci H V H' V' ∧ ∀ K KP, CW (run md pfs) md false ⟨H, V⟩ 28 [.ptr ci 0, .int op, .int a, .int b, .str n] K KP () = K (.tup []) ⟨H', V'⟩ := by
 obtain ⟨_, _, ⟨rfl, H', V', rfl, h1, h2⟩, h3⟩ := (rput_sh hC ⟨op, a, b, n⟩ hl).callRet rfl
 exact ⟨H', V', h1, h2, h3⟩
theorem rblock_call {ci : Nat} {gl : AV} {es : List Ex} {O : List Ins} {H : List AObj} {V : List Nat} (hC : CS ci gl es O H V) {x : Ex} {a : AV} (hx : x.Is a) (hl : es.length < capB) :
  ∃ H' V', CS ci gl (es ++ [x]) O H' V' ∧ Stp ci H V H' V' ∧ ∀ K KP, CW (run md pfs) md false ⟨H, V⟩ 26 [.ptr ci 0, a] K KP () = K (.int (es.length : Nat)) ⟨H', V'⟩ := by
 obtain ⟨_, _, ⟨rfl, H', V', rfl, h1, h2⟩, h3⟩ := (rblock_sh hC hx hl).callRet rfl
 exact ⟨H', V', h1, h2, h3⟩
end Go.Proofs.Eng
namespace Go.Proofs.Eng
open Go Go.Proofs
set_option maxRecDepth 100000
set_option maxHeartbeats 16000000
abbrev RExp (ci : Nat) (gl : AV) (gs : List Gl) (x : Ex) : Prop := EmS ci gl gs 27 (fun a => [.ptr ci 0, a]) x
theorem rexp_call {ci : Nat} {gl : AV} {gs : List Gl} {x : Ex} (h : RExp ci gl gs x) {es : List Ex} {O : List Ins} {H : List AObj} {V : List Nat} {a : AV} (hC : CS ci gl es O H V) (hx : x.Is a) (b1 : O.length + (x.emit gs es.length).1.length ≤ capB) (b2 : es.length + (x.emit gs es.length).2.length ≤ capB) :
  ∃ H' V', CS ci gl (es ++ (x.emit gs es.length).2) (O ++ (x.emit gs es.length).1) H' V' ∧ Stp ci H V H' V' ∧ ∀ K KP, CW (run md pfs) md false ⟨H, V⟩ 27 [.ptr ci 0, a] K KP () = K (.tup []) ⟨H', V'⟩ :=
 EmS.call (f := 27) (mk := fun a => [.ptr ci 0, a]) h rfl hC hx b1 b2
theorem rkids_sh {ci : Nat} {gl : AV} {gs : List Gl} {kids : List Ex} (ih : ∀ x ∈ kids, RExp ci gl gs x) {kas : List AV} {t2 : Tl} (g6 : LIs Ex.Is kids kas) (g5 : kas.length ≤ lenB) {es : List Ex} {O : List Ins} {H : List AObj} {V : List Nat} (hC : CS ci gl es O H V) (b1 : O.length + (emitL gs es.length kids).1.length ≤ capB) (b2 : es.length + (emitL gs es.length kids).2.length ≤ capB) :
  Sh md pfs 54 [.ptr ci 0, .sl kas t2] ⟨H, V⟩ (fun v s => v = .tup [] ∧ ∃ H' V', s = ⟨H', V'⟩ ∧ CS ci gl (es ++ (emitL gs es.length kids).2) (O ++ (emitL gs es.length kids).1) H' V' ∧ Stp ci H V H' V') fun _ _ => False := by
 have hkl := g6.len
 have hall := g6.all exAgg
 refine sh_of pf54_is (Nat.le_of_ble_eq_true rfl) ?_
 simp only [pf54, ↓wpre, wall, simprocAttr, List.length_append, List.append_assoc, app_get_len, app_get_add, app_set_len, app_set_add]
 refine W_loopE (fun j => kas.length - j) (fun j E H' V' => CS ci gl (es ++ (emitL gs es.length (kids.take j)).2) (O ++ (emitL gs es.length (kids.take j)).1) H' V' ∧ Stp ci H V H' V' ∧ E 0 = .ptr ci 0 ∧ E 1 = .sl kas t2 ∧ E 4 = .int (j : Nat) ∧ j ≤ kas.length) ?_ 0 ⟨by simpa [emitL] using hC, ⟨Nat.le_refl _, Nat.le_refl _, fun _ _ h _ => h, fun _ h => .inl h, fun _ _ _ => rfl⟩, rfl, rfl, rfl, Nat.zero_le _⟩
 rintro j E H1 V1 ⟨hC1, hS1, e0, e1, e4, hj⟩
 rcases Nat.lt_or_ge j kas.length with hlt | hge
 ·have hdec : decide ((j : Int) < kas.length) = true := by simpa using hlt
  obtain ⟨x, c, d0, d1, d3, d4, d5, d6, d7, d8⟩ := g6.get exAgg hlt
  have hen := emitL_take (gs := gs) d0 es.length
  have hle := emitL_le (gs := gs) (kids := kids) (c := es.length) (j + 1)
  rw [hen] at hle
  simp only [List.length_append] at hle
  obtain ⟨H2, V2, hC2, hS2, cr⟩ := rexp_call (ih x d3) hC1 d8 (by rw [List.length_append, List.length_append]; omega) (by rw [List.length_append]; omega)
  rw [List.length_append] at hC2
  simp only [↓wpre, wall, simprocAttr, List.length_append, List.append_assoc, app_get_len, app_get_add, app_set_len, app_set_add, e0, e1, e4, hdec, d4, d5, d6, d7, hall, cr]
  exact EQ_in ⟨j + 1, by omega, by rw [hen, ← List.append_assoc, ← List.append_assoc]; exact hC2, hS1.trans hS2, e0, e1, next_ixv (by unfold lenB; unfold lenB at g5; omega), by omega⟩
 ·have hdec : decide ((j : Int) < kas.length) = false := by simpa using hge
  rw [List.take_of_length_le (by omega)] at hC1
  simp only [↓wpre, wall, simprocAttr, e0, e1, e4, hdec]
  exact ⟨_, _, rfl, hC1, hS1⟩
theorem rkids_call {ci : Nat} {gl : AV} {gs : List Gl} {kids : List Ex} (ih : ∀ x ∈ kids, RExp ci gl gs x) {kas : List AV} {t2 : Tl} (g6 : LIs Ex.Is kids kas) (g5 : kas.length ≤ lenB) {es : List Ex} {O : List Ins} {H : List AObj} {V : List Nat} (hC : CS ci gl es O H V) (b1 : O.length + (emitL gs es.length kids).1.length ≤ capB) (b2 : es.length + (emitL gs es.length kids).2.length ≤ capB) :
  ∃ H' V', CS ci gl (es ++ (emitL gs es.length kids).2) (O ++ (emitL gs es.length kids).1) H' V' ∧ Stp ci H V H' V' ∧ ∀ K KP, CW (run md pfs) md false ⟨H, V⟩ 54 [.ptr ci 0, .sl kas t2] K KP () = K (.tup []) ⟨H', V'⟩ := by
 obtain ⟨_, _, ⟨rfl, H', V', rfl, h1, h2⟩, h3⟩ := (rkids_sh ih g6 g5 hC b1 b2).callRet rfl
 exact ⟨H', V', h1, h2, h3⟩
theorem gidx_ne {n : ByteArray} : ∀ {gs : List Gl} {j : Nat} {g : Gl}, gs[j]? = some g → j < gidx gs n → g.1 ≠ n
 | [], j, g, h, _ => by simp at h
 | x :: gs, j, g, h, hl => by
  rw [gidx] at hl
  split at hl
  ·omega
  ·rename_i hx
   cases j with
   | zero => simp only [List.getElem?_cons_zero, Option.some.injEq] at h; subst h; exact hx
   | succ j => exact gidx_ne (by simpa using h) (by omega)
theorem gidx_at {n : ByteArray} : ∀ {gs : List Gl}, (gfind gs n).isSome = true → ∃ g, gs[gidx gs n]? = some g ∧ g.1 = n
 | [], h => by simp [gfind] at h
 | x :: gs, h => by
  rw [gidx]
  split
  ·rename_i hx; exact ⟨x, rfl, hx⟩
  ·rename_i hx
   rw [gfind, if_neg hx] at h
   obtain ⟨g, h1, h2⟩ := gidx_at h
   exact ⟨g, by simpa using h1, h2⟩
theorem rexpr_em {ci : Nat} {gas : List AV} {tg : Tl} {gs : List Gl} (hg : LIs glIs gs gas) (hl : gas.length ≤ lenB) (e : Ex) : ∀ {v : Int}, e.err (fun n => (gfind gs n).isSome) v = 0 → 0 ≤ v → v + 64 * e.dep ≤ B62 → RExp ci (.sl gas tg) gs e := by
 induction e using Ex.ind with
 | h k i n s kids ih =>
 intro v he hv hd es O H V a hC hx b1 b2
 have ihk : ∀ x ∈ kids, RExp ci (.sl gas tg) gs x := fun x hxk => by
  obtain ⟨j, hj⟩ := List.getElem?_of_mem hxk
  obtain ⟨h1, h2, h3⟩ := kid_err he hv hd hj
  exact ih x hxk h1 h2 (by omega)
 have har := err_ar _ he
 rw [Ex.ar] at har
 obtain ⟨r0, r1, r4, r5, r7, _⟩ := har
 obtain ⟨f1, f2, f3, f4, f5⟩ := err_facts he
 obtain ⟨k0, k1, _⟩ := fm_facts f1
 obtain ⟨t1, t2, kas, rfl, g1, g2, g3, g4, g5, g6⟩ := hx.opn
 obtain ⟨bx, hbx⟩ : ∃ bx, bx = AObj.cells false [.int k, .int i, .str n, .sl (ints s) t1, .sl kas t2] := ⟨_, rfl⟩
 have hkl := g6.len
 have hall := g6.all exAgg
 have hA := hC.app [bx]
 have hSA : Stp ci H V (H ++ [bx]) V := .app hC.lt V [bx]
 have hb0 : (H ++ [bx])[H.length]? = some bx := by simp
 have hne : H.length ≠ ci := by have := hC.lt; omega
 have hk12 : k = 0 ∨ k = 1 ∨ k = 2 ∨ k = 3 ∨ k = 4 ∨ k = 5 ∨ k = 6 ∨ k = 7 ∨ k = 8 ∨ k = 9 ∨ k = 10 ∨ k = 11 := by omega
 have kidsF : ∀ (op : Int) (n0 : ByteArray) (p q : Int), (Ex.mk k i n s kids).emit gs es.length = ((emitL gs es.length kids).1 ++ [⟨op, p, q, n0⟩], (emitL gs es.length kids).2) →
   ∃ H1 V1 H2 V2, H1[H.length]? = some bx ∧ CS ci (.sl gas tg) (es ++ ((Ex.mk k i n s kids).emit gs es.length).2) (O ++ ((Ex.mk k i n s kids).emit gs es.length).1) H2 V2 ∧ Stp ci H V H2 V2 ∧ (∀ K KP, CW (run md pfs) md false ⟨H ++ [bx], V⟩ 54 [.ptr ci 0, .sl kas t2] K KP () = K (.tup []) ⟨H1, V1⟩) ∧ (∀ K KP, CW (run md pfs) md false ⟨H1, V1⟩ 28 [.ptr ci 0, .int op, .int p, .int q, .str n0] K KP () = K (.tup []) ⟨H2, V2⟩) := by
  intro op n0 p q e
  rw [e] at b1 b2
  simp only [List.length_append, List.length_cons, List.length_nil] at b1
  obtain ⟨H1, V1, c1, c2, c3⟩ := rkids_call (t2 := t2) ihk g6 g5 hA (by omega) b2
  obtain ⟨H2, V2, q1, q2, q3⟩ := rput_call c1 op p q n0 (by rw [List.length_append]; omega)
  exact ⟨H1, V1, H2, V2, c2.get hb0 hne, by rw [e, ← List.append_assoc]; exact q1, (hSA.trans c2).trans q2, c3, q3⟩
 subst hbx
 refine sh_of pf27_is (Nat.le_of_ble_eq_true rfl) ?_
 rcases hk12 with rfl | rfl | rfl | rfl | rfl | rfl | rfl | rfl | rfl | rfl | rfl | rfl
 ·have e : (Ex.mk 0 i n s kids).emit gs es.length = ([⟨0, i, 0, ⟨#[]⟩⟩], []) := by simp [Ex.emit]
  rw [e] at b1 b2 ⊢
  simp only [List.length_cons, List.length_nil] at b1
  obtain ⟨H', V', c1, c2, c3⟩ := rput_call hA 0 i 0 ⟨#[]⟩ (by omega)
  simp only [pf27, ↓wpre, wall, simprocAttr, List.length_append, List.append_assoc, app_get_len, app_get_add, app_set_len, app_set_add, c3]
  exact ⟨_, _, rfl, by simpa using c1, hSA.trans c2⟩
 ·have hk := r1 rfl
  have e : (Ex.mk 1 i n s kids).emit gs es.length = ([⟨1, (es.length : Nat), 0, ⟨#[]⟩⟩], kids.take 1) := by simp [Ex.emit]
  rw [e] at b1 b2 ⊢
  simp only [List.length_cons, List.length_nil, List.length_take, hk] at b1 b2
  obtain ⟨y, c2, d0, d1, d3, d4, d5, d6, d7, d8⟩ := g6.get (i := 0) exAgg (by omega)
  have hy : kids.take 1 = [y] := by
   obtain ⟨z, hz⟩ := List.length_eq_one_iff.1 hk
   rw [hz] at d0 ⊢
   simp at d0; rw [d0]; rfl
  obtain ⟨H1, V1, p1, p2, p3⟩ := rblock_call hA d8 (by omega)
  obtain ⟨H2, V2, q1, q2, q3⟩ := rput_call p1 1 (es.length : Nat) 0 ⟨#[]⟩ (by omega)
  simp only [pf27, ↓wpre, wall, simprocAttr, List.length_append, List.append_assoc, app_get_len, app_get_add, app_set_len, app_set_add, d4, d5, d6, d7, hall, p3, q3]
  rw [hy]
  exact ⟨_, _, rfl, q1, (hSA.trans p2).trans q2⟩
 ·obtain ⟨H1, V1, H2, V2, hb, q1, q2, c3, q3⟩ := kidsF 2 ⟨#[]⟩ 0 0 (by simp [Ex.emit, Ins.o, opK])
  simp only [pf27, ↓wpre, wall, simprocAttr, List.length_append, List.append_assoc, app_get_len, app_get_add, app_set_len, app_set_add, c3, q3]
  exact ⟨_, _, rfl, q1, q2⟩
 ·obtain ⟨H1, V1, H2, V2, hb, q1, q2, c3, q3⟩ := kidsF 4 n i (kids.length : Nat) (by simp [Ex.emit])
  simp only [pf27, ↓wpre, wall, simprocAttr, List.length_append, List.append_assoc, app_get_len, app_get_add, app_set_len, app_set_add, c3, hb, hkl, q3]
  exact ⟨_, _, rfl, q1, q2⟩
 ·have hk := r4 rfl
  obtain ⟨y, l, rfl⟩ : ∃ y l, kids = y :: l := by
   match kids, hk with
   | y :: l, _ => exact ⟨y, l, rfl⟩
  have e : (Ex.mk 4 i n s (y :: l)).emit gs es.length = ((y.emit gs es.length).1 ++ ⟨5, (s.length : Nat), 0, ⟨#[]⟩⟩ :: brs (es.length + (y.emit gs es.length).2.length) s, (y.emit gs es.length).2 ++ l) := by simp [Ex.emit, emitH]
  rw [e] at b1 b2 ⊢
  simp only [List.length_cons, List.length_nil, List.length_append, brs_len] at b1 b2
  simp only [List.length_cons] at hkl hk
  have hia := ints_all s
  obtain ⟨y', c, d0, d1, d3, d4, d5, d6, d7, d8⟩ := g6.get (i := 0) exAgg (by omega)
  obtain rfl : y = y' := by simpa using d0
  obtain ⟨H1, V1, hC1, hS1, c1⟩ := rexp_call (ihk y d3) hA d8 (by omega) (by omega)
  obtain ⟨H2, V2, hC2, hS2, c2⟩ := rput_call hC1 5 (s.length : Nat) 0 ⟨#[]⟩ (by rw [List.length_append]; omega)
  have hb1 := hS1.get hb0 hne
  have hb2 := hS2.get hb1 hne
  have hS : Stp ci H V H2 V2 := (hSA.trans hS1).trans hS2
  simp only [pf27, ↓wpre, wall, simprocAttr, List.length_append, List.append_assoc, app_get_len, app_get_add, app_set_len, app_set_add, d4, d5, d6, d7, hall, c1, hb1, ints_len, c2]
  refine W_loopE (fun j => s.length - j) (fun j E H' V' => CS ci (.sl gas tg) (es ++ (y.emit gs es.length).2 ++ l.take j) (O ++ (y.emit gs es.length).1 ++ [⟨5, (s.length : Nat), 0, ⟨#[]⟩⟩] ++ brs (es.length + (y.emit gs es.length).2.length) (s.take j)) H' V' ∧ Stp ci H V H' V' ∧ E 0 = .ptr ci 0 ∧ E 3 = .ptr H.length 0 ∧ H'[H.length]? = some (.cells false [.int 4, .int i, .str n, .sl (ints s) t1, .sl kas t2]) ∧ E 4 = .int (j : Nat) ∧ j ≤ s.length) ?_ 0 ⟨by simpa [brs] using hC2, hS, rfl, rfl, hb2, rfl, Nat.zero_le _⟩
  rintro j E H3 V3 ⟨hC3, hS3, e0, e3, hb, e4, hj⟩
  rcases Nat.lt_or_ge j s.length with hlt | hge
  ·have hdec : decide ((j : Int) < (s.length : Nat)) = true := by simpa using hlt
   obtain ⟨v, q0, q1, q2⟩ := ints_get hlt
   obtain ⟨x, c', f0, f1, f3, f4, f5, f6, f7, f8⟩ := g6.get (i := j + 1) exAgg (by omega)
   have f0' : l[j]? = some x := by simpa using f0
   obtain ⟨H4, V4, p1, p2, p3⟩ := rblock_call hC3 f8 (by simp only [List.length_append, List.length_take]; omega)
   obtain ⟨m, hm⟩ : ∃ m, m = (es ++ (y.emit gs es.length).2 ++ l.take j).length := ⟨_, rfl⟩
   rw [← hm] at p3
   obtain ⟨H5, V5, r1, r2, r3⟩ := rput_call p1 6 (m : Nat) v ⟨#[]⟩ (by simp only [List.length_append, List.length_cons, List.length_nil, brs_len, List.length_take]; omega)
   have w30 : IntKind.i64.wrap ((j : Int) + 1) = ((j + 1 : Nat) : Int) := next_ix (by unfold lenB; unfold lenB at g4; omega)
   have hb4 := p2.get hb hne
   simp only [↓wpre, wall, simprocAttr, List.length_append, List.append_assoc, app_get_len, app_get_add, app_set_len, app_set_add, e0, e3, e4, hdec, q2, hia, hb, hb4, w30, f4, f5, f6, f7, hall, p3, r3, ints_len]
   refine ⟨⟨eqT _ _ (eqIs _), eqI _ _⟩, EQ_in ⟨j + 1, by omega, ?_, (hS3.trans p2).trans r2, e0, e3, r2.get hb4 hne, rfl, by omega⟩⟩
   have et : l.take (j + 1) = l.take j ++ [x] := by rw [List.take_add_one, f0']; rfl
   have eb : brs (es.length + (y.emit gs es.length).2.length) (s.take (j + 1)) = brs (es.length + (y.emit gs es.length).2.length) (s.take j) ++ [⟨6, ((m : Nat) : Int), v, ⟨#[]⟩⟩] := by
    rw [hm]
    have : s.take (j + 1) = s.take j ++ [v] := by rw [List.take_add_one, q0]; rfl
    rw [this, brs_snoc, List.length_append, List.length_append, List.length_take, List.length_take, Nat.min_eq_left (by omega), Nat.min_eq_left (by omega)]
   rw [et, eb]
   simpa only [List.append_assoc, List.cons_append, List.nil_append] using r1
  ·have hdec : decide ((j : Int) < (s.length : Nat)) = false := by simpa using hge
   rw [List.take_of_length_le (by omega), List.take_of_length_le (by omega)] at hC3
   simp only [↓wpre, wall, simprocAttr, List.length_append, List.append_assoc, app_get_len, app_get_add, app_set_len, app_set_add, e3, hb, e4, hdec, ints_len]
   exact ⟨_, _, rfl, by simpa only [List.append_assoc, List.cons_append, List.nil_append] using hC3, hS3⟩
 ·have hfd : (gfind gs n).isSome = true := f4 rfl
  have e : (Ex.mk 5 i n s kids).emit gs es.length = ([⟨7, (gidx gs n : Nat), 0, ⟨#[]⟩⟩], []) := by simp [Ex.emit]
  rw [e] at b1 b2 ⊢
  simp only [List.length_cons, List.length_nil] at b1
  have hga := hg.all glAgg
  have hgl := hg.len
  have hlt0 := gidx_lt hfd
  obtain ⟨H', V', c1, c2, c3⟩ := rput_call hA 7 (gidx gs n : Nat) 0 ⟨#[]⟩ (by omega)
  obtain ⟨Q, tq, to, k1, _⟩ := id hA
  simp only [pf27, ↓wpre, wall, simprocAttr, List.length_append, List.append_assoc, app_get_len, app_get_add, app_set_len, app_set_add]
  refine W_loopE (fun j => gas.length - j) (fun j E H' V' => H' = H ++ [.cells false [.int 5, .int i, .str n, .sl (ints s) t1, .sl kas t2]] ∧ V' = V ∧ E 0 = .ptr ci 0 ∧ E 3 = .ptr H.length 0 ∧ E 5 = .int (j : Nat) ∧ j ≤ gidx gs n) ?_ 0 ⟨rfl, rfl, rfl, rfl, rfl, Nat.zero_le _⟩
  rintro j E _ _ ⟨rfl, rfl, e0, e3, e5, hj⟩
  have hjl : j < gas.length := by omega
  have hdec : decide ((j : Int) < gas.length) = true := by simpa using hjl
  obtain ⟨g, _, d0, d1, d3, d4, ⟨cg, rfl, hns, hgx⟩⟩ := hg.at hjl
  rcases Nat.lt_or_ge j (gidx gs n) with hlt | hge
  ·have hnm : (g.1.toList == n.toList) = false := by rw [str_eq]; simpa using gidx_ne d0 hlt
   simp only [↓wpre, wall, simprocAttr, List.length_append, List.append_assoc, app_get_len, app_get_add, app_set_len, app_set_add, e0, e3, e5, k1, hdec, d4, hga, hnm]
   exact EQ_in ⟨j + 1, by omega, rfl, rfl, e0, e3, next_ixv (by omega), by omega⟩
  ·have hji : j = gidx gs n := by omega
   subst hji
   obtain ⟨g', e1, e2⟩ := gidx_at hfd
   rw [d0] at e1; cases e1
   have hnm : (g.1.toList == n.toList) = true := by rw [str_eq, e2]; simp
   simp only [↓wpre, wall, simprocAttr, List.length_append, List.append_assoc, app_get_len, app_get_add, app_set_len, app_set_add, e0, e3, e5, k1, hdec, d4, hga, hnm, c3]
   exact ⟨_, _, rfl, by simpa using c1, hSA.trans c2⟩
 ·have hk0 : kids = [] := List.length_eq_zero_iff.1 (fm_none f1 (.inr (.inl rfl)))
  have e : (Ex.mk 6 i n s kids).emit gs es.length = ([⟨8, 0, 0, ⟨#[]⟩⟩], []) := by subst hk0; simp [Ex.emit, emitL, Ins.o, opK]
  rw [e] at b1 b2 ⊢
  simp only [List.length_cons, List.length_nil] at b1
  obtain ⟨H', V', c1, c2, c3⟩ := rput_call hA 8 0 0 ⟨#[]⟩ (by omega)
  simp only [pf27, ↓wpre, wall, simprocAttr, List.length_append, List.append_assoc, app_get_len, app_get_add, app_set_len, app_set_add, c3]
  exact ⟨_, _, rfl, by simpa using c1, hSA.trans c2⟩
 ·have hk := r7 rfl
  obtain ⟨y, z, rfl⟩ : ∃ y z, kids = [y, z] := by
   match kids, hk with
   | [y, z], _ => exact ⟨y, z, rfl⟩
  have e : (Ex.mk 7 i n s [y, z]).emit gs es.length = ((y.emit gs es.length).1 ++ ⟨9, 0, 0, ⟨#[]⟩⟩ :: (z.emit gs (es.length + (y.emit gs es.length).2.length)).1 ++ [⟨10, 0, 0, ⟨#[]⟩⟩], (y.emit gs es.length).2 ++ (z.emit gs (es.length + (y.emit gs es.length).2.length)).2) := by simp [Ex.emit, emitH, emitT, Ins.o]
  rw [e] at b1 b2 ⊢
  simp only [List.length_cons, List.length_nil, List.length_append] at b1 b2
  simp only [List.length_cons, List.length_nil] at hkl
  obtain ⟨y', c, d0, d1, d3, d4, d5, d6, d7, d8⟩ := g6.get (i := 0) exAgg (by omega)
  obtain ⟨z', c', f0, f1, f3, f4, f5, f6, f7, f8⟩ := g6.get (i := 1) exAgg (by omega)
  obtain rfl : y = y' := by simpa using d0
  obtain rfl : z = z' := by simpa using f0
  obtain ⟨H1, V1, hC1, hS1, c1⟩ := rexp_call (ihk y d3) hA d8 (by omega) (by omega)
  obtain ⟨H2, V2, hC2, hS2, c2⟩ := rput_call hC1 9 0 0 ⟨#[]⟩ (by rw [List.length_append]; omega)
  obtain ⟨H3, V3, hC3, hS3, c3⟩ := rexp_call (ihk z f3) hC2 f8 (by simp only [List.length_append, List.length_cons, List.length_nil]; omega) (by simp only [List.length_append]; omega)
  rw [List.length_append] at hC3
  obtain ⟨H4, V4, hC4, hS4, c4⟩ := rput_call hC3 10 0 0 ⟨#[]⟩ (by simp only [List.length_append, List.length_cons, List.length_nil]; omega)
  have hb1 := hS1.get hb0 hne
  have hb2 := hS2.get hb1 hne
  have hb3 := hS3.get hb2 hne
  simp only [pf27, ↓wpre, wall, simprocAttr, List.length_append, List.append_assoc, app_get_len, app_get_add, app_set_len, app_set_add, d4, d5, d6, d7, f4, f5, f6, f7, hall, c1, c2, c3, c4, hb1, hb2, hb3]
  refine ⟨_, _, rfl, ?_, ((hSA.trans hS1).trans hS2).trans (hS3.trans hS4)⟩
  simpa only [List.append_assoc, List.cons_append, List.nil_append] using hC4
 ·obtain ⟨H1, V1, H2, V2, hb, q1, q2, c3, q3⟩ := kidsF 11 ⟨#[]⟩ 0 0 (by simp [Ex.emit, Ins.o, opK])
  simp only [pf27, ↓wpre, wall, simprocAttr, List.length_append, List.append_assoc, app_get_len, app_get_add, app_set_len, app_set_add, c3, q3]
  exact ⟨_, _, rfl, q1, q2⟩
 ·obtain ⟨H1, V1, H2, V2, hb, q1, q2, c3, q3⟩ := kidsF 12 ⟨#[]⟩ 0 0 (by simp [Ex.emit, Ins.o, opK])
  simp only [pf27, ↓wpre, wall, simprocAttr, List.length_append, List.append_assoc, app_get_len, app_get_add, app_set_len, app_set_add, c3, q3]
  exact ⟨_, _, rfl, q1, q2⟩
 ·obtain ⟨H1, V1, H2, V2, hb, q1, q2, c3, q3⟩ := kidsF 13 ⟨#[]⟩ 0 0 (by simp [Ex.emit, Ins.o, opK])
  simp only [pf27, ↓wpre, wall, simprocAttr, List.length_append, List.append_assoc, app_get_len, app_get_add, app_set_len, app_set_add, c3, q3]
  exact ⟨_, _, rfl, q1, q2⟩
 ·have hk0 : kids = [] := List.length_eq_zero_iff.1 (fm_none f1 (.inr (.inr rfl)))
  have e : (Ex.mk 11 i n s kids).emit gs es.length = ([⟨14, 0, 0, ⟨#[]⟩⟩], []) := by subst hk0; simp [Ex.emit, emitL, Ins.o, opK]
  rw [e] at b1 b2 ⊢
  simp only [List.length_cons, List.length_nil] at b1
  obtain ⟨H', V', c1, c2, c3⟩ := rput_call hA 14 0 0 ⟨#[]⟩ (by omega)
  simp only [pf27, ↓wpre, wall, simprocAttr, List.length_append, List.append_assoc, app_get_len, app_get_add, app_set_len, app_set_add, c3]
  exact ⟨_, _, rfl, by simpa using c1, hSA.trans c2⟩
end Go.Proofs.Eng
