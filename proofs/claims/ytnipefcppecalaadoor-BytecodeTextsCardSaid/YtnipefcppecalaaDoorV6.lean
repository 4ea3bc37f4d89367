/- The reference's Check, told. No conditions beyond those in the theorems. -/
import Derived.Test.YtnipefcppecalaaDoorV3
import Derived.Test.YtnipefcppecalaaDoorT9
import Derived.Laws.CopyOwn
import Derived.StillTailTactics
set_option linter.all false
set_option linter.deprecated false
set_option linter.unnecessarySimpa false
set_option linter.unusedVariables false
set_option linter.unusedSimpArgs false
set_option linter.defProp false
namespace Go.Proofs.Eng
open Go Go.Proofs
set_option maxRecDepth 100000
set_option maxHeartbeats 16000000
theorem ent_len {n : Nat} {S S' : List Int} {b m : Int} (e : entE n S b m = .ok S') : S'.length = S.length := by
 unfold entE at e
 split at e
 ·cases e
 ·split at e
  ·cases e
  ·cases e; simp
theorem ent_ne {n : Nat} {S : List Int} {b m e : Int} (h : entE n S b m = .error e) : (e != 0) = true := by
 unfold entE at h
 split at h
 ·simp only [Except.error.injEq] at h; subst h; rfl
 ·split at h
  ·simp only [Except.error.injEq] at h; subst h; rfl
  ·cases h
theorem op_cases7 (op : Int) : op = 0 ∨ op = 1 ∨ op = 3 ∨ op = 5 ∨ op = 6 ∨ op = 9 ∨ op = 10 ∨ ((op == 0) = false ∧ (op == 1) = false ∧ (op == 3) = false ∧ (op == 5) = false ∧ (op == 6) = false ∧ (op == 9) = false ∧ (op == 10) = false) := by
 simp only [beq_eq_false_iff_ne]; omega
section
variable {ki si : Nat} {Bs : List AV} {t1 t2 t3 : Tl} {c : Cd} {S : List Int} {H : List AObj} {V : List Nat}
theorem rblock_chk (h : KS ki si Bs t1 t2 t3 c S H) {n : Nat} {l : List Ins} (hn : c.bl[n]? = some l) (hnm : ∀ x ∈ l, x.n.size ≤ lenB) {W : Int} (hS : SB W S) (hW : 0 ≤ W) (hWl : W + l.length ≤ 1000000000000000000) :
  Sh md pfs 21 [.ptr ki 0, .int n] ⟨H, V⟩ (fun v s => match blkE c.bl.length c.gl.length n l S with | .error e => v = .int e ∧ ∃ H', s = ⟨H', V⟩ | .ok S' => v = .int 0 ∧ ∃ H', s = ⟨H', V⟩ ∧ KS ki si Bs t1 t2 t3 c S' H' ∧ S'.length = S.length) fun _ _ => False := by
 have hB : B62 = 4611686018427387904 := rfl
 have hk := h.k
 have hs := h.s
 have hBl := h.bl.len
 have hnl : n < c.bl.length := (List.getElem?_eq_some_iff.1 hn).1
 obtain ⟨l', a, d0, _, _, d4, ⟨tb, rfl, htb, hll⟩⟩ := h.bl.at (i := n) (by omega)
 rw [hn] at d0; cases d0
 have hnS : n < S.length := by rw [h.sl]; exact hnl
 have hSn : (List.drop n (ints S)).head? = some (.int (S.getD n 0)) := by rw [List.head?_drop]; exact ints_atD hnS
 have hnB : (n : Int) < Bs.length := by omega
 have hnC : (n : Int) < c.bl.length := by omega
 have hallB : (Bs.all fun x => x.cells.length == 1) = true := List.all_eq_true.2 fun y hy => by
  obtain ⟨q, hq⟩ := List.mem_iff_getElem?.1 hy
  obtain ⟨b, a, _, _, _, e4, ⟨t, rfl, _⟩⟩ := h.bl.at (i := q) (List.getElem?_eq_some_iff.1 hq).1
  rw [hq] at e4; cases e4; rfl
 have hkl := lt_of_get hk
 have hsl := lt_of_get hs
 refine sh_of pf21_is (Nat.le_of_ble_eq_true rfl) ?_
 rw [blkE]
 cases d1 : decide (S.getD n 0 < 0)
 case true =>
  rw [if_pos (by simpa using d1)]
  simp only [pf21, ↓wpre, wall, simprocAttr, List.length_append, List.append_assoc, app_get_len, app_get_add, app_set_len, app_set_add, hk, hs, hnB, hnC, d4, hallB, Nat.mul_one, hSn, d1]
  exact ⟨_, rfl⟩
 rw [if_neg (by simpa using d1)]
 have d1' : ¬ S.getD n 0 < 0 := by simpa using d1
 generalize hS0 : S.getD n 0 = e0 at *
 have he0 : e0 ≤ W := by
  rw [← hS0, List.getD, List.getElem?_eq_getElem hnS]; exact hS _ (List.getElem_mem hnS)
 simp only [pf21, ↓wpre, wall, simprocAttr, List.length_append, List.append_assoc, app_get_len, app_get_add, app_set_len, app_set_add, hk, hs, hnB, hnC, d4, hallB, Nat.mul_one, hSn, insA_len, d1]
 generalize hR : irun c.bl.length c.gl.length n [] l ⟨S, e0, 0, 0, 0⟩ = R
 refine W_loopE (fun j => l.length - j) (fun j E H1 V1 => j ≤ l.length ∧ V1 = V ∧ E 0 = .ptr ki 0 ∧ E 1 = .int n ∧ E 9 = .sl (insA l) tb ∧ E 10 = .int j ∧ ∃ t : Sk, E 5 = .int t.env ∧ E 6 = .int t.stack ∧ E 7 = .int t.binds ∧ E 8 = .int t.br ∧ KS ki si Bs t1 t2 t3 c t.S H1 ∧ t.S.length = S.length ∧ Bd W e0 j t ∧ irun c.bl.length c.gl.length n [] (l.drop j) t = R) ?_ 0 ?start
 case start => exact ⟨Nat.zero_le _, rfl, rfl, rfl, rfl, rfl, ⟨S, e0, 0, 0, 0⟩, rfl, rfl, rfl, rfl, h, rfl, ⟨by simp, by simp, by simp, by simp, hS.mono (by show W ≤ W + 64 + ((0 : Nat) : Int); omega)⟩, by rw [List.drop_zero]; exact hR⟩
 rintro j E H1 V1 ⟨hj, rfl, e0', e1', e9, e10, t, e5, e6, e7, e8, k1, k2, k3, k5⟩
 rcases Nat.lt_or_ge j l.length with hlt | hge
 ·have hdec : decide ((j : Int) < l.length) = true := by simpa using hlt
  have hne0 : l ≠ [] := by intro e; rw [e] at hlt; simp at hlt
  obtain ⟨x, x0, x4⟩ := insA_at hlt
  have hdr : l.drop j = x :: l.drop (j + 1) := by
   obtain ⟨h, rfl⟩ := List.getElem?_eq_some_iff.1 x0
   exact List.drop_eq_getElem_cons h
  rw [hdr, irun, List.append_nil] at k5
  obtain ⟨t', ht', hsu⟩ := slice_suf (es := 4) (al := insA l) htb (n := j + 1) (m := l.length) (by omega) (by rw [insA_len])
  have hsl2 : (insA l).drop (j + 1) = insA (l.drop (j + 1)) := by simp [insA]
  rw [hsl2] at hsu
  have kA := k1.app [.cells false [.int x.op, .int x.a, .int x.b, .str x.n]]
  obtain ⟨_, _, ⟨rfl, G, rfl⟩, cf⟩ := (rform_sh (V := V1) kA x (rest := l.drop (j + 1)) (t := t') t.br ht' (by rw [List.length_drop]; omega) (hnm x (List.mem_of_getElem? x0))).callRet rfl
  have wj : IntKind.i64.wrap ((j : Int) + 1) = ((j + 1 : Nat) : Int) := by rw [wrap_in (by unfold in64; omega)]; omega
  have hj1 : ((j + 1 : Nat) : Int) ≤ l.length := by omega
  have hx2 : (H1 ++ [AObj.cells false [.int x.op, .int x.a, .int x.b, .str x.n]] ++ G)[H1.length]? = some (.cells false [.int x.op, .int x.a, .int x.b, .str x.n]) := app_get_of (by simp) G
  have kG := kA.app G
  generalize H1 ++ [AObj.cells false [.int x.op, .int x.a, .int x.b, .str x.n]] ++ G = H2 at *
  have hs1 : si ≠ H1.length := by have := lt_of_get k1.s; omega
  have w42 : IntKind.i64.wrap (((l.length : Nat) : Int) - 1) = ((l.length - 1 : Nat) : Int) := by rw [wrap_in (by unfold in64; omega)]; omega
  have hlast : (((j : Nat) : Int) == ((l.length - 1 : Nat) : Int)) = (l.drop (j + 1)).isEmpty := by
   cases hd : l.drop (j + 1) with
   | nil =>
    have := List.drop_eq_nil_iff.1 hd
    rw [List.isEmpty_nil, beq_iff_eq]; omega
   | cons y r =>
    have := congrArg List.length hd
    rw [List.length_drop, List.length_cons] at this
    rw [List.isEmpty_cons, beq_eq_false_iff_ne]; omega
  simp only [Ins.av] at cf
  cases hf : (formE c.bl.length c.gl.length x (l.drop (j + 1)) t.br != 0)
  case true =>
   have hf' : formE c.bl.length c.gl.length x (l.drop (j + 1)) t.br ≠ 0 := by simpa [bne] using hf
   rw [stp, if_pos hf'] at k5
   rw [if_neg hne0, ← k5]
   simp only [↓wpre, wall, simprocAttr, List.length_append, List.append_assoc, app_get_len, app_get_add, app_set_len, app_set_add, e0', e1', e9, e10, e5, e6, e7, e8, hdec, x4, insA_all, insA_len, wj, hj1, hsu, cf, hf]
   exact ⟨_, rfl⟩
  have hf' : formE c.bl.length c.gl.length x (l.drop (j + 1)) t.br = 0 := by simpa [bne] using hf
  obtain ⟨⟨f1a, f2a, f3a, f4a⟩, f5a, f6a, f7a⟩ := form_ok hf'
  obtain ⟨⟨s1, s2⟩, ⟨b1, b2⟩, hen, ⟨r1, r2⟩, hsb⟩ := id k3
  obtain ⟨_, rfl, ce⟩ := (pops_ret x f1a f2a).call rfl (by simp [pvs_cons, pvs_nil, pv_v, Ins.av, pv_agg])
  simp only [Ins.av] at ce
  have hpp : 0 ≤ popI x ∧ 0 ≤ pushI x ∧ pushI x ≤ 1 := by
   refine ⟨?_, ?_, ?_⟩
   ·unfold popI; repeat' split <;> omega
   ·unfold pushI; split <;> omega
   ·unfold pushI; split <;> omega
  have hm : (if t.br - 1 > 0 then t.br - 1 else 0) = max 0 (t.br - 1) := by split <;> omega
  have w1 : IntKind.i64.wrap (t.br - 1) = t.br - 1 := wrap_in (by unfold in64; omega)
  have f01 : ((false : Bool) == true) = false := rfl
  have f10b : ((true : Bool) == false) = false := rfl
  obtain ⟨po, hpo⟩ : ∃ po, po = popI x := ⟨_, rfl⟩
  obtain ⟨pu, hpu⟩ : ∃ pu, pu = pushI x := ⟨_, rfl⟩
  have hexe : ∀ S1, exeE x (l.drop (j + 1)) S1 t = if t.stack < po ∨ x.op = 10 ∧ t.binds = 0 then .error 27 else if (x.op == 3) != (l.drop (j + 1)).isEmpty then .error 3 else if x.op = 3 ∧ (t.stack - po + pu ≠ 1 ∨ envI x t.binds ≠ 0) then .error 27 else .ok ⟨S1, envI x t.env, t.stack - po + pu, envI x t.binds, brI x t.br⟩ := fun S1 => by rw [hpo, hpu]; rfl
  rw [← hpo, ← hpu] at ce hpp
  clear hpo hpu
  rcases op_cases7 x.op with h | h | h | h | h | h | h | ⟨f0, f1, f3, f5, f6, f9, f10⟩
  ·have f0 : (x.op == 0) = true := by rw [h]; rfl
   have f1 : (x.op == 1) = false := by rw [h]; rfl
   have f3 : (x.op == 3) = false := by rw [h]; rfl
   have f5 : (x.op == 5) = false := by rw [h]; rfl
   have f6 : (x.op == 6) = false := by rw [h]; rfl
   have f9 : (x.op == 9) = false := by rw [h]; rfl
   have f10 : (x.op == 10) = false := by rw [h]; rfl
   cases da : decide (x.a ≥ t.env)
   case true =>
    have hstp : stp c.bl.length c.gl.length n x (l.drop (j + 1)) t = .error 24 := by rw [stp, if_neg (by rw [hf']; simp), refE, if_neg (by omega), if_neg (by omega), if_pos ⟨h, by simpa using da⟩]
    rw [hstp] at k5
    simp only at k5
    rw [if_neg hne0, ← k5]
    simp only [↓wpre, wall, simprocAttr, List.length_append, List.append_assoc, app_get_len, app_get_add, app_set_len, app_set_add, e0', e1', e9, e10, e5, e6, e7, e8, hdec, x4, insA_all, insA_len, wj, hj1, hsu, cf, hf, hm, w1, w42, hlast, hx2, f0, f1, f3, f5, f6, f9, f10, da]
    exact ⟨_, rfl⟩
   have href : refE n x t = .ok t.S := by rw [refE, if_neg (by omega), if_neg (by omega), if_neg (fun hh => by have := hh.2; simp only [ge_iff_le, decide_eq_false_iff_not] at da; omega)]
   have kR := kG
   have hl1 : t.S.length = t.S.length := rfl
   have hex := hexe t.S
   cases d1 : decide (t.stack < po)
   case true =>
    have hstp : stp c.bl.length c.gl.length n x (l.drop (j + 1)) t = .error 27 := by
     rw [stp, if_neg (by rw [hf']; simp), href]
     show exeE x (l.drop (j + 1)) t.S t = _
     rw [hex, if_pos (.inl (by simpa using d1))]
    rw [hstp] at k5
    simp only at k5
    rw [if_neg hne0, ← k5]
    simp only [↓wpre, wall, simprocAttr, List.length_append, List.append_assoc, app_get_len, app_get_add, app_set_len, app_set_add, e0', e1', e9, e10, e5, e6, e7, e8, hdec, x4, insA_all, insA_len, wj, hj1, hsu, cf, hf, hm, w1, w42, hlast, hx2, f0, f1, f3, f5, f6, f9, f10, da, ce, d1]
    exact ⟨_, rfl⟩
   have d1' : ¬ t.stack < po := by simpa using d1
   have wP : IntKind.i64.wrap (t.stack - po) = t.stack - po := wrap_in (by unfold in64; omega)
   have wZ : IntKind.i64.wrap (t.stack - po + pu) = t.stack - po + pu := wrap_in (by unfold in64; omega)
   cases hlx : (l.drop (j + 1)).isEmpty
   case true =>
    rw [hlx] at hlast
    have hstp : stp c.bl.length c.gl.length n x (l.drop (j + 1)) t = .error 3 := by
     rw [stp, if_neg (by rw [hf']; simp), href]
     show exeE x (l.drop (j + 1)) t.S t = _
     rw [hex, if_neg (fun hh => hh.elim d1' fun hh => by have := hh.1; omega), if_pos (by rw [f3, hlx]; rfl)]
    rw [hstp] at k5
    simp only at k5
    rw [if_neg hne0, ← k5]
    simp only [↓wpre, wall, simprocAttr, List.length_append, List.append_assoc, app_get_len, app_get_add, app_set_len, app_set_add, e0', e1', e9, e10, e5, e6, e7, e8, hdec, x4, insA_all, insA_len, wj, hj1, hsu, cf, hf, hm, w1, w42, hlast, hx2, f0, f1, f3, f5, f6, f9, f10, da, ce, d1, wP, wZ, f01, f10b]
    exact ⟨_, rfl⟩
   rw [hlx] at hlast
   have hstp : stp c.bl.length c.gl.length n x (l.drop (j + 1)) t = .ok ⟨t.S, t.env, t.stack - po + pu, t.binds, max 0 (t.br - 1)⟩ := by
    rw [stp, if_neg (by rw [hf']; simp), href]
    show exeE x (l.drop (j + 1)) t.S t = _
    rw [hex, if_neg (fun hh => hh.elim d1' fun hh => by have := hh.1; omega), if_neg (by rw [f3, hlx]; decide), if_neg (fun hh => by have := hh.1; omega), show envI x t.env = t.env from by rw [envI, if_neg (by omega), if_neg (by omega)], show envI x t.binds = t.binds from by rw [envI, if_neg (by omega), if_neg (by omega)], show brI x t.br = max 0 (t.br - 1) from by rw [brI, if_neg (by omega)]]
   have kB := k3.step (by omega) he0 hstp
   rw [hstp] at k5
   simp only at k5
   simp only [↓wpre, wall, simprocAttr, List.length_append, List.append_assoc, app_get_len, app_get_add, app_set_len, app_set_add, e0', e1', e9, e10, e5, e6, e7, e8, hdec, x4, insA_all, insA_len, wj, hj1, hsu, cf, hf, hm, w1, w42, hlast, hx2, f0, f1, f3, f5, f6, f9, f10, da, ce, d1, wP, wZ, f01, f10b]
   exact EQ_in ⟨j + 1, by omega, by omega, rfl, e0', e1', e9, rfl, ⟨t.S, t.env, t.stack - po + pu, t.binds, max 0 (t.br - 1)⟩, by first | rfl | exact e5, rfl, by first | rfl | exact e7, rfl, kR, hl1.trans k2, kB, k5⟩
  ·have f0 : (x.op == 0) = false := by rw [h]; rfl
   have f1 : (x.op == 1) = true := by rw [h]; rfl
   have f3 : (x.op == 3) = false := by rw [h]; rfl
   have f5 : (x.op == 5) = false := by rw [h]; rfl
   have f6 : (x.op == 6) = false := by rw [h]; rfl
   have f9 : (x.op == 9) = false := by rw [h]; rfl
   have f10 : (x.op == 10) = false := by rw [h]; rfl
   have wE : IntKind.i64.wrap (t.env + 1) = t.env + 1 := wrap_in (by unfold in64; omega)
   have href : refE n x t = entE n t.S x.a (t.env + 1) := by rw [refE, if_pos h]
   obtain ⟨vr, sr, hr, cr⟩ := (rent_sh (V := V1) kG (n := n) (m := t.env + 1) f3a (f5a (.inl h))).callRet rfl
   cases hre : entE n t.S x.a (t.env + 1) with
   | error e =>
    have hne := ent_ne hre
    rw [hre] at hr href
    obtain ⟨rfl, rfl⟩ := hr
    have hstp : stp c.bl.length c.gl.length n x (l.drop (j + 1)) t = .error e := by rw [stp, if_neg (by rw [hf']; simp), href]
    rw [hstp] at k5
    simp only at k5
    rw [if_neg hne0, ← k5]
    simp only [↓wpre, wall, simprocAttr, List.length_append, List.append_assoc, app_get_len, app_get_add, app_set_len, app_set_add, e0', e1', e9, e10, e5, e6, e7, e8, hdec, x4, insA_all, insA_len, wj, hj1, hsu, cf, hf, hm, w1, w42, hlast, hx2, f0, f1, f3, f5, f6, f9, f10, wE, cr, hne]
    exact ⟨_, rfl⟩
   | ok S1 =>
    rw [hre] at hr href
    obtain ⟨rfl, rfl⟩ := hr
    have kR := kG.enter (ent_len hre)
    have hl1 := ent_len hre
    have hx3 := set_ne (x := .cells false (ints S1)) (j := si) hx2 hs1
    have hex := hexe S1
    cases d1 : decide (t.stack < po)
    case true =>
     have hstp : stp c.bl.length c.gl.length n x (l.drop (j + 1)) t = .error 27 := by
      rw [stp, if_neg (by rw [hf']; simp), href]
      show exeE x (l.drop (j + 1)) S1 t = _
      rw [hex, if_pos (.inl (by simpa using d1))]
     rw [hstp] at k5
     simp only at k5
     rw [if_neg hne0, ← k5]
     simp only [↓wpre, wall, simprocAttr, List.length_append, List.append_assoc, app_get_len, app_get_add, app_set_len, app_set_add, e0', e1', e9, e10, e5, e6, e7, e8, hdec, x4, insA_all, insA_len, wj, hj1, hsu, cf, hf, hm, w1, w42, hlast, hx2, hx3, f0, f1, f3, f5, f6, f9, f10, wE, cr, ce, d1]
     exact ⟨_, rfl⟩
    have d1' : ¬ t.stack < po := by simpa using d1
    have wP : IntKind.i64.wrap (t.stack - po) = t.stack - po := wrap_in (by unfold in64; omega)
    have wZ : IntKind.i64.wrap (t.stack - po + pu) = t.stack - po + pu := wrap_in (by unfold in64; omega)
    cases hlx : (l.drop (j + 1)).isEmpty
    case true =>
     rw [hlx] at hlast
     have hstp : stp c.bl.length c.gl.length n x (l.drop (j + 1)) t = .error 3 := by
      rw [stp, if_neg (by rw [hf']; simp), href]
      show exeE x (l.drop (j + 1)) S1 t = _
      rw [hex, if_neg (fun hh => hh.elim d1' fun hh => by have := hh.1; omega), if_pos (by rw [f3, hlx]; rfl)]
     rw [hstp] at k5
     simp only at k5
     rw [if_neg hne0, ← k5]
     simp only [↓wpre, wall, simprocAttr, List.length_append, List.append_assoc, app_get_len, app_get_add, app_set_len, app_set_add, e0', e1', e9, e10, e5, e6, e7, e8, hdec, x4, insA_all, insA_len, wj, hj1, hsu, cf, hf, hm, w1, w42, hlast, hx2, hx3, f0, f1, f3, f5, f6, f9, f10, wE, cr, ce, d1, wP, wZ, f01, f10b]
     exact ⟨_, rfl⟩
    rw [hlx] at hlast
    have hstp : stp c.bl.length c.gl.length n x (l.drop (j + 1)) t = .ok ⟨S1, t.env, t.stack - po + pu, t.binds, max 0 (t.br - 1)⟩ := by
     rw [stp, if_neg (by rw [hf']; simp), href]
     show exeE x (l.drop (j + 1)) S1 t = _
     rw [hex, if_neg (fun hh => hh.elim d1' fun hh => by have := hh.1; omega), if_neg (by rw [f3, hlx]; decide), if_neg (fun hh => by have := hh.1; omega), show envI x t.env = t.env from by rw [envI, if_neg (by omega), if_neg (by omega)], show envI x t.binds = t.binds from by rw [envI, if_neg (by omega), if_neg (by omega)], show brI x t.br = max 0 (t.br - 1) from by rw [brI, if_neg (by omega)]]
    have kB := k3.step (by omega) he0 hstp
    rw [hstp] at k5
    simp only at k5
    simp only [↓wpre, wall, simprocAttr, List.length_append, List.append_assoc, app_get_len, app_get_add, app_set_len, app_set_add, e0', e1', e9, e10, e5, e6, e7, e8, hdec, x4, insA_all, insA_len, wj, hj1, hsu, cf, hf, hm, w1, w42, hlast, hx2, hx3, f0, f1, f3, f5, f6, f9, f10, wE, cr, ce, d1, wP, wZ, f01, f10b]
    exact EQ_in ⟨j + 1, by omega, by omega, rfl, e0', e1', e9, rfl, ⟨S1, t.env, t.stack - po + pu, t.binds, max 0 (t.br - 1)⟩, by first | rfl | exact e5, rfl, by first | rfl | exact e7, rfl, kR, hl1.trans k2, kB, k5⟩
  ·have f0 : (x.op == 0) = false := by rw [h]; rfl
   have f1 : (x.op == 1) = false := by rw [h]; rfl
   have f3 : (x.op == 3) = true := by rw [h]; rfl
   have f5 : (x.op == 5) = false := by rw [h]; rfl
   have f6 : (x.op == 6) = false := by rw [h]; rfl
   have f9 : (x.op == 9) = false := by rw [h]; rfl
   have f10 : (x.op == 10) = false := by rw [h]; rfl
   have href : refE n x t = .ok t.S := by rw [refE, if_neg (by omega), if_neg (by omega), if_neg (fun hh => by have := hh.1; omega)]
   have kR := kG
   have hl1 : t.S.length = t.S.length := rfl
   have hex := hexe t.S
   cases d1 : decide (t.stack < po)
   case true =>
    have hstp : stp c.bl.length c.gl.length n x (l.drop (j + 1)) t = .error 27 := by
     rw [stp, if_neg (by rw [hf']; simp), href]
     show exeE x (l.drop (j + 1)) t.S t = _
     rw [hex, if_pos (.inl (by simpa using d1))]
    rw [hstp] at k5
    simp only at k5
    rw [if_neg hne0, ← k5]
    simp only [↓wpre, wall, simprocAttr, List.length_append, List.append_assoc, app_get_len, app_get_add, app_set_len, app_set_add, e0', e1', e9, e10, e5, e6, e7, e8, hdec, x4, insA_all, insA_len, wj, hj1, hsu, cf, hf, hm, w1, w42, hlast, hx2, f0, f1, f3, f5, f6, f9, f10, ce, d1]
    exact ⟨_, rfl⟩
   have d1' : ¬ t.stack < po := by simpa using d1
   have wP : IntKind.i64.wrap (t.stack - po) = t.stack - po := wrap_in (by unfold in64; omega)
   have wZ : IntKind.i64.wrap (t.stack - po + pu) = t.stack - po + pu := wrap_in (by unfold in64; omega)
   cases hlx : (l.drop (j + 1)).isEmpty
   case false =>
    rw [hlx] at hlast
    have hstp : stp c.bl.length c.gl.length n x (l.drop (j + 1)) t = .error 3 := by
     rw [stp, if_neg (by rw [hf']; simp), href]
     show exeE x (l.drop (j + 1)) t.S t = _
     rw [hex, if_neg (fun hh => hh.elim d1' fun hh => by have := hh.1; omega), if_pos (by rw [f3, hlx]; rfl)]
    rw [hstp] at k5
    simp only at k5
    rw [if_neg hne0, ← k5]
    simp only [↓wpre, wall, simprocAttr, List.length_append, List.append_assoc, app_get_len, app_get_add, app_set_len, app_set_add, e0', e1', e9, e10, e5, e6, e7, e8, hdec, x4, insA_all, insA_len, wj, hj1, hsu, cf, hf, hm, w1, w42, hlast, hx2, f0, f1, f3, f5, f6, f9, f10, ce, d1, wP, wZ, f01, f10b]
    exact ⟨_, rfl⟩
   rw [hlx] at hlast
   have henv : envI x t.binds = t.binds := by rw [envI, if_neg (by omega), if_neg (by omega)]
   cases d3 : (t.stack - po + pu != 1)
   case true =>
    have hstp : stp c.bl.length c.gl.length n x (l.drop (j + 1)) t = .error 27 := by
     rw [stp, if_neg (by rw [hf']; simp), href]
     show exeE x (l.drop (j + 1)) t.S t = _
     rw [hex, if_neg (fun hh => hh.elim d1' fun hh => by have := hh.1; omega), if_neg (by rw [f3, hlx]; decide), if_pos ⟨h, .inl (by simpa [bne] using d3)⟩]
    rw [hstp] at k5
    simp only at k5
    rw [if_neg hne0, ← k5]
    simp only [↓wpre, wall, simprocAttr, List.length_append, List.append_assoc, app_get_len, app_get_add, app_set_len, app_set_add, e0', e1', e9, e10, e5, e6, e7, e8, hdec, x4, insA_all, insA_len, wj, hj1, hsu, cf, hf, hm, w1, w42, hlast, hx2, f0, f1, f3, f5, f6, f9, f10, ce, d1, wP, wZ, f01, f10b, d3]
    exact ⟨_, rfl⟩
   cases d4 : (t.binds != 0)
   case true =>
    have hstp : stp c.bl.length c.gl.length n x (l.drop (j + 1)) t = .error 27 := by
     rw [stp, if_neg (by rw [hf']; simp), href]
     show exeE x (l.drop (j + 1)) t.S t = _
     rw [hex, if_neg (fun hh => hh.elim d1' fun hh => by have := hh.1; omega), if_neg (by rw [f3, hlx]; decide), if_pos ⟨h, .inr (by rw [henv]; simpa [bne] using d4)⟩]
    rw [hstp] at k5
    simp only at k5
    rw [if_neg hne0, ← k5]
    simp only [↓wpre, wall, simprocAttr, List.length_append, List.append_assoc, app_get_len, app_get_add, app_set_len, app_set_add, e0', e1', e9, e10, e5, e6, e7, e8, hdec, x4, insA_all, insA_len, wj, hj1, hsu, cf, hf, hm, w1, w42, hlast, hx2, f0, f1, f3, f5, f6, f9, f10, ce, d1, wP, wZ, f01, f10b, d3, d4]
    exact ⟨_, rfl⟩
   have hstp : stp c.bl.length c.gl.length n x (l.drop (j + 1)) t = .ok ⟨t.S, t.env, t.stack - po + pu, t.binds, max 0 (t.br - 1)⟩ := by
    rw [stp, if_neg (by rw [hf']; simp), href]
    show exeE x (l.drop (j + 1)) t.S t = _
    rw [hex, if_neg (fun hh => hh.elim d1' fun hh => by have := hh.1; omega), if_neg (by rw [f3, hlx]; decide), if_neg (fun hh => hh.2.elim (fun q => q (by simpa [bne] using d3)) fun q => q (by rw [henv]; simpa [bne] using d4)), show envI x t.env = t.env from by rw [envI, if_neg (by omega), if_neg (by omega)], show envI x t.binds = t.binds from by rw [envI, if_neg (by omega), if_neg (by omega)], show brI x t.br = max 0 (t.br - 1) from by rw [brI, if_neg (by omega)]]
   have kB := k3.step (by omega) he0 hstp
   rw [hstp] at k5
   simp only at k5
   simp only [↓wpre, wall, simprocAttr, List.length_append, List.append_assoc, app_get_len, app_get_add, app_set_len, app_set_add, e0', e1', e9, e10, e5, e6, e7, e8, hdec, x4, insA_all, insA_len, wj, hj1, hsu, cf, hf, hm, w1, w42, hlast, hx2, f0, f1, f3, f5, f6, f9, f10, ce, d1, wP, wZ, d3, d4, f01, f10b]
   exact EQ_in ⟨j + 1, by omega, by omega, rfl, e0', e1', e9, rfl, ⟨t.S, t.env, t.stack - po + pu, t.binds, max 0 (t.br - 1)⟩, by first | rfl | exact e5, rfl, by first | rfl | exact e7, rfl, kR, hl1.trans k2, kB, k5⟩
  ·have f0 : (x.op == 0) = false := by rw [h]; rfl
   have f1 : (x.op == 1) = false := by rw [h]; rfl
   have f3 : (x.op == 3) = false := by rw [h]; rfl
   have f5 : (x.op == 5) = true := by rw [h]; rfl
   have f6 : (x.op == 6) = false := by rw [h]; rfl
   have f9 : (x.op == 9) = false := by rw [h]; rfl
   have f10 : (x.op == 10) = false := by rw [h]; rfl
   have href : refE n x t = .ok t.S := by rw [refE, if_neg (by omega), if_neg (by omega), if_neg (fun hh => by have := hh.1; omega)]
   have kR := kG
   have hl1 : t.S.length = t.S.length := rfl
   have hex := hexe t.S
   cases d1 : decide (t.stack < po)
   case true =>
    have hstp : stp c.bl.length c.gl.length n x (l.drop (j + 1)) t = .error 27 := by
     rw [stp, if_neg (by rw [hf']; simp), href]
     show exeE x (l.drop (j + 1)) t.S t = _
     rw [hex, if_pos (.inl (by simpa using d1))]
    rw [hstp] at k5
    simp only at k5
    rw [if_neg hne0, ← k5]
    simp only [↓wpre, wall, simprocAttr, List.length_append, List.append_assoc, app_get_len, app_get_add, app_set_len, app_set_add, e0', e1', e9, e10, e5, e6, e7, e8, hdec, x4, insA_all, insA_len, wj, hj1, hsu, cf, hf, hm, w1, w42, hlast, hx2, f0, f1, f3, f5, f6, f9, f10, ce, d1]
    exact ⟨_, rfl⟩
   have d1' : ¬ t.stack < po := by simpa using d1
   have wP : IntKind.i64.wrap (t.stack - po) = t.stack - po := wrap_in (by unfold in64; omega)
   have wZ : IntKind.i64.wrap (t.stack - po + pu) = t.stack - po + pu := wrap_in (by unfold in64; omega)
   cases hlx : (l.drop (j + 1)).isEmpty
   case true =>
    rw [hlx] at hlast
    have hstp : stp c.bl.length c.gl.length n x (l.drop (j + 1)) t = .error 3 := by
     rw [stp, if_neg (by rw [hf']; simp), href]
     show exeE x (l.drop (j + 1)) t.S t = _
     rw [hex, if_neg (fun hh => hh.elim d1' fun hh => by have := hh.1; omega), if_pos (by rw [f3, hlx]; rfl)]
    rw [hstp] at k5
    simp only at k5
    rw [if_neg hne0, ← k5]
    simp only [↓wpre, wall, simprocAttr, List.length_append, List.append_assoc, app_get_len, app_get_add, app_set_len, app_set_add, e0', e1', e9, e10, e5, e6, e7, e8, hdec, x4, insA_all, insA_len, wj, hj1, hsu, cf, hf, hm, w1, w42, hlast, hx2, f0, f1, f3, f5, f6, f9, f10, ce, d1, wP, wZ, f01, f10b]
    exact ⟨_, rfl⟩
   rw [hlx] at hlast
   have hstp : stp c.bl.length c.gl.length n x (l.drop (j + 1)) t = .ok ⟨t.S, t.env, t.stack - po + pu, t.binds, x.a⟩ := by
    rw [stp, if_neg (by rw [hf']; simp), href]
    show exeE x (l.drop (j + 1)) t.S t = _
    rw [hex, if_neg (fun hh => hh.elim d1' fun hh => by have := hh.1; omega), if_neg (by rw [f3, hlx]; decide), if_neg (fun hh => by have := hh.1; omega), show envI x t.env = t.env from by rw [envI, if_neg (by omega), if_neg (by omega)], show envI x t.binds = t.binds from by rw [envI, if_neg (by omega), if_neg (by omega)], show brI x t.br = x.a from by rw [brI, if_pos h]]
   have kB := k3.step (by omega) he0 hstp
   rw [hstp] at k5
   simp only at k5
   simp only [↓wpre, wall, simprocAttr, List.length_append, List.append_assoc, app_get_len, app_get_add, app_set_len, app_set_add, e0', e1', e9, e10, e5, e6, e7, e8, hdec, x4, insA_all, insA_len, wj, hj1, hsu, cf, hf, hm, w1, w42, hlast, hx2, f0, f1, f3, f5, f6, f9, f10, ce, d1, wP, wZ, f01, f10b]
   exact EQ_in ⟨j + 1, by omega, by omega, rfl, e0', e1', e9, rfl, ⟨t.S, t.env, t.stack - po + pu, t.binds, x.a⟩, by first | rfl | exact e5, rfl, by first | rfl | exact e7, rfl, kR, hl1.trans k2, kB, k5⟩
  ·have f0 : (x.op == 0) = false := by rw [h]; rfl
   have f1 : (x.op == 1) = false := by rw [h]; rfl
   have f3 : (x.op == 3) = false := by rw [h]; rfl
   have f5 : (x.op == 5) = false := by rw [h]; rfl
   have f6 : (x.op == 6) = true := by rw [h]; rfl
   have f9 : (x.op == 9) = false := by rw [h]; rfl
   have f10 : (x.op == 10) = false := by rw [h]; rfl
   have wE : IntKind.i64.wrap (t.env + x.b) = t.env + x.b := wrap_in (by unfold in64; omega)
   have href : refE n x t = entE n t.S x.a (t.env + x.b) := by rw [refE, if_neg (by omega), if_pos h]
   obtain ⟨vr, sr, hr, cr⟩ := (rent_sh (V := V1) kG (n := n) (m := t.env + x.b) f3a (f5a (.inr h))).callRet rfl
   cases hre : entE n t.S x.a (t.env + x.b) with
   | error e =>
    have hne := ent_ne hre
    rw [hre] at hr href
    obtain ⟨rfl, rfl⟩ := hr
    have hstp : stp c.bl.length c.gl.length n x (l.drop (j + 1)) t = .error e := by rw [stp, if_neg (by rw [hf']; simp), href]
    rw [hstp] at k5
    simp only at k5
    rw [if_neg hne0, ← k5]
    simp only [↓wpre, wall, simprocAttr, List.length_append, List.append_assoc, app_get_len, app_get_add, app_set_len, app_set_add, e0', e1', e9, e10, e5, e6, e7, e8, hdec, x4, insA_all, insA_len, wj, hj1, hsu, cf, hf, hm, w1, w42, hlast, hx2, f0, f1, f3, f5, f6, f9, f10, wE, cr, hne]
    exact ⟨_, rfl⟩
   | ok S1 =>
    rw [hre] at hr href
    obtain ⟨rfl, rfl⟩ := hr
    have kR := kG.enter (ent_len hre)
    have hl1 := ent_len hre
    have hx3 := set_ne (x := .cells false (ints S1)) (j := si) hx2 hs1
    have hex := hexe S1
    cases d1 : decide (t.stack < po)
    case true =>
     have hstp : stp c.bl.length c.gl.length n x (l.drop (j + 1)) t = .error 27 := by
      rw [stp, if_neg (by rw [hf']; simp), href]
      show exeE x (l.drop (j + 1)) S1 t = _
      rw [hex, if_pos (.inl (by simpa using d1))]
     rw [hstp] at k5
     simp only at k5
     rw [if_neg hne0, ← k5]
     simp only [↓wpre, wall, simprocAttr, List.length_append, List.append_assoc, app_get_len, app_get_add, app_set_len, app_set_add, e0', e1', e9, e10, e5, e6, e7, e8, hdec, x4, insA_all, insA_len, wj, hj1, hsu, cf, hf, hm, w1, w42, hlast, hx2, hx3, f0, f1, f3, f5, f6, f9, f10, wE, cr, ce, d1]
     exact ⟨_, rfl⟩
    have d1' : ¬ t.stack < po := by simpa using d1
    have wP : IntKind.i64.wrap (t.stack - po) = t.stack - po := wrap_in (by unfold in64; omega)
    have wZ : IntKind.i64.wrap (t.stack - po + pu) = t.stack - po + pu := wrap_in (by unfold in64; omega)
    cases hlx : (l.drop (j + 1)).isEmpty
    case true =>
     rw [hlx] at hlast
     have hstp : stp c.bl.length c.gl.length n x (l.drop (j + 1)) t = .error 3 := by
      rw [stp, if_neg (by rw [hf']; simp), href]
      show exeE x (l.drop (j + 1)) S1 t = _
      rw [hex, if_neg (fun hh => hh.elim d1' fun hh => by have := hh.1; omega), if_pos (by rw [f3, hlx]; rfl)]
     rw [hstp] at k5
     simp only at k5
     rw [if_neg hne0, ← k5]
     simp only [↓wpre, wall, simprocAttr, List.length_append, List.append_assoc, app_get_len, app_get_add, app_set_len, app_set_add, e0', e1', e9, e10, e5, e6, e7, e8, hdec, x4, insA_all, insA_len, wj, hj1, hsu, cf, hf, hm, w1, w42, hlast, hx2, hx3, f0, f1, f3, f5, f6, f9, f10, wE, cr, ce, d1, wP, wZ, f01, f10b]
     exact ⟨_, rfl⟩
    rw [hlx] at hlast
    have hstp : stp c.bl.length c.gl.length n x (l.drop (j + 1)) t = .ok ⟨S1, t.env, t.stack - po + pu, t.binds, max 0 (t.br - 1)⟩ := by
     rw [stp, if_neg (by rw [hf']; simp), href]
     show exeE x (l.drop (j + 1)) S1 t = _
     rw [hex, if_neg (fun hh => hh.elim d1' fun hh => by have := hh.1; omega), if_neg (by rw [f3, hlx]; decide), if_neg (fun hh => by have := hh.1; omega), show envI x t.env = t.env from by rw [envI, if_neg (by omega), if_neg (by omega)], show envI x t.binds = t.binds from by rw [envI, if_neg (by omega), if_neg (by omega)], show brI x t.br = max 0 (t.br - 1) from by rw [brI, if_neg (by omega)]]
    have kB := k3.step (by omega) he0 hstp
    rw [hstp] at k5
    simp only at k5
    simp only [↓wpre, wall, simprocAttr, List.length_append, List.append_assoc, app_get_len, app_get_add, app_set_len, app_set_add, e0', e1', e9, e10, e5, e6, e7, e8, hdec, x4, insA_all, insA_len, wj, hj1, hsu, cf, hf, hm, w1, w42, hlast, hx2, hx3, f0, f1, f3, f5, f6, f9, f10, wE, cr, ce, d1, wP, wZ, f01, f10b]
    exact EQ_in ⟨j + 1, by omega, by omega, rfl, e0', e1', e9, rfl, ⟨S1, t.env, t.stack - po + pu, t.binds, max 0 (t.br - 1)⟩, by first | rfl | exact e5, rfl, by first | rfl | exact e7, rfl, kR, hl1.trans k2, kB, k5⟩
  ·have f0 : (x.op == 0) = false := by rw [h]; rfl
   have f1 : (x.op == 1) = false := by rw [h]; rfl
   have f3 : (x.op == 3) = false := by rw [h]; rfl
   have f5 : (x.op == 5) = false := by rw [h]; rfl
   have f6 : (x.op == 6) = false := by rw [h]; rfl
   have f9 : (x.op == 9) = true := by rw [h]; rfl
   have f10 : (x.op == 10) = false := by rw [h]; rfl
   have href : refE n x t = .ok t.S := by rw [refE, if_neg (by omega), if_neg (by omega), if_neg (fun hh => by have := hh.1; omega)]
   have kR := kG
   have hl1 : t.S.length = t.S.length := rfl
   have hex := hexe t.S
   cases d1 : decide (t.stack < po)
   case true =>
    have hstp : stp c.bl.length c.gl.length n x (l.drop (j + 1)) t = .error 27 := by
     rw [stp, if_neg (by rw [hf']; simp), href]
     show exeE x (l.drop (j + 1)) t.S t = _
     rw [hex, if_pos (.inl (by simpa using d1))]
    rw [hstp] at k5
    simp only at k5
    rw [if_neg hne0, ← k5]
    simp only [↓wpre, wall, simprocAttr, List.length_append, List.append_assoc, app_get_len, app_get_add, app_set_len, app_set_add, e0', e1', e9, e10, e5, e6, e7, e8, hdec, x4, insA_all, insA_len, wj, hj1, hsu, cf, hf, hm, w1, w42, hlast, hx2, f0, f1, f3, f5, f6, f9, f10, ce, d1]
    exact ⟨_, rfl⟩
   have d1' : ¬ t.stack < po := by simpa using d1
   have wP : IntKind.i64.wrap (t.stack - po) = t.stack - po := wrap_in (by unfold in64; omega)
   have wZ : IntKind.i64.wrap (t.stack - po + pu) = t.stack - po + pu := wrap_in (by unfold in64; omega)
   have wA : IntKind.i64.wrap (t.env + 1) = t.env + 1 := wrap_in (by unfold in64; omega)
   have wB : IntKind.i64.wrap (t.binds + 1) = t.binds + 1 := wrap_in (by unfold in64; omega)
   cases hlx : (l.drop (j + 1)).isEmpty
   case true =>
    rw [hlx] at hlast
    have hstp : stp c.bl.length c.gl.length n x (l.drop (j + 1)) t = .error 3 := by
     rw [stp, if_neg (by rw [hf']; simp), href]
     show exeE x (l.drop (j + 1)) t.S t = _
     rw [hex, if_neg (fun hh => hh.elim d1' fun hh => by have := hh.1; omega), if_pos (by rw [f3, hlx]; rfl)]
    rw [hstp] at k5
    simp only at k5
    rw [if_neg hne0, ← k5]
    simp only [↓wpre, wall, simprocAttr, List.length_append, List.append_assoc, app_get_len, app_get_add, app_set_len, app_set_add, e0', e1', e9, e10, e5, e6, e7, e8, hdec, x4, insA_all, insA_len, wj, hj1, hsu, cf, hf, hm, w1, w42, hlast, hx2, f0, f1, f3, f5, f6, f9, f10, ce, d1, wP, wZ, wA, wB, f01, f10b]
    exact ⟨_, rfl⟩
   rw [hlx] at hlast
   have hstp : stp c.bl.length c.gl.length n x (l.drop (j + 1)) t = .ok ⟨t.S, t.env + 1, t.stack - po + pu, t.binds + 1, max 0 (t.br - 1)⟩ := by
    rw [stp, if_neg (by rw [hf']; simp), href]
    show exeE x (l.drop (j + 1)) t.S t = _
    rw [hex, if_neg (fun hh => hh.elim d1' fun hh => by have := hh.1; omega), if_neg (by rw [f3, hlx]; decide), if_neg (fun hh => by have := hh.1; omega), show envI x t.env = t.env + 1 from by rw [envI, if_pos h], show envI x t.binds = t.binds + 1 from by rw [envI, if_pos h], show brI x t.br = max 0 (t.br - 1) from by rw [brI, if_neg (by omega)]]
   have kB := k3.step (by omega) he0 hstp
   rw [hstp] at k5
   simp only at k5
   simp only [↓wpre, wall, simprocAttr, List.length_append, List.append_assoc, app_get_len, app_get_add, app_set_len, app_set_add, e0', e1', e9, e10, e5, e6, e7, e8, hdec, x4, insA_all, insA_len, wj, hj1, hsu, cf, hf, hm, w1, w42, hlast, hx2, f0, f1, f3, f5, f6, f9, f10, ce, d1, wP, wZ, wA, wB, f01, f10b]
   exact EQ_in ⟨j + 1, by omega, by omega, rfl, e0', e1', e9, rfl, ⟨t.S, t.env + 1, t.stack - po + pu, t.binds + 1, max 0 (t.br - 1)⟩, by first | rfl | exact e5, rfl, by first | rfl | exact e7, rfl, kR, hl1.trans k2, kB, k5⟩
  ·have f0 : (x.op == 0) = false := by rw [h]; rfl
   have f1 : (x.op == 1) = false := by rw [h]; rfl
   have f3 : (x.op == 3) = false := by rw [h]; rfl
   have f5 : (x.op == 5) = false := by rw [h]; rfl
   have f6 : (x.op == 6) = false := by rw [h]; rfl
   have f9 : (x.op == 9) = false := by rw [h]; rfl
   have f10 : (x.op == 10) = true := by rw [h]; rfl
   have href : refE n x t = .ok t.S := by rw [refE, if_neg (by omega), if_neg (by omega), if_neg (fun hh => by have := hh.1; omega)]
   have kR := kG
   have hl1 : t.S.length = t.S.length := rfl
   have hex := hexe t.S
   cases d1 : decide (t.stack < po)
   case true =>
    have hstp : stp c.bl.length c.gl.length n x (l.drop (j + 1)) t = .error 27 := by
     rw [stp, if_neg (by rw [hf']; simp), href]
     show exeE x (l.drop (j + 1)) t.S t = _
     rw [hex, if_pos (.inl (by simpa using d1))]
    rw [hstp] at k5
    simp only at k5
    rw [if_neg hne0, ← k5]
    simp only [↓wpre, wall, simprocAttr, List.length_append, List.append_assoc, app_get_len, app_get_add, app_set_len, app_set_add, e0', e1', e9, e10, e5, e6, e7, e8, hdec, x4, insA_all, insA_len, wj, hj1, hsu, cf, hf, hm, w1, w42, hlast, hx2, f0, f1, f3, f5, f6, f9, f10, ce, d1]
    exact ⟨_, rfl⟩
   have d1' : ¬ t.stack < po := by simpa using d1
   have wP : IntKind.i64.wrap (t.stack - po) = t.stack - po := wrap_in (by unfold in64; omega)
   have wZ : IntKind.i64.wrap (t.stack - po + pu) = t.stack - po + pu := wrap_in (by unfold in64; omega)
   cases d2 : (t.binds == 0)
   case true =>
    have hstp : stp c.bl.length c.gl.length n x (l.drop (j + 1)) t = .error 27 := by
     rw [stp, if_neg (by rw [hf']; simp), href]
     show exeE x (l.drop (j + 1)) t.S t = _
     rw [hex, if_pos (.inr ⟨h, eq_of_beq d2⟩)]
    rw [hstp] at k5
    simp only at k5
    rw [if_neg hne0, ← k5]
    simp only [↓wpre, wall, simprocAttr, List.length_append, List.append_assoc, app_get_len, app_get_add, app_set_len, app_set_add, e0', e1', e9, e10, e5, e6, e7, e8, hdec, x4, insA_all, insA_len, wj, hj1, hsu, cf, hf, hm, w1, w42, hlast, hx2, f0, f1, f3, f5, f6, f9, f10, ce, d1, d2]
    exact ⟨_, rfl⟩
   have d2' := ne_of_beq_false d2
   have wA : IntKind.i64.wrap (t.env - 1) = t.env - 1 := wrap_in (by unfold in64; omega)
   have wB : IntKind.i64.wrap (t.binds - 1) = t.binds - 1 := wrap_in (by unfold in64; omega)
   cases hlx : (l.drop (j + 1)).isEmpty
   case true =>
    rw [hlx] at hlast
    have hstp : stp c.bl.length c.gl.length n x (l.drop (j + 1)) t = .error 3 := by
     rw [stp, if_neg (by rw [hf']; simp), href]
     show exeE x (l.drop (j + 1)) t.S t = _
     rw [hex, if_neg (fun hh => hh.elim d1' fun hh => d2' hh.2), if_pos (by rw [f3, hlx]; rfl)]
    rw [hstp] at k5
    simp only at k5
    rw [if_neg hne0, ← k5]
    simp only [↓wpre, wall, simprocAttr, List.length_append, List.append_assoc, app_get_len, app_get_add, app_set_len, app_set_add, e0', e1', e9, e10, e5, e6, e7, e8, hdec, x4, insA_all, insA_len, wj, hj1, hsu, cf, hf, hm, w1, w42, hlast, hx2, f0, f1, f3, f5, f6, f9, f10, ce, d1, wP, wZ, d2, wA, wB, f01, f10b]
    exact ⟨_, rfl⟩
   rw [hlx] at hlast
   have hstp : stp c.bl.length c.gl.length n x (l.drop (j + 1)) t = .ok ⟨t.S, t.env - 1, t.stack - po + pu, t.binds - 1, max 0 (t.br - 1)⟩ := by
    rw [stp, if_neg (by rw [hf']; simp), href]
    show exeE x (l.drop (j + 1)) t.S t = _
    rw [hex, if_neg (fun hh => hh.elim d1' fun hh => d2' hh.2), if_neg (by rw [f3, hlx]; decide), if_neg (fun hh => by have := hh.1; omega), show envI x t.env = t.env - 1 from by rw [envI, if_neg (by omega), if_pos h], show envI x t.binds = t.binds - 1 from by rw [envI, if_neg (by omega), if_pos h], show brI x t.br = max 0 (t.br - 1) from by rw [brI, if_neg (by omega)]]
   have kB := k3.step (by omega) he0 hstp
   rw [hstp] at k5
   simp only at k5
   simp only [↓wpre, wall, simprocAttr, List.length_append, List.append_assoc, app_get_len, app_get_add, app_set_len, app_set_add, e0', e1', e9, e10, e5, e6, e7, e8, hdec, x4, insA_all, insA_len, wj, hj1, hsu, cf, hf, hm, w1, w42, hlast, hx2, f0, f1, f3, f5, f6, f9, f10, ce, d1, wP, wZ, d2, wA, wB, f01, f10b]
   exact EQ_in ⟨j + 1, by omega, by omega, rfl, e0', e1', e9, rfl, ⟨t.S, t.env - 1, t.stack - po + pu, t.binds - 1, max 0 (t.br - 1)⟩, by first | rfl | exact e5, rfl, by first | rfl | exact e7, rfl, kR, hl1.trans k2, kB, k5⟩
  ·have href : refE n x t = .ok t.S := by rw [refE, if_neg (ne_of_beq_false f1), if_neg (ne_of_beq_false f6), if_neg (fun hh => ne_of_beq_false f0 hh.1)]
   have kR := kG
   have hl1 : t.S.length = t.S.length := rfl
   have hex := hexe t.S
   cases d1 : decide (t.stack < po)
   case true =>
    have hstp : stp c.bl.length c.gl.length n x (l.drop (j + 1)) t = .error 27 := by
     rw [stp, if_neg (by rw [hf']; simp), href]
     show exeE x (l.drop (j + 1)) t.S t = _
     rw [hex, if_pos (.inl (by simpa using d1))]
    rw [hstp] at k5
    simp only at k5
    rw [if_neg hne0, ← k5]
    simp only [↓wpre, wall, simprocAttr, List.length_append, List.append_assoc, app_get_len, app_get_add, app_set_len, app_set_add, e0', e1', e9, e10, e5, e6, e7, e8, hdec, x4, insA_all, insA_len, wj, hj1, hsu, cf, hf, hm, w1, w42, hlast, hx2, f0, f1, f3, f5, f6, f9, f10, ce, d1]
    exact ⟨_, rfl⟩
   have d1' : ¬ t.stack < po := by simpa using d1
   have wP : IntKind.i64.wrap (t.stack - po) = t.stack - po := wrap_in (by unfold in64; omega)
   have wZ : IntKind.i64.wrap (t.stack - po + pu) = t.stack - po + pu := wrap_in (by unfold in64; omega)
   cases hlx : (l.drop (j + 1)).isEmpty
   case true =>
    rw [hlx] at hlast
    have hstp : stp c.bl.length c.gl.length n x (l.drop (j + 1)) t = .error 3 := by
     rw [stp, if_neg (by rw [hf']; simp), href]
     show exeE x (l.drop (j + 1)) t.S t = _
     rw [hex, if_neg (fun hh => hh.elim d1' fun hh => ne_of_beq_false f10 hh.1), if_pos (by rw [f3, hlx]; rfl)]
    rw [hstp] at k5
    simp only at k5
    rw [if_neg hne0, ← k5]
    simp only [↓wpre, wall, simprocAttr, List.length_append, List.append_assoc, app_get_len, app_get_add, app_set_len, app_set_add, e0', e1', e9, e10, e5, e6, e7, e8, hdec, x4, insA_all, insA_len, wj, hj1, hsu, cf, hf, hm, w1, w42, hlast, hx2, f0, f1, f3, f5, f6, f9, f10, ce, d1, wP, wZ, f01, f10b]
    exact ⟨_, rfl⟩
   rw [hlx] at hlast
   have hstp : stp c.bl.length c.gl.length n x (l.drop (j + 1)) t = .ok ⟨t.S, t.env, t.stack - po + pu, t.binds, max 0 (t.br - 1)⟩ := by
    rw [stp, if_neg (by rw [hf']; simp), href]
    show exeE x (l.drop (j + 1)) t.S t = _
    rw [hex, if_neg (fun hh => hh.elim d1' fun hh => ne_of_beq_false f10 hh.1), if_neg (by rw [f3, hlx]; decide), if_neg (fun hh => ne_of_beq_false f3 hh.1), show envI x t.env = t.env from by rw [envI, if_neg (ne_of_beq_false f9), if_neg (ne_of_beq_false f10)], show envI x t.binds = t.binds from by rw [envI, if_neg (ne_of_beq_false f9), if_neg (ne_of_beq_false f10)], show brI x t.br = max 0 (t.br - 1) from by rw [brI, if_neg (ne_of_beq_false f5)]]
   have kB := k3.step (by omega) he0 hstp
   rw [hstp] at k5
   simp only at k5
   simp only [↓wpre, wall, simprocAttr, List.length_append, List.append_assoc, app_get_len, app_get_add, app_set_len, app_set_add, e0', e1', e9, e10, e5, e6, e7, e8, hdec, x4, insA_all, insA_len, wj, hj1, hsu, cf, hf, hm, w1, w42, hlast, hx2, f0, f1, f3, f5, f6, f9, f10, ce, d1, wP, wZ, f01, f10b]
   exact EQ_in ⟨j + 1, by omega, by omega, rfl, e0', e1', e9, rfl, ⟨t.S, t.env, t.stack - po + pu, t.binds, max 0 (t.br - 1)⟩, by first | rfl | exact e5, rfl, by first | rfl | exact e7, rfl, kR, hl1.trans k2, kB, k5⟩
 ·have hdec : decide ((j : Int) < l.length) = false := by simpa using hge
  rw [List.drop_eq_nil_of_le (by omega), irun] at k5
  cases d2 : (((l.length : Nat) : Int) == 0)
  ·have d2' := ne_of_beq_false d2
   rw [if_neg (fun e => d2' (by rw [e]; rfl)), ← k5]
   simp only [↓wpre, wall, simprocAttr, List.length_append, List.append_assoc, app_get_len, app_get_add, app_set_len, app_set_add, e0', e1', e9, e10, hdec, insA_len, d2]
   exact ⟨_, rfl, k1, k2⟩
  ·have : l = [] := by have := eq_of_beq d2; exact List.length_eq_zero_iff.1 (by omega)
   rw [if_pos this]
   simp only [↓wpre, wall, simprocAttr, List.length_append, List.append_assoc, app_get_len, app_get_add, app_set_len, app_set_add, e0', e1', e9, e10, hdec, insA_len, d2]
   exact ⟨_, rfl⟩
end
end Go.Proofs.Eng
namespace Go.Proofs.Eng
open Go Go.Proofs Go.Shelf Go.RowKit
set_option maxHeartbeats 1000000 in
set_option maxRecDepth 1000000 in
theorem ref_walk {c : Cd} {w : World} {v1 v2 v3 : Value} (hone : v1.oneCell' = true ∧ v2.oneCell' = true ∧ v3.oneCell' = true)
  (h20 : ∀ w1, Below w.heap.size w w1 → Calls Tryd.prog 20 #[.agg #[v1, v2, v3]] w1 fun e w2 => e = .returned (.int .i64 0) ∧ Below w1.heap.size w1 w2)
  (hs1 : ∃ a cap, v1 = .slice a c.bl.length cap ∧ c.bl.length ≤ cap) (hnb : 1 ≤ c.bl.length ∧ c.bl.length ≤ 1000000)
  (hs3 : ∃ a cap, v3 = .slice a c.st.length cap ∧ c.st.length ≤ cap ∧ ∀ n x, c.st[n]? = some x → ∃ b o, a = some ⟨b, o, none⟩ ∧ w.cell? ⟨b, o + n, none⟩ = some (.int .i64 x)) (hst : ∀ x ∈ c.st, 1 ≤ x ∧ x < c.bl.length) (hns : c.st.length ≤ 1000000) (X : World → Nat → List Int → World → Prop)
  (hX : ∀ w1 g cap wr, Below w.heap.size w w1 → w.heap.size + 1 ≤ w1.heap.size → w1.heap.size + 1 ≤ g → Below w1.heap.size w1 wr → wr.heap[w1.heap.size]? = some (.cells #[v1, v2, v3, .slice (some ⟨g, 0, none⟩) c.bl.length cap] 57 (0, 0)) → wr.ownsRow (w1.heap.size + 1) 3 1 (.slice (some ⟨g, 0, none⟩) c.bl.length cap) c.bl.length (c.S0.map fun z => .int .i64 z) → SB 0 c.S0 → X w1 0 c.S0 wr)
  (h21 : ∀ w1 n l S wr, X w1 n S wr → c.bl[n]? = some l → Calls Tryd.prog 21 #[.pointer (some ⟨w1.heap.size, 0, none⟩), .int .i64 n] wr fun e w2 => match blkE c.bl.length c.gl.length n l S with | .error z => e = .returned (.int .i64 z) ∧ Below w1.heap.size wr w2 | .ok S' => e = .returned (.int .i64 0) ∧ Below w1.heap.size wr w2 ∧ X w1 (n + 1) S' w2) (ho : c.outE = 0) :
  Calls Tryd.prog 11 #[.agg #[v1, v2, v3]] w fun e w' => e = .returned (.int .i64 c.check) ∧ Below w.heap.size w w' := by
 obtain ⟨q1, q2, q3⟩ := hone
 obtain ⟨a1, cap1, rfl, hcap1⟩ := hs1
 obtain ⟨a3, cap3, rfl, hcap3, hc3⟩ := hs3
 have hz : ((0 : Int) != 0) = false := rfl
 go_enter Tryd.func11, Tryd.ntmps11
 go_wp2_with (go_at_call 20; refine (h20 _ ((Below.refl _ w).alloc (Nat.le_refl _) _)).mono ?_)
 rintro e w1 ⟨rfl, hb1⟩
 have hsz0 : (w.alloc (.cells #[.slice a1 c.bl.length cap1, v2, .slice a3 c.st.length cap3] 26)).heap.size = w.heap.size + 1 := by rw [alloc_size]
 have hbk0 : w1.heap[w.heap.size]? = some (.cells #[.slice a1 c.bl.length cap1, v2, .slice a3 c.st.length cap3] 26) := (hb1.block _ (by rw [hsz0]; omega)).trans (alloc_new _ _)
 have hB1 : Below w.heap.size w w1 := ((Below.refl _ w).alloc (Nat.le_refl _) _).trans (hb1.mono (by rw [hsz0]; omega))
 have hsz1 := hb1.size
 rw [hsz0] at hsz1
 have k1 : w1.cell? ⟨w.heap.size, 0, none⟩ = some (.slice a1 c.bl.length cap1) := by simp [World.cell?, hbk0]
 have k2 : w1.cell? ⟨w.heap.size, 1, none⟩ = some v2 := by simp [World.cell?, hbk0]
 have k3 : w1.cell? ⟨w.heap.size, 2, none⟩ = some (.slice a3 c.st.length cap3) := by simp [World.cell?, hbk0]
 clear hb1 hsz0 hbk0
 go_wp2
 have hi0 : (Tryd.prog.info? 3).isSome = true := by kernel_rfl
 obtain ⟨i0, hi⟩ := Option.isSome_iff_exists.1 hi0
 have z1 : (Tryd.prog.info? 3).map (fun i => (i.size, i.bytes)) = some (1, 8) := by kernel_rfl
 have z2 : (Tryd.prog.info? 3).bind (fun i => i.zero) = some (.int .i64 0) := by kernel_rfl
 rw [hi] at z1 z2
 simp only [Option.map_some, Option.some.injEq, Prod.mk.injEq] at z1
 simp only [Option.bind_some] at z2
 have hu3 : Tryd.prog.underlying 24 = some (.slice 3) := by kernel_rfl
 have hKn : (w1.alloc (.cells #[.slice a1 c.bl.length cap1, v2, .slice a3 c.st.length cap3, .slice none 0 0] 57)).heap[w1.heap.size]? = some (.cells #[.slice a1 c.bl.length cap1, v2, .slice a3 c.st.length cap3, .slice none 0 0] 57 (0, 0)) := alloc_new _ _
 have hBA : Below w1.heap.size w1 (w1.alloc (.cells #[.slice a1 c.bl.length cap1, v2, .slice a3 c.st.length cap3, .slice none 0 0] 57)) := (Below.refl _ w1).alloc (Nat.le_refl _) _
 have hszA : (w1.alloc (.cells #[.slice a1 c.bl.length cap1, v2, .slice a3 c.st.length cap3, .slice none 0 0] 57)).heap.size = w1.heap.size + 1 := by rw [alloc_size]
 go_loopw [5] (fun i wr => ∃ (n : Nat) (sv : Value), n ≤ c.bl.length ∧ i = .int .i64 (n : Nat) ∧ Below w1.heap.size w1 wr ∧ wr.heap[w1.heap.size]? = some (.cells #[.slice a1 c.bl.length cap1, v2, .slice a3 c.st.length cap3, sv] 57 (0, 0)) ∧ wr.ownsRow (w1.heap.size + 1) 3 1 sv n (List.replicate n (Value.int .i64 (-1)))) (fun i _ => c.bl.length - (match i with | .int _ z => z.toNat | _ => 0))
 case atStart => exact ⟨0, _, Nat.zero_le _, rfl, hBA, hKn, World.ownsRow_nil _ _ _ _⟩
 case round =>
  obtain ⟨n, sv, hn, rfl, hB, hK, hI⟩ := hrel
  have hsz := hB.size
  have hKl := bl_lt hK
  have kc : wr.cell? ⟨w1.heap.size, 3, none⟩ = some sv := by simp [World.cell?, hK]
  have kb := cell_keep hB k1 (by omega)
  have hfz : wr.frozen? ⟨w1.heap.size, 3, none⟩ = false := by simp [World.frozen?, hK]
  by_cases hlt : n < c.bl.length
  ·have hzl : (n : Int) < (c.bl.length : Int) := by omega
   go_wp2_with (at_builtin; refine wpList_append_own _ rfl _ _ 24 rfl (w1.heap.size + 1) 3 i0 (.int .i64 0) 1 8 hu3 hi z2 z1.1 z1.2 rfl (by decide) _ _ _ rfl (hI.alloc _) ⟨wr.heap.size, 0, none⟩ 1 1 [.int .i64 (-1)] rfl rfl ?c1 ?c2 ?c3 ?c4 ?c5 ?_)
   case c1 =>
    intro j u hj
    match j, hj with
    | 0, hj => simp at hj; subst hj; simp [Addr.add]
   case c2 => intro u hu; simp at hu; subst hu; rfl
   case c3 => unfold maxLen; omega
   case c4 => omega
   case c5 => simp; omega
   intro v4 w4 hI4 hgrow _
   have hno : sv.ownBlock ≠ some w1.heap.size := by
    rcases hI.2 with ⟨rfl, _⟩ | ⟨g, cap, cur, rfl, hg, _⟩
    ·simp [Value.ownBlock]
    ·simp [Value.ownBlock]; omega
   have hgs := hgrow.size
   have hK4 : w4.heap[w1.heap.size]? = some (.cells #[.slice a1 c.bl.length cap1, v2, .slice a3 c.st.length cap3, sv] 57 (0, 0)) := by
    rw [hgrow.block _ (by simp; omega) (fun e => hno e.symm), Below.heap_alloc _ _ _ hKl]; exact hK
   have hB4 : Below w1.heap.size w1 w4 := (hB.alloc (by omega) _).grown hgrow (by simp; omega) (fun k hk => by have := (hI.lt k hk).1; omega)
   have hf4 : w4.frozen? ⟨w1.heap.size, 3, none⟩ = false := by simp [World.frozen?, hK4]
   have kc4 : w4.cell? ⟨w1.heap.size, 3, none⟩ = some sv := by simp [World.cell?, hK4]
   obtain ⟨g4, cap4, rfl, hg4⟩ : ∃ g cap, v4 = .slice (some ⟨g, 0, none⟩) (n + 1) cap ∧ w1.heap.size + 1 ≤ g := by
    rcases hI4.2 with ⟨_, h⟩ | ⟨g, cap, cur, rfl, hg, _⟩
    ·omega
    ·exact ⟨g, cap, rfl, hg⟩
   have hI5 := ownsRow_setCell_below hI4 (a := ⟨w1.heap.size, 3, none⟩) (by simp) (.slice (some ⟨g4, 0, none⟩) (n + 1) cap4)
   have hK5 : (w4.setCell ⟨w1.heap.size, 3, none⟩ (.slice (some ⟨g4, 0, none⟩) (n + 1) cap4)).heap[w1.heap.size]? = some (.cells #[.slice a1 c.bl.length cap1, v2, .slice a3 c.st.length cap3, .slice (some ⟨g4, 0, none⟩) (n + 1) cap4] 57 (0, 0)) := by
    simp [World.setCell, Array.getElem?_modify, hK4]
   have hB5 := hB4.setCell (p := ⟨w1.heap.size, 3, none⟩) (Nat.le_refl _) (.slice (some ⟨g4, 0, none⟩) (n + 1) cap4)
   go_wp2
   go_roundw
   case rel =>
    refine ⟨n + 1, _, by omega, (by first | rfl | simp), hB5, hK5, ?_⟩
    rw [List.replicate_succ']; exact hI5
   case measure => simp; omega
  ·obtain rfl : n = c.bl.length := by omega
   obtain ⟨g, cap, rfl, hg⟩ : ∃ g cap, sv = .slice (some ⟨g, 0, none⟩) c.bl.length cap ∧ w1.heap.size + 1 ≤ g := by
    rcases hI.2 with ⟨_, h⟩ | ⟨g, cap, cur, rfl, hg, _⟩
    ·omega
    ·exact ⟨g, cap, rfl, hg⟩
   have hz0 : (0 : Int) < (c.bl.length : Int) := by omega
   have cg := hI.cellAt 0 (by omega)
   rw [List.getElem?_replicate, if_pos (by omega)] at cg
   have fg := hI.frozenAt 0
   obtain ⟨hI6, sI⟩ := hI.stored 0 (.int .i64 0)
   go_wp2
   have hrow : (List.replicate c.bl.length (Value.int IntKind.i64 (-1))).set 0 (Value.int IntKind.i64 0) = ((List.replicate c.bl.length (-1 : Int)).set 0 0).map (fun z => Value.int .i64 z) := by
    rw [List.map_set, List.map_replicate]
   rw [hrow] at hI6
   have hgr := sI.size
   have hB6 : Below w1.heap.size w1 (wr.setCell ⟨g, 0, none⟩ (.int .i64 0)) := hB.grown sI (by omega) (fun k hk => by cases hk; omega)
   have hK6 : (wr.setCell ⟨g, 0, none⟩ (.int .i64 0)).heap[w1.heap.size]? = some (.cells #[.slice a1 c.bl.length cap1, v2, .slice a3 c.st.length cap3, .slice (some ⟨g, 0, none⟩) c.bl.length cap] 57 (0, 0)) := by
    rw [Below.heap_setCell _ _ _ _ (by simp; omega)]; exact hK
   clear hI hrow cg fg sI hgr hK kc hB hfz kb hsz hKl
   generalize wr.setCell ⟨g, 0, none⟩ (.int .i64 0) = wq at *
   go_loopw [6] (fun i wr => ∃ (n : Nat) (S : List Int), n ≤ c.st.length ∧ i = .int .i64 (n : Nat) ∧ Below w1.heap.size w1 wr ∧ wr.heap[w1.heap.size]? = some (.cells #[.slice a1 c.bl.length cap1, v2, .slice a3 c.st.length cap3, .slice (some ⟨g, 0, none⟩) c.bl.length cap] 57 (0, 0)) ∧ wr.ownsRow (w1.heap.size + 1) 3 1 (.slice (some ⟨g, 0, none⟩) c.bl.length cap) c.bl.length (S.map fun z => .int .i64 z) ∧ SB 0 S ∧ (c.st.drop n).foldl (fun S s => S.set s.toNat 0) S = c.S0) (fun i _ => c.st.length - (match i with | .int _ z => z.toNat | _ => 0))
   case atStart => 
    exact ⟨0, _, Nat.zero_le _, rfl, hB6, hK6, hI6, SB.set (fun s hs => by rw [(List.mem_replicate.1 hs).2]; decide) (Int.le_refl _), rfl⟩
   case round =>
    obtain ⟨n, S, hn, rfl, hB, hK, hI, hSB, hf⟩ := hrel
    have hsz := hB.size
    have hKl := bl_lt hK
    have hSl : S.length = c.bl.length := by have := hI.1; simpa using this
    have kc : wr.cell? ⟨w1.heap.size, 3, none⟩ = some (.slice (some ⟨g, 0, none⟩) c.bl.length cap) := by simp [World.cell?, hK]
    have kb1 := cell_keep hB k1 (by omega)
    have kb3 := cell_keep hB k3 (by omega)
    by_cases hlt : n < c.st.length
    ·have hzl : (n : Int) < (c.st.length : Int) := by omega
     obtain ⟨x, hx⟩ : ∃ x, c.st[n]? = some x := ⟨_, List.getElem?_eq_getElem hlt⟩
     obtain ⟨b3, o3, rfl, kx⟩ := hc3 n x hx
     have kx1 := cell_keep hB (cell_keep hB1 kx (World.block_lt_of_cell? _ _ kx)) (by have := World.block_lt_of_cell? _ _ kx; simp at this; omega)
     obtain ⟨hx1, hx2⟩ := hst x (List.mem_of_getElem? hx)
     obtain ⟨m, rfl⟩ : ∃ m : Nat, x = m := ⟨x.toNat, by omega⟩
     have hm : m < c.bl.length := by omega
     have cg := hI.cellAt m (by omega)
     rw [List.getElem?_map, List.getElem?_eq_getElem (by omega), Option.map_some] at cg
     have fg := hI.frozenAt m
     obtain ⟨hI7, sI⟩ := hI.stored m (.int .i64 0)
     have hdr : c.st.drop n = (m : Int) :: c.st.drop (n + 1) := by
      obtain ⟨h, e⟩ := List.getElem?_eq_some_iff.1 hx
      rw [← e]; exact List.drop_eq_getElem_cons h
     go_wp2
     go_still_tail 10, (by kernel_rfl)
     go_wp2
     go_roundw
     case rel =>
      refine ⟨n + 1, S.set m 0, by omega, (by first | rfl | simp), (hB.grown sI (by omega) (fun k hk => by cases hk; omega)).drew, ?_, by rw [List.map_set]; exact hI7, hSB.set (Int.le_refl _), ?_⟩
      ·show (wr.setCell ⟨g, m, none⟩ (.int .i64 0)).heap[w1.heap.size]? = _
       rw [Below.heap_setCell _ _ _ _ (by simp; omega)]; exact hK
      ·rw [hdr, List.foldl_cons, Int.toNat_natCast] at hf; exact hf
     case measure => simp; omega
    ·obtain rfl : n = c.st.length := by omega
     rw [List.drop_eq_nil_of_le (Nat.le_refl _), List.foldl_nil] at hf
     subst hf
     have hX0 := hX w1 g cap wr hB1 hsz1 hg hB hK hI hSB
     clear hI hK kc
     go_wp2
     go_loopw [7] (fun i wr => ∃ (n : Nat) (S : List Int), n ≤ c.bl.length ∧ i = .int .i64 (n : Nat) ∧ Below w1.heap.size w1 wr ∧ X w1 n S wr ∧ goB c.bl.length c.gl.length n (c.bl.drop n) S = c.check) (fun i _ => c.bl.length - (match i with | .int _ z => z.toNat | _ => 0))
     case atStart => exact ⟨0, _, Nat.zero_le _, rfl, hB, hX0, by rw [Cd.check, if_neg (by rw [ho]; simp)]; rfl⟩
     case round =>
      obtain ⟨n, S, hn, rfl, hB, hX1, hf⟩ := hrel
      have kb1 := cell_keep hB k1 (by omega)
      by_cases hlt : n < c.bl.length
      ·have hzl : (n : Int) < (c.bl.length : Int) := by omega
       obtain ⟨l, hl⟩ : ∃ l, c.bl[n]? = some l := ⟨_, List.getElem?_eq_getElem hlt⟩
       have hc := h21 w1 n l S _ hX1 hl
       have hdr : c.bl.drop n = l :: c.bl.drop (n + 1) := by
        obtain ⟨h, e⟩ := List.getElem?_eq_some_iff.1 hl
        rw [← e]; exact List.drop_eq_getElem_cons h
       rw [hdr, goB_blk] at hf
       cases hbk : blkE c.bl.length c.gl.length n l S with
       | error z =>
        rw [hbk] at hc hf
        have hz1 : (z != 0) = true := by simpa [bne] using blkE_ne hbk
        simp only at hf hc
        go_wp2_with (go_at_call 21; refine hc.mono ?_)
        rintro e w2 ⟨rfl, hb2⟩
        go_wp2
        go_ret
        exact ⟨rfl, hB1.trans ((hB.trans hb2).mono (by omega))⟩
       | ok S' =>
        rw [hbk] at hc hf
        simp only at hf hc
        go_wp2_with (go_at_call 21; refine hc.mono ?_)
        rintro e w2 ⟨rfl, hb2, hX2⟩
        go_wp2
        go_roundw
        case rel =>
         exact ⟨n + 1, S', by omega, (by first | rfl | simp), hB.trans hb2, hX2, hf⟩
        case measure => simp; omega
      ·obtain rfl : n = c.bl.length := by omega
       go_wp2
       rw [List.drop_eq_nil_of_le (Nat.le_refl _), goB] at hf
       go_ret
       exact ⟨by rw [← hf]; rfl, hB1.trans (hB.mono (by omega))⟩
set_option maxHeartbeats 1000000 in
set_option maxRecDepth 1000000 in
theorem ref_no {c : Cd} {w : World} {v1 v2 v3 : Value} (hone : v1.oneCell' = true ∧ v2.oneCell' = true ∧ v3.oneCell' = true) (ho : (c.outE != 0) = true)
  (h20 : ∀ w1, Below w.heap.size w w1 → Calls Tryd.prog 20 #[.agg #[v1, v2, v3]] w1 fun e w2 => e = .returned (.int .i64 c.outE) ∧ Below w1.heap.size w1 w2) :
  Calls Tryd.prog 11 #[.agg #[v1, v2, v3]] w fun e w' => e = .returned (.int .i64 c.check) ∧ Below w.heap.size w w' := by
 obtain ⟨q1, q2, q3⟩ := hone
 have hck : c.check = c.outE := by rw [Cd.check, if_pos (by simpa [bne] using ho)]
 rw [hck]
 go_enter Tryd.func11, Tryd.ntmps11
 go_wp2_with (go_at_call 20; refine (h20 _ ((Below.refl _ w).alloc (Nat.le_refl _) _)).mono ?_)
 rintro e w1 ⟨rfl, hb1⟩
 have hsz0 : (w.alloc (.cells #[v1, v2, v3] 26)).heap.size = w.heap.size + 1 := by rw [alloc_size]
 have hB1 : Below w.heap.size w w1 := ((Below.refl _ w).alloc (Nat.le_refl _) _).trans (hb1.mono (by rw [hsz0]; omega))
 clear hb1 hsz0
 go_wp2
 go_ret
 exact ⟨rfl, hB1⟩
end Go.Proofs.Eng
namespace Go.Proofs.Eng
open Go Go.Proofs Go.RowKit
set_option maxRecDepth 100000
theorem pur_v {n : Nat} {s : ASt} {v : AV} {x : Value} (h : purify n s v = some (.v x)) : v = .v x := by
 cases n with
 | zero => simp [purify] at h
 | succ n =>
  by_cases hp : pureAV v = true
  ·have : purify (n + 1) s v = some v := by cases v <;> simp only [purify, hp, if_true]
   rw [this] at h; simpa using h
  ·cases v <;> simp only [purify, hp, if_false, Option.map_eq_some_iff, reduceCtorEq, and_false, exists_false, Bool.false_eq_true] at h
   ·split at h
    ·split at h
     ·simp at h
     ·cases h
    ·cases h
theorem sh_calls {P : Program} {md : FuncId → Md} {pfs : FuncId → Option PF} (hS : Sound P (run md pfs)) {f : FuncId} {args : List AV} {s : ASt} {PR : AV → ASt → Prop} (h : Sh md pfs f args s PR fun _ _ => False) (hz : ∀ v s', PR v s' → ∃ z : Int, v = .int z) {g : Gh} {w : World} {vs : List Value} (hI : Inv g s w) (hr : RepL g s w args vs) :
  Calls P f vs.toArray w fun e w' => ∃ (z : Int) (g' : Gh) (s' : ASt), PR (.int z) s' ∧ e = .returned (.int .i64 z) ∧ Inv g' s' w' ∧ Ext g s w g' s' w' := by
 obtain ⟨out, s1, out', h1, h2, h3⟩ := h
 obtain ⟨_, hcalls⟩ := hS f args _ out s1 h1
 refine (hcalls _ w vs hI hr).mono ?_
 rintro e w' ⟨g1, hI1, hE1, hO1⟩
 cases out with
 | ret v =>
  obtain ⟨v', hv', rfl⟩ := optMap h2
  obtain ⟨z, rfl⟩ := hz _ _ h3
  obtain rfl := pur_v hv'
  have hf : (Outc.ret (AV.v (.int .i64 z))).frz 20 s1 = s1 := frz_pure (n := 20) (x := .v (.int .i64 z)) rfl
  simp only [hf] at h3
  cases e with
  | returned u =>
   have hu : u = .int .i64 z := Rep.v_inv hO1
   exact ⟨z, g1, s1, h3, by rw [hu], hI1, hE1⟩
  | panicked _ => exact hO1.elim
  | outgrown => exact hO1.elim
 | pan v =>
  obtain ⟨v', hv', rfl⟩ := optMap h2
  exact h3.elim
theorem below_of {g g' : Gh} {s s' : ASt} {w w' : World} (h : Ext g s w g' s' w') {B : Nat} (hB : B ≤ w.heap.size) (hn : ∀ b, b < B → ¬ g.has b) : Below B w w' :=
 ⟨h.os, h.tape, h.output.1, h.size, fun k hk => (h.obj k (by omega) (hn k hk)).1⟩
def GhK (K gb : Nat) (fb : Nat → Nat → Prop) : Gh := ⟨fun i => if i = 0 then some K else if i = 1 then some gb else none, fun _ => none, fb⟩
theorem ghk_mu {K gb : Nat} {fb : Nat → Nat → Prop} {i b : Nat} (h : (GhK K gb fb).mu i = some b) : (i = 0 ∧ b = K) ∨ (i = 1 ∧ b = gb) := by
 simp only [GhK] at h
 split at h
 ·simp only [Option.some.injEq] at h; exact .inl ⟨by assumption, h.symm⟩
 ·split at h
  ·simp only [Option.some.injEq] at h; exact .inr ⟨by assumption, h.symm⟩
  ·cases h
theorem ghk_has {K gb : Nat} {fb : Nat → Nat → Prop} {b : Nat} (h : (GhK K gb fb).has b) : b = K ∨ b = gb := by
 rcases h with ⟨i, h⟩ | ⟨id, q, h, _⟩
 ·rcases ghk_mu h with ⟨_, h⟩ | ⟨_, h⟩
  ·exact .inl h
  ·exact .inr h
 ·cases h
theorem rep_ints {g : Gh} {s : ASt} {w : World} : ∀ l : List Int, RepL g s w (ints l) (l.map fun z => .int .i64 z)
 | [] => .nil g s w
 | x :: l => .cons (.v rfl) (rep_ints l)
theorem begin_inv {g : Gh} {s : ASt} {w wr : World} {a1 a2 a3 : AV} {v1 v2 v3 : Value} {K gb nb cap : Nat} {S : List Int} (hI : Inv g s w) (hr : RepL g s w [.agg [a1, a2, a3]] [.agg #[v1, v2, v3]]) (hp : pureAVs [.agg [a1, a2, a3]] = true)
  (hb : Below w.heap.size w wr) (hK : w.heap.size ≤ K) (hg : K + 1 ≤ gb) (hKc : wr.heap[K]? = some (.cells #[v1, v2, v3, .slice (some ⟨gb, 0, none⟩) nb cap] 57 (0, 0)))
  (hrow : wr.ownsRow (K + 1) 3 1 (.slice (some ⟨gb, 0, none⟩) nb cap) nb (S.map fun z => .int .i64 z)) :
  ∃ fb, Inv (GhK K gb fb) ⟨[.cells false [a1, a2, a3, .bs 1 0 nb 1 false], .cells false (ints S)], []⟩ wr := by
 have hInv0 : Inv (Gh.empty fun b o => g.wr s b o) ⟨[], []⟩ w := Inv.empty hI.known fun b o h => hI.wr_lt h
 have hok : ∀ b o, ¬ g.wr s b o → ¬ (Gh.empty fun b o => g.wr s b o).wr ⟨[], []⟩ b o := by
  rintro b o hn (⟨i, l, h1, _⟩ | ⟨id, q, h1, _⟩ | h1)
  ·simp [Gh.empty] at h1
  ·simp [Gh.empty] at h1
  ·exact hn h1
 have hfz : ∀ i b o, g.mu i = some b → Frozen s i → ¬ (Gh.empty fun b o => g.wr s b o).wr ⟨[], []⟩ b o := by
  rintro i b o hb hf (⟨i, l, h1, _⟩ | ⟨id, q, h1, _⟩ | h1)
  ·simp [Gh.empty] at h1
  ·simp [Gh.empty] at h1
  ·exact frozen_ok (FzLe.refl s) hI i b o hb hf h1
 have hfold : [AV.agg [a1, a2, a3]].foldl (frz 20) s = s := frz_all s hp
 have hr0 := list_rep (ok := Frozen s) (frz_le 20) (purify_rep hI hok (Frozen s) hfz 20 fun h => absurd h (by decide)) (purify_all s hp) hr (FzLe.refl s) (fun i hi => by rw [hfold] at hi; exact hi)
 refine ⟨fun b o => g.wr s b o, ?_⟩
 rcases hrow.2 with ⟨h, _⟩ | ⟨g1, cap1, cur, h, hg1, hgc, hnc, hcm, hcs, htk⟩
 ·cases h
 simp only [Value.slice.injEq, Option.some.injEq, Addr.mk.injEq, and_true, true_and] at h
 obtain ⟨rfl, rfl⟩ := h
 have hKl := bl_lt hKc
 have hgl := bl_lt hgc
 have hsz := hb.size
 have hE : Ext (Gh.empty fun b o => g.wr s b o) ⟨[], []⟩ w (GhK K gb fun b o => g.wr s b o) ⟨[.cells false [a1, a2, a3, .bs 1 0 nb 1 false], .cells false (ints S)], []⟩ wr := by
  refine ⟨fun i b h => by simp [Gh.empty] at h, fun id v h => by simp at h, hsz, fun b o hlt _ => hb.cell (p := ⟨b, o, none⟩) hlt, ?_, ?_, rfl, hb.os, hb.tape, hb.output, fun d => d.elim⟩
  ·rintro b o hlt hn (⟨i, l, h, _⟩ | ⟨id, q, h, _⟩ | h)
   ·rcases ghk_mu h with ⟨_, rfl⟩ | ⟨_, rfl⟩ <;> omega
   ·cases h
   ·exact hn (.inr (.inr h))
  ·intro b hlt _
   refine ⟨hb.block b hlt, fun h => ?_⟩
   rcases ghk_has h with rfl | rfl <;> omega
 obtain ⟨u, us, e, hu, _⟩ := (hr0.mono hE).cons_inv
 simp only [List.cons.injEq] at e
 obtain ⟨rfl, rfl⟩ := e
 obtain ⟨cs, e, hcs⟩ := hu.agg_inv
 obtain rfl : cs = [v1, v2, v3] := by simpa using (congrArg Array.toList (Value.agg.inj e)).symm
 refine ⟨?_, ?_, ?_, ?_, ?_, ?_, ?_, ?_, ?_, ?_⟩
 ·intro i b h
  rcases ghk_mu h with ⟨rfl, rfl⟩ | ⟨rfl, rfl⟩ <;> exact ⟨by simp, by assumption⟩
 ·intro i j b h1 h2
  rcases ghk_mu h1 with ⟨rfl, rfl⟩ | ⟨rfl, rfl⟩ <;> rcases ghk_mu h2 with ⟨rfl, h⟩ | ⟨rfl, h⟩ <;> first | rfl | omega
 ·intro i b o h ho
  rcases ghk_mu h with ⟨rfl, rfl⟩ | ⟨rfl, rfl⟩
  ·simp only [List.getElem?_cons_zero, Option.some.injEq] at ho
   subst ho
   exact ⟨[v1, v2, v3, .slice (some ⟨gb, 0, none⟩) nb cap], 57, ⟨[], by simpa using hKc⟩, hcs.append (l := [a1, a2, a3]) (.one (.bs (by simp [GhK]) hnc))⟩
  ·simp only [List.getElem?_cons_succ, List.getElem?_cons_zero, Option.some.injEq] at ho
   subst ho
   refine ⟨S.map fun z => .int .i64 z, 3, ⟨cur.toList.drop nb, ?_⟩, rep_ints S⟩
   rw [hgc, ← htk, Nat.mul_one, List.take_append_drop]
 ·intro id o h; cases h
 ·intro id id' o o' h; cases h
 ·intro id o i h; cases h
 ·intro b o h; exact Nat.lt_of_lt_of_le (hI.wr_lt h) hsz
 ·intro i b o h h2
  have := hI.wr_lt h2
  rcases ghk_mu h with ⟨_, rfl⟩ | ⟨_, rfl⟩ <;> omega
 ·intro id q o h; cases h
 ·intro b hk
  obtain ⟨h1, h2⟩ := hI.known b hk
  refine ⟨by omega, fun h => ?_, by rw [hb.block b h1]; exact h2⟩
  rcases ghk_has h with rfl | rfl <;> omega
end Go.Proofs.Eng
