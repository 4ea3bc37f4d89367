/- Codes, read out of the store. No conditions beyond those in the theorems. -/
import Derived.Test.YtflfmkkcnphdcaaGreatV3
import Derived.Test.YtflfmkkcnphdcaaGreatV1
set_option linter.all false
set_option linter.deprecated false
set_option linter.unnecessarySimpa false
set_option linter.unusedVariables false
set_option linter.unusedSimpArgs false
set_option linter.defProp false
namespace Go.Proofs.Eng
open Go Go.Proofs
set_option maxRecDepth 100000
set_option maxHeartbeats 16000000
theorem ent_len {n : Nat} {S S' : List Int} {b m : Int} (e : entE n S b m = .ok S') : S'.length = S.length := by
 unfold entE at e
 split at e
 ·cases e
 ·split at e
  ·cases e
  ·cases e; simp
theorem ent_ne {n : Nat} {S : List Int} {b m e : Int} (h : entE n S b m = .error e) : (e != 0) = true := by
 unfold entE at h
 split at h
 ·simp only [Except.error.injEq] at h; subst h; rfl
 ·split at h
  ·simp only [Except.error.injEq] at h; subst h; rfl
  ·cases h
theorem op_cases7 (op : Int) : op = 0 ∨ op = 1 ∨ op = 3 ∨ op = 5 ∨ op = 6 ∨ op = 9 ∨ op = 10 ∨ ((op == 0) = false ∧ (op == 1) = false ∧ (op == 3) = false ∧ (op == 5) = false ∧ (op == 6) = false ∧ (op == 9) = false ∧ (op == 10) = false) := by
 simp only [beq_eq_false_iff_ne]; omega
section
variable {ki si : Nat} {Bs : List AV} {t1 t2 t3 : Tl} {c : Cd} {S : List Int} {H : List AObj} {V : List Nat}
theorem rblock_chk (h : KS ki si Bs t1 t2 t3 c S H) {n : Nat} {l : List Ins} (hn : c.bl[n]? = some l) (hnm : ∀ x ∈ l, x.n.size ≤ lenB) {W : Int} (hS : SB W S) (hW : 0 ≤ W) (hWl : W + l.length ≤ 1000000000000000000) :
  Sh md pfs 74 [.ptr ki 0, .int n] ⟨H, V⟩ (fun v s => match blkE c.bl.length c.gl.length n l S with | .error e => v = .int e ∧ ∃ H', s = ⟨H', V⟩ | .ok S' => v = .int 0 ∧ ∃ H', s = ⟨H', V⟩ ∧ KS ki si Bs t1 t2 t3 c S' H' ∧ S'.length = S.length) fun _ _ => False := by
 have hB : B62 = 4611686018427387904 := rfl
 have hk := h.k
 have hs := h.s
 have hBl := h.bl.len
 have hnl : n < c.bl.length := (List.getElem?_eq_some_iff.1 hn).1
 obtain ⟨l', a, d0, _, _, d4, ⟨tb, rfl, htb, hll⟩⟩ := h.bl.at (i := n) (by omega)
 rw [hn] at d0; cases d0
 have hnS : n < S.length := by rw [h.sl]; exact hnl
 have hSn : (List.drop n (ints S)).head? = some (.int (S.getD n 0)) := by rw [List.head?_drop]; exact ints_atD hnS
 have hnB : (n : Int) < Bs.length := by omega
 have hnC : (n : Int) < c.bl.length := by omega
 have hallB : (Bs.all fun x => x.cells.length == 1) = true := List.all_eq_true.2 fun y hy => by
  obtain ⟨q, hq⟩ := List.mem_iff_getElem?.1 hy
  obtain ⟨b, a, _, _, _, e4, ⟨t, rfl, _⟩⟩ := h.bl.at (i := q) (List.getElem?_eq_some_iff.1 hq).1
  rw [hq] at e4; cases e4; rfl
 have hkl := lt_of_get hk
 have hsl := lt_of_get hs
 refine sh_of pf74_is (Nat.le_of_ble_eq_true rfl) ?_
 rw [blkE]
 cases d1 : decide (S.getD n 0 < 0)
 case true =>
  rw [if_pos (by simpa using d1)]
  simp only [pf74, ↓wpre, wall, simprocAttr, List.length_append, List.append_assoc, app_get_len, app_get_add, app_set_len, app_set_add, hk, hs, hnB, hnC, d4, hallB, Nat.mul_one, hSn, d1]
  exact ⟨_, rfl⟩
 rw [if_neg (by simpa using d1)]
 have d1' : ¬ S.getD n 0 < 0 := by simpa using d1
 generalize hS0 : S.getD n 0 = e0 at *
 have he0 : e0 ≤ W := by
  rw [← hS0, List.getD, List.getElem?_eq_getElem hnS]; exact hS _ (List.getElem_mem hnS)
 simp only [pf74, ↓wpre, wall, simprocAttr, List.length_append, List.append_assoc, app_get_len, app_get_add, app_set_len, app_set_add, hk, hs, hnB, hnC, d4, hallB, Nat.mul_one, hSn, insA_len, d1]
 generalize hR : irun c.bl.length c.gl.length n [] l ⟨S, e0, 0, 0, 0⟩ = R
 refine W_loopE (fun j => l.length - j) (fun j E H1 V1 => j ≤ l.length ∧ V1 = V ∧ E 0 = .ptr ki 0 ∧ E 1 = .int n ∧ E 9 = .sl (insA l) tb ∧ E 10 = .int j ∧ ∃ t : Sk, E 5 = .int t.env ∧ E 6 = .int t.stack ∧ E 7 = .int t.binds ∧ E 8 = .int t.br ∧ KS ki si Bs t1 t2 t3 c t.S H1 ∧ t.S.length = S.length ∧ Bd W e0 j t ∧ irun c.bl.length c.gl.length n [] (l.drop j) t = R) ?_ 0 ?start
 case start => exact ⟨Nat.zero_le _, rfl, rfl, rfl, rfl, rfl, ⟨S, e0, 0, 0, 0⟩, rfl, rfl, rfl, rfl, h, rfl, ⟨by simp, by simp, by simp, by simp, hS.mono (by show W ≤ W + 64 + ((0 : Nat) : Int); omega)⟩, by rw [List.drop_zero]; exact hR⟩
 rintro j E H1 V1 ⟨hj, rfl, e0', e1', e9, e10, t, e5, e6, e7, e8, k1, k2, k3, k5⟩
 rcases Nat.lt_or_ge j l.length with hlt | hge
 ·have hdec : decide ((j : Int) < l.length) = true := by simpa using hlt
  have hne0 : l ≠ [] := by intro e; rw [e] at hlt; simp at hlt
  obtain ⟨x, x0, x4⟩ := insA_at hlt
  have hdr : l.drop j = x :: l.drop (j + 1) := by
   obtain ⟨h, rfl⟩ := List.getElem?_eq_some_iff.1 x0
   exact List.drop_eq_getElem_cons h
  rw [hdr, irun, List.append_nil] at k5
  obtain ⟨t', ht', hsu⟩ := slice_suf (es := 4) (al := insA l) htb (n := j + 1) (m := l.length) (by omega) (by rw [insA_len])
  have hsl2 : (insA l).drop (j + 1) = insA (l.drop (j + 1)) := by simp [insA]
  rw [hsl2] at hsu
  have kA := k1.app [.cells false [.int x.op, .int x.a, .int x.b, .str x.n]]
  obtain ⟨_, _, ⟨rfl, G, rfl⟩, cf⟩ := (rform_sh (V := V1) kA x (rest := l.drop (j + 1)) (t := t') t.br ht' (by rw [List.length_drop]; omega) (hnm x (List.mem_of_getElem? x0))).callRet rfl
  have wj : IntKind.i64.wrap ((j : Int) + 1) = ((j + 1 : Nat) : Int) := by rw [wrap_in (by unfold in64; omega)]; omega
  have hj1 : ((j + 1 : Nat) : Int) ≤ l.length := by omega
  have hx2 : (H1 ++ [AObj.cells false [.int x.op, .int x.a, .int x.b, .str x.n]] ++ G)[H1.length]? = some (.cells false [.int x.op, .int x.a, .int x.b, .str x.n]) := app_get_of (by simp) G
  have kG := kA.app G
  generalize H1 ++ [AObj.cells false [.int x.op, .int x.a, .int x.b, .str x.n]] ++ G = H2 at *
  have hs1 : si ≠ H1.length := by have := lt_of_get k1.s; omega
  have w42 : IntKind.i64.wrap (((l.length : Nat) : Int) - 1) = ((l.length - 1 : Nat) : Int) := by rw [wrap_in (by unfold in64; omega)]; omega
  have hlast : (((j : Nat) : Int) == ((l.length - 1 : Nat) : Int)) = (l.drop (j + 1)).isEmpty := by
   cases hd : l.drop (j + 1) with
   | nil =>
    have := List.drop_eq_nil_iff.1 hd
    rw [List.isEmpty_nil, beq_iff_eq]; omega
   | cons y r =>
    have := congrArg List.length hd
    rw [List.length_drop, List.length_cons] at this
    rw [List.isEmpty_cons, beq_eq_false_iff_ne]; omega
  simp only [Ins.av] at cf
  cases hf : (formE c.bl.length c.gl.length x (l.drop (j + 1)) t.br != 0)
  case true =>
   have hf' : formE c.bl.length c.gl.length x (l.drop (j + 1)) t.br ≠ 0 := by simpa [bne] using hf
   rw [stp, if_pos hf'] at k5
   rw [if_neg hne0, ← k5]
   simp only [↓wpre, wall, simprocAttr, List.length_append, List.append_assoc, app_get_len, app_get_add, app_set_len, app_set_add, e0', e1', e9, e10, e5, e6, e7, e8, hdec, x4, insA_all, insA_len, wj, hj1, hsu, cf, hf]
   exact ⟨_, rfl⟩
  have hf' : formE c.bl.length c.gl.length x (l.drop (j + 1)) t.br = 0 := by simpa [bne] using hf
  obtain ⟨⟨f1a, f2a, f3a, f4a⟩, f5a, f6a, f7a⟩ := form_ok hf'
  obtain ⟨⟨s1, s2⟩, ⟨b1, b2⟩, hen, ⟨r1, r2⟩, hsb⟩ := id k3
  obtain ⟨_, rfl, ce⟩ := (pops_ret x f1a f2a).call rfl (by simp [pvs_cons, pvs_nil, pv_v, Ins.av, pv_agg])
  simp only [Ins.av] at ce
  have hpp : 0 ≤ popI x ∧ 0 ≤ pushI x ∧ pushI x ≤ 1 := by
   refine ⟨?_, ?_, ?_⟩
   ·unfold popI; repeat' split <;> omega
   ·unfold pushI; split <;> omega
   ·unfold pushI; split <;> omega
  have hm : (if t.br - 1 > 0 then t.br - 1 else 0) = max 0 (t.br - 1) := by split <;> omega
  have w1 : IntKind.i64.wrap (t.br - 1) = t.br - 1 := wrap_in (by unfold in64; omega)
  have f01 : ((false : Bool) == true) = false := rfl
  have f10b : ((true : Bool) == false) = false := rfl
  obtain ⟨po, hpo⟩ : ∃ po, po = popI x := ⟨_, rfl⟩
  obtain ⟨pu, hpu⟩ : ∃ pu, pu = pushI x := ⟨_, rfl⟩
  have hexe : ∀ S1, exeE x (l.drop (j + 1)) S1 t = if t.stack < po ∨ x.op = 10 ∧ t.binds = 0 then .error 27 else if (x.op == 3) != (l.drop (j + 1)).isEmpty then .error 3 else if x.op = 3 ∧ (t.stack - po + pu ≠ 1 ∨ envI x t.binds ≠ 0) then .error 27 else .ok ⟨S1, envI x t.env, t.stack - po + pu, envI x t.binds, brI x t.br⟩ := fun S1 => by rw [hpo, hpu]; rfl
  rw [← hpo, ← hpu] at ce hpp
  clear hpo hpu
  rcases op_cases7 x.op with h | h | h | h | h | h | h | ⟨f0, f1, f3, f5, f6, f9, f10⟩
  ·have f0 : (x.op == 0) = true := by rw [h]; rfl
   have f1 : (x.op == 1) = false := by rw [h]; rfl
   have f3 : (x.op == 3) = false := by rw [h]; rfl
   have f5 : (x.op == 5) = false := by rw [h]; rfl
   have f6 : (x.op == 6) = false := by rw [h]; rfl
   have f9 : (x.op == 9) = false := by rw [h]; rfl
   have f10 : (x.op == 10) = false := by rw [h]; rfl
   cases da : decide (x.a ≥ t.env)
   case true =>
    have hstp : stp c.bl.length c.gl.length n x (l.drop (j + 1)) t = .error 24 := by rw [stp, if_neg (by rw [hf']; simp), refE, if_neg (by omega), if_neg (by omega), if_pos ⟨h, by simpa using da⟩]
    rw [hstp] at k5
    simp only at k5
    rw [if_neg hne0, ← k5]
    simp only [↓wpre, wall, simprocAttr, List.length_append, List.append_assoc, app_get_len, app_get_add, app_set_len, app_set_add, e0', e1', e9, e10, e5, e6, e7, e8, hdec, x4, insA_all, insA_len, wj, hj1, hsu, cf, hf, hm, w1, w42, hlast, hx2, f0, f1, f3, f5, f6, f9, f10, da]
    exact ⟨_, rfl⟩
   have href : refE n x t = .ok t.S := by rw [refE, if_neg (by omega), if_neg (by omega), if_neg (fun hh => by have := hh.2; simp only [ge_iff_le, decide_eq_false_iff_not] at da; omega)]
   have kR := kG
   have hl1 : t.S.length = t.S.length := rfl
   have hex := hexe t.S
   cases d1 : decide (t.stack < po)
   case true =>
    have hstp : stp c.bl.length c.gl.length n x (l.drop (j + 1)) t = .error 27 := by
     rw [stp, if_neg (by rw [hf']; simp), href]
     show exeE x (l.drop (j + 1)) t.S t = _
     rw [hex, if_pos (.inl (by simpa using d1))]
    rw [hstp] at k5
    simp only at k5
    rw [if_neg hne0, ← k5]
    simp only [↓wpre, wall, simprocAttr, List.length_append, List.append_assoc, app_get_len, app_get_add, app_set_len, app_set_add, e0', e1', e9, e10, e5, e6, e7, e8, hdec, x4, insA_all, insA_len, wj, hj1, hsu, cf, hf, hm, w1, w42, hlast, hx2, f0, f1, f3, f5, f6, f9, f10, da, ce, d1]
    exact ⟨_, rfl⟩
   have d1' : ¬ t.stack < po := by simpa using d1
   have wP : IntKind.i64.wrap (t.stack - po) = t.stack - po := wrap_in (by unfold in64; omega)
   have wZ : IntKind.i64.wrap (t.stack - po + pu) = t.stack - po + pu := wrap_in (by unfold in64; omega)
   cases hlx : (l.drop (j + 1)).isEmpty
   case true =>
    rw [hlx] at hlast
    have hstp : stp c.bl.length c.gl.length n x (l.drop (j + 1)) t = .error 3 := by
     rw [stp, if_neg (by rw [hf']; simp), href]
     show exeE x (l.drop (j + 1)) t.S t = _
     rw [hex, if_neg (fun hh => hh.elim d1' fun hh => by have := hh.1; omega), if_pos (by rw [f3, hlx]; rfl)]
    rw [hstp] at k5
    simp only at k5
    rw [if_neg hne0, ← k5]
    simp only [↓wpre, wall, simprocAttr, List.length_append, List.append_assoc, app_get_len, app_get_add, app_set_len, app_set_add, e0', e1', e9, e10, e5, e6, e7, e8, hdec, x4, insA_all, insA_len, wj, hj1, hsu, cf, hf, hm, w1, w42, hlast, hx2, f0, f1, f3, f5, f6, f9, f10, da, ce, d1, wP, wZ, f01, f10b]
    exact ⟨_, rfl⟩
   rw [hlx] at hlast
   have hstp : stp c.bl.length c.gl.length n x (l.drop (j + 1)) t = .ok ⟨t.S, t.env, t.stack - po + pu, t.binds, max 0 (t.br - 1)⟩ := by
    rw [stp, if_neg (by rw [hf']; simp), href]
    show exeE x (l.drop (j + 1)) t.S t = _
    rw [hex, if_neg (fun hh => hh.elim d1' fun hh => by have := hh.1; omega), if_neg (by rw [f3, hlx]; decide), if_neg (fun hh => by have := hh.1; omega), show envI x t.env = t.env from by rw [envI, if_neg (by omega), if_neg (by omega)], show envI x t.binds = t.binds from by rw [envI, if_neg (by omega), if_neg (by omega)], show brI x t.br = max 0 (t.br - 1) from by rw [brI, if_neg (by omega)]]
   have kB := k3.step (by omega) he0 hstp
   rw [hstp] at k5
   simp only at k5
   simp only [↓wpre, wall, simprocAttr, List.length_append, List.append_assoc, app_get_len, app_get_add, app_set_len, app_set_add, e0', e1', e9, e10, e5, e6, e7, e8, hdec, x4, insA_all, insA_len, wj, hj1, hsu, cf, hf, hm, w1, w42, hlast, hx2, f0, f1, f3, f5, f6, f9, f10, da, ce, d1, wP, wZ, f01, f10b]
   exact EQ_in ⟨j + 1, by omega, by omega, rfl, e0', e1', e9, rfl, ⟨t.S, t.env, t.stack - po + pu, t.binds, max 0 (t.br - 1)⟩, by first | rfl | exact e5, rfl, by first | rfl | exact e7, rfl, kR, hl1.trans k2, kB, k5⟩
  ·have f0 : (x.op == 0) = false := by rw [h]; rfl
   have f1 : (x.op == 1) = true := by rw [h]; rfl
   have f3 : (x.op == 3) = false := by rw [h]; rfl
   have f5 : (x.op == 5) = false := by rw [h]; rfl
   have f6 : (x.op == 6) = false := by rw [h]; rfl
   have f9 : (x.op == 9) = false := by rw [h]; rfl
   have f10 : (x.op == 10) = false := by rw [h]; rfl
   have wE : IntKind.i64.wrap (t.env + 1) = t.env + 1 := wrap_in (by unfold in64; omega)
   have href : refE n x t = entE n t.S x.a (t.env + 1) := by rw [refE, if_pos h]
   obtain ⟨vr, sr, hr, cr⟩ := (rent_sh (V := V1) kG (n := n) (m := t.env + 1) f3a (f5a (.inl h))).callRet rfl
   cases hre : entE n t.S x.a (t.env + 1) with
   | error e =>
    have hne := ent_ne hre
    rw [hre] at hr href
    obtain ⟨rfl, rfl⟩ := hr
    have hstp : stp c.bl.length c.gl.length n x (l.drop (j + 1)) t = .error e := by rw [stp, if_neg (by rw [hf']; simp), href]
    rw [hstp] at k5
    simp only at k5
    rw [if_neg hne0, ← k5]
    simp only [↓wpre, wall, simprocAttr, List.length_append, List.append_assoc, app_get_len, app_get_add, app_set_len, app_set_add, e0', e1', e9, e10, e5, e6, e7, e8, hdec, x4, insA_all, insA_len, wj, hj1, hsu, cf, hf, hm, w1, w42, hlast, hx2, f0, f1, f3, f5, f6, f9, f10, wE, cr, hne]
    exact ⟨_, rfl⟩
   | ok S1 =>
    rw [hre] at hr href
    obtain ⟨rfl, rfl⟩ := hr
    have kR := kG.enter (ent_len hre)
    have hl1 := ent_len hre
    have hx3 := set_ne (x := .cells false (ints S1)) (j := si) hx2 hs1
    have hex := hexe S1
    cases d1 : decide (t.stack < po)
    case true =>
     have hstp : stp c.bl.length c.gl.length n x (l.drop (j + 1)) t = .error 27 := by
      rw [stp, if_neg (by rw [hf']; simp), href]
      show exeE x (l.drop (j + 1)) S1 t = _
      rw [hex, if_pos (.inl (by simpa using d1))]
     rw [hstp] at k5
     simp only at k5
     rw [if_neg hne0, ← k5]
     simp only [↓wpre, wall, simprocAttr, List.length_append, List.append_assoc, app_get_len, app_get_add, app_set_len, app_set_add, e0', e1', e9, e10, e5, e6, e7, e8, hdec, x4, insA_all, insA_len, wj, hj1, hsu, cf, hf, hm, w1, w42, hlast, hx2, hx3, f0, f1, f3, f5, f6, f9, f10, wE, cr, ce, d1]
     exact ⟨_, rfl⟩
    have d1' : ¬ t.stack < po := by simpa using d1
    have wP : IntKind.i64.wrap (t.stack - po) = t.stack - po := wrap_in (by unfold in64; omega)
    have wZ : IntKind.i64.wrap (t.stack - po + pu) = t.stack - po + pu := wrap_in (by unfold in64; omega)
    cases hlx : (l.drop (j + 1)).isEmpty
    case true =>
     rw [hlx] at hlast
     have hstp : stp c.bl.length c.gl.length n x (l.drop (j + 1)) t = .error 3 := by
      rw [stp, if_neg (by rw [hf']; simp), href]
      show exeE x (l.drop (j + 1)) S1 t = _
      rw [hex, if_neg (fun hh => hh.elim d1' fun hh => by have := hh.1; omega), if_pos (by rw [f3, hlx]; rfl)]
     rw [hstp] at k5
     simp only at k5
     rw [if_neg hne0, ← k5]
     simp only [↓wpre, wall, simprocAttr, List.length_append, List.append_assoc, app_get_len, app_get_add, app_set_len, app_set_add, e0', e1', e9, e10, e5, e6, e7, e8, hdec, x4, insA_all, insA_len, wj, hj1, hsu, cf, hf, hm, w1, w42, hlast, hx2, hx3, f0, f1, f3, f5, f6, f9, f10, wE, cr, ce, d1, wP, wZ, f01, f10b]
     exact ⟨_, rfl⟩
    rw [hlx] at hlast
    have hstp : stp c.bl.length c.gl.length n x (l.drop (j + 1)) t = .ok ⟨S1, t.env, t.stack - po + pu, t.binds, max 0 (t.br - 1)⟩ := by
     rw [stp, if_neg (by rw [hf']; simp), href]
     show exeE x (l.drop (j + 1)) S1 t = _
     rw [hex, if_neg (fun hh => hh.elim d1' fun hh => by have := hh.1; omega), if_neg (by rw [f3, hlx]; decide), if_neg (fun hh => by have := hh.1; omega), show envI x t.env = t.env from by rw [envI, if_neg (by omega), if_neg (by omega)], show envI x t.binds = t.binds from by rw [envI, if_neg (by omega), if_neg (by omega)], show brI x t.br = max 0 (t.br - 1) from by rw [brI, if_neg (by omega)]]
    have kB := k3.step (by omega) he0 hstp
    rw [hstp] at k5
    simp only at k5
    simp only [↓wpre, wall, simprocAttr, List.length_append, List.append_assoc, app_get_len, app_get_add, app_set_len, app_set_add, e0', e1', e9, e10, e5, e6, e7, e8, hdec, x4, insA_all, insA_len, wj, hj1, hsu, cf, hf, hm, w1, w42, hlast, hx2, hx3, f0, f1, f3, f5, f6, f9, f10, wE, cr, ce, d1, wP, wZ, f01, f10b]
    exact EQ_in ⟨j + 1, by omega, by omega, rfl, e0', e1', e9, rfl, ⟨S1, t.env, t.stack - po + pu, t.binds, max 0 (t.br - 1)⟩, by first | rfl | exact e5, rfl, by first | rfl | exact e7, rfl, kR, hl1.trans k2, kB, k5⟩
  ·have f0 : (x.op == 0) = false := by rw [h]; rfl
   have f1 : (x.op == 1) = false := by rw [h]; rfl
   have f3 : (x.op == 3) = true := by rw [h]; rfl
   have f5 : (x.op == 5) = false := by rw [h]; rfl
   have f6 : (x.op == 6) = false := by rw [h]; rfl
   have f9 : (x.op == 9) = false := by rw [h]; rfl
   have f10 : (x.op == 10) = false := by rw [h]; rfl
   have href : refE n x t = .ok t.S := by rw [refE, if_neg (by omega), if_neg (by omega), if_neg (fun hh => by have := hh.1; omega)]
   have kR := kG
   have hl1 : t.S.length = t.S.length := rfl
   have hex := hexe t.S
   cases d1 : decide (t.stack < po)
   case true =>
    have hstp : stp c.bl.length c.gl.length n x (l.drop (j + 1)) t = .error 27 := by
     rw [stp, if_neg (by rw [hf']; simp), href]
     show exeE x (l.drop (j + 1)) t.S t = _
     rw [hex, if_pos (.inl (by simpa using d1))]
    rw [hstp] at k5
    simp only at k5
    rw [if_neg hne0, ← k5]
    simp only [↓wpre, wall, simprocAttr, List.length_append, List.append_assoc, app_get_len, app_get_add, app_set_len, app_set_add, e0', e1', e9, e10, e5, e6, e7, e8, hdec, x4, insA_all, insA_len, wj, hj1, hsu, cf, hf, hm, w1, w42, hlast, hx2, f0, f1, f3, f5, f6, f9, f10, ce, d1]
    exact ⟨_, rfl⟩
   have d1' : ¬ t.stack < po := by simpa using d1
   have wP : IntKind.i64.wrap (t.stack - po) = t.stack - po := wrap_in (by unfold in64; omega)
   have wZ : IntKind.i64.wrap (t.stack - po + pu) = t.stack - po + pu := wrap_in (by unfold in64; omega)
   cases hlx : (l.drop (j + 1)).isEmpty
   case false =>
    rw [hlx] at hlast
    have hstp : stp c.bl.length c.gl.length n x (l.drop (j + 1)) t = .error 3 := by
     rw [stp, if_neg (by rw [hf']; simp), href]
     show exeE x (l.drop (j + 1)) t.S t = _
     rw [hex, if_neg (fun hh => hh.elim d1' fun hh => by have := hh.1; omega), if_pos (by rw [f3, hlx]; rfl)]
    rw [hstp] at k5
    simp only at k5
    rw [if_neg hne0, ← k5]
    simp only [↓wpre, wall, simprocAttr, List.length_append, List.append_assoc, app_get_len, app_get_add, app_set_len, app_set_add, e0', e1', e9, e10, e5, e6, e7, e8, hdec, x4, insA_all, insA_len, wj, hj1, hsu, cf, hf, hm, w1, w42, hlast, hx2, f0, f1, f3, f5, f6, f9, f10, ce, d1, wP, wZ, f01, f10b]
    exact ⟨_, rfl⟩
   rw [hlx] at hlast
   have henv : envI x t.binds = t.binds := by rw [envI, if_neg (by omega), if_neg (by omega)]
   cases d3 : (t.stack - po + pu != 1)
   case true =>
    have hstp : stp c.bl.length c.gl.length n x (l.drop (j + 1)) t = .error 27 := by
     rw [stp, if_neg (by rw [hf']; simp), href]
     show exeE x (l.drop (j + 1)) t.S t = _
     rw [hex, if_neg (fun hh => hh.elim d1' fun hh => by have := hh.1; omega), if_neg (by rw [f3, hlx]; decide), if_pos ⟨h, .inl (by simpa [bne] using d3)⟩]
    rw [hstp] at k5
    simp only at k5
    rw [if_neg hne0, ← k5]
    simp only [↓wpre, wall, simprocAttr, List.length_append, List.append_assoc, app_get_len, app_get_add, app_set_len, app_set_add, e0', e1', e9, e10, e5, e6, e7, e8, hdec, x4, insA_all, insA_len, wj, hj1, hsu, cf, hf, hm, w1, w42, hlast, hx2, f0, f1, f3, f5, f6, f9, f10, ce, d1, wP, wZ, f01, f10b, d3]
    exact ⟨_, rfl⟩
   cases d4 : (t.binds != 0)
   case true =>
    have hstp : stp c.bl.length c.gl.length n x (l.drop (j + 1)) t = .error 27 := by
     rw [stp, if_neg (by rw [hf']; simp), href]
     show exeE x (l.drop (j + 1)) t.S t = _
     rw [hex, if_neg (fun hh => hh.elim d1' fun hh => by have := hh.1; omega), if_neg (by rw [f3, hlx]; decide), if_pos ⟨h, .inr (by rw [henv]; simpa [bne] using d4)⟩]
    rw [hstp] at k5
    simp only at k5
    rw [if_neg hne0, ← k5]
    simp only [↓wpre, wall, simprocAttr, List.length_append, List.append_assoc, app_get_len, app_get_add, app_set_len, app_set_add, e0', e1', e9, e10, e5, e6, e7, e8, hdec, x4, insA_all, insA_len, wj, hj1, hsu, cf, hf, hm, w1, w42, hlast, hx2, f0, f1, f3, f5, f6, f9, f10, ce, d1, wP, wZ, f01, f10b, d3, d4]
    exact ⟨_, rfl⟩
   have hstp : stp c.bl.length c.gl.length n x (l.drop (j + 1)) t = .ok ⟨t.S, t.env, t.stack - po + pu, t.binds, max 0 (t.br - 1)⟩ := by
    rw [stp, if_neg (by rw [hf']; simp), href]
    show exeE x (l.drop (j + 1)) t.S t = _
    rw [hex, if_neg (fun hh => hh.elim d1' fun hh => by have := hh.1; omega), if_neg (by rw [f3, hlx]; decide), if_neg (fun hh => hh.2.elim (fun q => q (by simpa [bne] using d3)) fun q => q (by rw [henv]; simpa [bne] using d4)), show envI x t.env = t.env from by rw [envI, if_neg (by omega), if_neg (by omega)], show envI x t.binds = t.binds from by rw [envI, if_neg (by omega), if_neg (by omega)], show brI x t.br = max 0 (t.br - 1) from by rw [brI, if_neg (by omega)]]
   have kB := k3.step (by omega) he0 hstp
   rw [hstp] at k5
   simp only at k5
   simp only [↓wpre, wall, simprocAttr, List.length_append, List.append_assoc, app_get_len, app_get_add, app_set_len, app_set_add, e0', e1', e9, e10, e5, e6, e7, e8, hdec, x4, insA_all, insA_len, wj, hj1, hsu, cf, hf, hm, w1, w42, hlast, hx2, f0, f1, f3, f5, f6, f9, f10, ce, d1, wP, wZ, d3, d4, f01, f10b]
   exact EQ_in ⟨j + 1, by omega, by omega, rfl, e0', e1', e9, rfl, ⟨t.S, t.env, t.stack - po + pu, t.binds, max 0 (t.br - 1)⟩, by first | rfl | exact e5, rfl, by first | rfl | exact e7, rfl, kR, hl1.trans k2, kB, k5⟩
  ·have f0 : (x.op == 0) = false := by rw [h]; rfl
   have f1 : (x.op == 1) = false := by rw [h]; rfl
   have f3 : (x.op == 3) = false := by rw [h]; rfl
   have f5 : (x.op == 5) = true := by rw [h]; rfl
   have f6 : (x.op == 6) = false := by rw [h]; rfl
   have f9 : (x.op == 9) = false := by rw [h]; rfl
   have f10 : (x.op == 10) = false := by rw [h]; rfl
   have href : refE n x t = .ok t.S := by rw [refE, if_neg (by omega), if_neg (by omega), if_neg (fun hh => by have := hh.1; omega)]
   have kR := kG
   have hl1 : t.S.length = t.S.length := rfl
   have hex := hexe t.S
   cases d1 : decide (t.stack < po)
   case true =>
    have hstp : stp c.bl.length c.gl.length n x (l.drop (j + 1)) t = .error 27 := by
     rw [stp, if_neg (by rw [hf']; simp), href]
     show exeE x (l.drop (j + 1)) t.S t = _
     rw [hex, if_pos (.inl (by simpa using d1))]
    rw [hstp] at k5
    simp only at k5
    rw [if_neg hne0, ← k5]
    simp only [↓wpre, wall, simprocAttr, List.length_append, List.append_assoc, app_get_len, app_get_add, app_set_len, app_set_add, e0', e1', e9, e10, e5, e6, e7, e8, hdec, x4, insA_all, insA_len, wj, hj1, hsu, cf, hf, hm, w1, w42, hlast, hx2, f0, f1, f3, f5, f6, f9, f10, ce, d1]
    exact ⟨_, rfl⟩
   have d1' : ¬ t.stack < po := by simpa using d1
   have wP : IntKind.i64.wrap (t.stack - po) = t.stack - po := wrap_in (by unfold in64; omega)
   have wZ : IntKind.i64.wrap (t.stack - po + pu) = t.stack - po + pu := wrap_in (by unfold in64; omega)
   cases hlx : (l.drop (j + 1)).isEmpty
   case true =>
    rw [hlx] at hlast
    have hstp : stp c.bl.length c.gl.length n x (l.drop (j + 1)) t = .error 3 := by
     rw [stp, if_neg (by rw [hf']; simp), href]
     show exeE x (l.drop (j + 1)) t.S t = _
     rw [hex, if_neg (fun hh => hh.elim d1' fun hh => by have := hh.1; omega), if_pos (by rw [f3, hlx]; rfl)]
    rw [hstp] at k5
    simp only at k5
    rw [if_neg hne0, ← k5]
    simp only [↓wpre, wall, simprocAttr, List.length_append, List.append_assoc, app_get_len, app_get_add, app_set_len, app_set_add, e0', e1', e9, e10, e5, e6, e7, e8, hdec, x4, insA_all, insA_len, wj, hj1, hsu, cf, hf, hm, w1, w42, hlast, hx2, f0, f1, f3, f5, f6, f9, f10, ce, d1, wP, wZ, f01, f10b]
    exact ⟨_, rfl⟩
   rw [hlx] at hlast
   have hstp : stp c.bl.length c.gl.length n x (l.drop (j + 1)) t = .ok ⟨t.S, t.env, t.stack - po + pu, t.binds, x.a⟩ := by
    rw [stp, if_neg (by rw [hf']; simp), href]
    show exeE x (l.drop (j + 1)) t.S t = _
    rw [hex, if_neg (fun hh => hh.elim d1' fun hh => by have := hh.1; omega), if_neg (by rw [f3, hlx]; decide), if_neg (fun hh => by have := hh.1; omega), show envI x t.env = t.env from by rw [envI, if_neg (by omega), if_neg (by omega)], show envI x t.binds = t.binds from by rw [envI, if_neg (by omega), if_neg (by omega)], show brI x t.br = x.a from by rw [brI, if_pos h]]
   have kB := k3.step (by omega) he0 hstp
   rw [hstp] at k5
   simp only at k5
   simp only [↓wpre, wall, simprocAttr, List.length_append, List.append_assoc, app_get_len, app_get_add, app_set_len, app_set_add, e0', e1', e9, e10, e5, e6, e7, e8, hdec, x4, insA_all, insA_len, wj, hj1, hsu, cf, hf, hm, w1, w42, hlast, hx2, f0, f1, f3, f5, f6, f9, f10, ce, d1, wP, wZ, f01, f10b]
   exact EQ_in ⟨j + 1, by omega, by omega, rfl, e0', e1', e9, rfl, ⟨t.S, t.env, t.stack - po + pu, t.binds, x.a⟩, by first | rfl | exact e5, rfl, by first | rfl | exact e7, rfl, kR, hl1.trans k2, kB, k5⟩
  ·have f0 : (x.op == 0) = false := by rw [h]; rfl
   have f1 : (x.op == 1) = false := by rw [h]; rfl
   have f3 : (x.op == 3) = false := by rw [h]; rfl
   have f5 : (x.op == 5) = false := by rw [h]; rfl
   have f6 : (x.op == 6) = true := by rw [h]; rfl
   have f9 : (x.op == 9) = false := by rw [h]; rfl
   have f10 : (x.op == 10) = false := by rw [h]; rfl
   have wE : IntKind.i64.wrap (t.env + x.b) = t.env + x.b := wrap_in (by unfold in64; omega)
   have href : refE n x t = entE n t.S x.a (t.env + x.b) := by rw [refE, if_neg (by omega), if_pos h]
   obtain ⟨vr, sr, hr, cr⟩ := (rent_sh (V := V1) kG (n := n) (m := t.env + x.b) f3a (f5a (.inr h))).callRet rfl
   cases hre : entE n t.S x.a (t.env + x.b) with
   | error e =>
    have hne := ent_ne hre
    rw [hre] at hr href
    obtain ⟨rfl, rfl⟩ := hr
    have hstp : stp c.bl.length c.gl.length n x (l.drop (j + 1)) t = .error e := by rw [stp, if_neg (by rw [hf']; simp), href]
    rw [hstp] at k5
    simp only at k5
    rw [if_neg hne0, ← k5]
    simp only [↓wpre, wall, simprocAttr, List.length_append, List.append_assoc, app_get_len, app_get_add, app_set_len, app_set_add, e0', e1', e9, e10, e5, e6, e7, e8, hdec, x4, insA_all, insA_len, wj, hj1, hsu, cf, hf, hm, w1, w42, hlast, hx2, f0, f1, f3, f5, f6, f9, f10, wE, cr, hne]
    exact ⟨_, rfl⟩
   | ok S1 =>
    rw [hre] at hr href
    obtain ⟨rfl, rfl⟩ := hr
    have kR := kG.enter (ent_len hre)
    have hl1 := ent_len hre
    have hx3 := set_ne (x := .cells false (ints S1)) (j := si) hx2 hs1
    have hex := hexe S1
    cases d1 : decide (t.stack < po)
    case true =>
     have hstp : stp c.bl.length c.gl.length n x (l.drop (j + 1)) t = .error 27 := by
      rw [stp, if_neg (by rw [hf']; simp), href]
      show exeE x (l.drop (j + 1)) S1 t = _
      rw [hex, if_pos (.inl (by simpa using d1))]
     rw [hstp] at k5
     simp only at k5
     rw [if_neg hne0, ← k5]
     simp only [↓wpre, wall, simprocAttr, List.length_append, List.append_assoc, app_get_len, app_get_add, app_set_len, app_set_add, e0', e1', e9, e10, e5, e6, e7, e8, hdec, x4, insA_all, insA_len, wj, hj1, hsu, cf, hf, hm, w1, w42, hlast, hx2, hx3, f0, f1, f3, f5, f6, f9, f10, wE, cr, ce, d1]
     exact ⟨_, rfl⟩
    have d1' : ¬ t.stack < po := by simpa using d1
    have wP : IntKind.i64.wrap (t.stack - po) = t.stack - po := wrap_in (by unfold in64; omega)
    have wZ : IntKind.i64.wrap (t.stack - po + pu) = t.stack - po + pu := wrap_in (by unfold in64; omega)
    cases hlx : (l.drop (j + 1)).isEmpty
    case true =>
     rw [hlx] at hlast
     have hstp : stp c.bl.length c.gl.length n x (l.drop (j + 1)) t = .error 3 := by
      rw [stp, if_neg (by rw [hf']; simp), href]
      show exeE x (l.drop (j + 1)) S1 t = _
      rw [hex, if_neg (fun hh => hh.elim d1' fun hh => by have := hh.1; omega), if_pos (by rw [f3, hlx]; rfl)]
     rw [hstp] at k5
     simp only at k5
     rw [if_neg hne0, ← k5]
     simp only [↓wpre, wall, simprocAttr, List.length_append, List.append_assoc, app_get_len, app_get_add, app_set_len, app_set_add, e0', e1', e9, e10, e5, e6, e7, e8, hdec, x4, insA_all, insA_len, wj, hj1, hsu, cf, hf, hm, w1, w42, hlast, hx2, hx3, f0, f1, f3, f5, f6, f9, f10, wE, cr, ce, d1, wP, wZ, f01, f10b]
     exact ⟨_, rfl⟩
    rw [hlx] at hlast
    have hstp : stp c.bl.length c.gl.length n x (l.drop (j + 1)) t = .ok ⟨S1, t.env, t.stack - po + pu, t.binds, max 0 (t.br - 1)⟩ := by
     rw [stp, if_neg (by rw [hf']; simp), href]
     show exeE x (l.drop (j + 1)) S1 t = _
     rw [hex, if_neg (fun hh => hh.elim d1' fun hh => by have := hh.1; omega), if_neg (by rw [f3, hlx]; decide), if_neg (fun hh => by have := hh.1; omega), show envI x t.env = t.env from by rw [envI, if_neg (by omega), if_neg (by omega)], show envI x t.binds = t.binds from by rw [envI, if_neg (by omega), if_neg (by omega)], show brI x t.br = max 0 (t.br - 1) from by rw [brI, if_neg (by omega)]]
    have kB := k3.step (by omega) he0 hstp
    rw [hstp] at k5
    simp only at k5
    simp only [↓wpre, wall, simprocAttr, List.length_append, List.append_assoc, app_get_len, app_get_add, app_set_len, app_set_add, e0', e1', e9, e10, e5, e6, e7, e8, hdec, x4, insA_all, insA_len, wj, hj1, hsu, cf, hf, hm, w1, w42, hlast, hx2, hx3, f0, f1, f3, f5, f6, f9, f10, wE, cr, ce, d1, wP, wZ, f01, f10b]
    exact EQ_in ⟨j + 1, by omega, by omega, rfl, e0', e1', e9, rfl, ⟨S1, t.env, t.stack - po + pu, t.binds, max 0 (t.br - 1)⟩, by first | rfl | exact e5, rfl, by first | rfl | exact e7, rfl, kR, hl1.trans k2, kB, k5⟩
  ·have f0 : (x.op == 0) = false := by rw [h]; rfl
   have f1 : (x.op == 1) = false := by rw [h]; rfl
   have f3 : (x.op == 3) = false := by rw [h]; rfl
   have f5 : (x.op == 5) = false := by rw [h]; rfl
   have f6 : (x.op == 6) = false := by rw [h]; rfl
   have f9 : (x.op == 9) = true := by rw [h]; rfl
   have f10 : (x.op == 10) = false := by rw [h]; rfl
   have href : refE n x t = .ok t.S := by rw [refE, if_neg (by omega), if_neg (by omega), if_neg (fun hh => by have := hh.1; omega)]
   have kR := kG
   have hl1 : t.S.length = t.S.length := rfl
   have hex := hexe t.S
   cases d1 : decide (t.stack < po)
   case true =>
    have hstp : stp c.bl.length c.gl.length n x (l.drop (j + 1)) t = .error 27 := by
     rw [stp, if_neg (by rw [hf']; simp), href]
     show exeE x (l.drop (j + 1)) t.S t = _
     rw [hex, if_pos (.inl (by simpa using d1))]
    rw [hstp] at k5
    simp only at k5
    rw [if_neg hne0, ← k5]
    simp only [↓wpre, wall, simprocAttr, List.length_append, List.append_assoc, app_get_len, app_get_add, app_set_len, app_set_add, e0', e1', e9, e10, e5, e6, e7, e8, hdec, x4, insA_all, insA_len, wj, hj1, hsu, cf, hf, hm, w1, w42, hlast, hx2, f0, f1, f3, f5, f6, f9, f10, ce, d1]
    exact ⟨_, rfl⟩
   have d1' : ¬ t.stack < po := by simpa using d1
   have wP : IntKind.i64.wrap (t.stack - po) = t.stack - po := wrap_in (by unfold in64; omega)
   have wZ : IntKind.i64.wrap (t.stack - po + pu) = t.stack - po + pu := wrap_in (by unfold in64; omega)
   have wA : IntKind.i64.wrap (t.env + 1) = t.env + 1 := wrap_in (by unfold in64; omega)
   have wB : IntKind.i64.wrap (t.binds + 1) = t.binds + 1 := wrap_in (by unfold in64; omega)
   cases hlx : (l.drop (j + 1)).isEmpty
   case true =>
    rw [hlx] at hlast
    have hstp : stp c.bl.length c.gl.length n x (l.drop (j + 1)) t = .error 3 := by
     rw [stp, if_neg (by rw [hf']; simp), href]
     show exeE x (l.drop (j + 1)) t.S t = _
     rw [hex, if_neg (fun hh => hh.elim d1' fun hh => by have := hh.1; omega), if_pos (by rw [f3, hlx]; rfl)]
    rw [hstp] at k5
    simp only at k5
    rw [if_neg hne0, ← k5]
    simp only [↓wpre, wall, simprocAttr, List.length_append, List.append_assoc, app_get_len, app_get_add, app_set_len, app_set_add, e0', e1', e9, e10, e5, e6, e7, e8, hdec, x4, insA_all, insA_len, wj, hj1, hsu, cf, hf, hm, w1, w42, hlast, hx2, f0, f1, f3, f5, f6, f9, f10, ce, d1, wP, wZ, wA, wB, f01, f10b]
    exact ⟨_, rfl⟩
   rw [hlx] at hlast
   have hstp : stp c.bl.length c.gl.length n x (l.drop (j + 1)) t = .ok ⟨t.S, t.env + 1, t.stack - po + pu, t.binds + 1, max 0 (t.br - 1)⟩ := by
    rw [stp, if_neg (by rw [hf']; simp), href]
    show exeE x (l.drop (j + 1)) t.S t = _
    rw [hex, if_neg (fun hh => hh.elim d1' fun hh => by have := hh.1; omega), if_neg (by rw [f3, hlx]; decide), if_neg (fun hh => by have := hh.1; omega), show envI x t.env = t.env + 1 from by rw [envI, if_pos h], show envI x t.binds = t.binds + 1 from by rw [envI, if_pos h], show brI x t.br = max 0 (t.br - 1) from by rw [brI, if_neg (by omega)]]
   have kB := k3.step (by omega) he0 hstp
   rw [hstp] at k5
   simp only at k5
   simp only [↓wpre, wall, simprocAttr, List.length_append, List.append_assoc, app_get_len, app_get_add, app_set_len, app_set_add, e0', e1', e9, e10, e5, e6, e7, e8, hdec, x4, insA_all, insA_len, wj, hj1, hsu, cf, hf, hm, w1, w42, hlast, hx2, f0, f1, f3, f5, f6, f9, f10, ce, d1, wP, wZ, wA, wB, f01, f10b]
   exact EQ_in ⟨j + 1, by omega, by omega, rfl, e0', e1', e9, rfl, ⟨t.S, t.env + 1, t.stack - po + pu, t.binds + 1, max 0 (t.br - 1)⟩, by first | rfl | exact e5, rfl, by first | rfl | exact e7, rfl, kR, hl1.trans k2, kB, k5⟩
  ·have f0 : (x.op == 0) = false := by rw [h]; rfl
   have f1 : (x.op == 1) = false := by rw [h]; rfl
   have f3 : (x.op == 3) = false := by rw [h]; rfl
   have f5 : (x.op == 5) = false := by rw [h]; rfl
   have f6 : (x.op == 6) = false := by rw [h]; rfl
   have f9 : (x.op == 9) = false := by rw [h]; rfl
   have f10 : (x.op == 10) = true := by rw [h]; rfl
   have href : refE n x t = .ok t.S := by rw [refE, if_neg (by omega), if_neg (by omega), if_neg (fun hh => by have := hh.1; omega)]
   have kR := kG
   have hl1 : t.S.length = t.S.length := rfl
   have hex := hexe t.S
   cases d1 : decide (t.stack < po)
   case true =>
    have hstp : stp c.bl.length c.gl.length n x (l.drop (j + 1)) t = .error 27 := by
     rw [stp, if_neg (by rw [hf']; simp), href]
     show exeE x (l.drop (j + 1)) t.S t = _
     rw [hex, if_pos (.inl (by simpa using d1))]
    rw [hstp] at k5
    simp only at k5
    rw [if_neg hne0, ← k5]
    simp only [↓wpre, wall, simprocAttr, List.length_append, List.append_assoc, app_get_len, app_get_add, app_set_len, app_set_add, e0', e1', e9, e10, e5, e6, e7, e8, hdec, x4, insA_all, insA_len, wj, hj1, hsu, cf, hf, hm, w1, w42, hlast, hx2, f0, f1, f3, f5, f6, f9, f10, ce, d1]
    exact ⟨_, rfl⟩
   have d1' : ¬ t.stack < po := by simpa using d1
   have wP : IntKind.i64.wrap (t.stack - po) = t.stack - po := wrap_in (by unfold in64; omega)
   have wZ : IntKind.i64.wrap (t.stack - po + pu) = t.stack - po + pu := wrap_in (by unfold in64; omega)
   cases d2 : (t.binds == 0)
   case true =>
    have hstp : stp c.bl.length c.gl.length n x (l.drop (j + 1)) t = .error 27 := by
     rw [stp, if_neg (by rw [hf']; simp), href]
     show exeE x (l.drop (j + 1)) t.S t = _
     rw [hex, if_pos (.inr ⟨h, eq_of_beq d2⟩)]
    rw [hstp] at k5
    simp only at k5
    rw [if_neg hne0, ← k5]
    simp only [↓wpre, wall, simprocAttr, List.length_append, List.append_assoc, app_get_len, app_get_add, app_set_len, app_set_add, e0', e1', e9, e10, e5, e6, e7, e8, hdec, x4, insA_all, insA_len, wj, hj1, hsu, cf, hf, hm, w1, w42, hlast, hx2, f0, f1, f3, f5, f6, f9, f10, ce, d1, d2]
    exact ⟨_, rfl⟩
   have d2' := ne_of_beq_false d2
   have wA : IntKind.i64.wrap (t.env - 1) = t.env - 1 := wrap_in (by unfold in64; omega)
   have wB : IntKind.i64.wrap (t.binds - 1) = t.binds - 1 := wrap_in (by unfold in64; omega)
   cases hlx : (l.drop (j + 1)).isEmpty
   case true =>
    rw [hlx] at hlast
    have hstp : stp c.bl.length c.gl.length n x (l.drop (j + 1)) t = .error 3 := by
     rw [stp, if_neg (by rw [hf']; simp), href]
     show exeE x (l.drop (j + 1)) t.S t = _
     rw [hex, if_neg (fun hh => hh.elim d1' fun hh => d2' hh.2), if_pos (by rw [f3, hlx]; rfl)]
    rw [hstp] at k5
    simp only at k5
    rw [if_neg hne0, ← k5]
    simp only [↓wpre, wall, simprocAttr, List.length_append, List.append_assoc, app_get_len, app_get_add, app_set_len, app_set_add, e0', e1', e9, e10, e5, e6, e7, e8, hdec, x4, insA_all, insA_len, wj, hj1, hsu, cf, hf, hm, w1, w42, hlast, hx2, f0, f1, f3, f5, f6, f9, f10, ce, d1, wP, wZ, d2, wA, wB, f01, f10b]
    exact ⟨_, rfl⟩
   rw [hlx] at hlast
   have hstp : stp c.bl.length c.gl.length n x (l.drop (j + 1)) t = .ok ⟨t.S, t.env - 1, t.stack - po + pu, t.binds - 1, max 0 (t.br - 1)⟩ := by
    rw [stp, if_neg (by rw [hf']; simp), href]
    show exeE x (l.drop (j + 1)) t.S t = _
    rw [hex, if_neg (fun hh => hh.elim d1' fun hh => d2' hh.2), if_neg (by rw [f3, hlx]; decide), if_neg (fun hh => by have := hh.1; omega), show envI x t.env = t.env - 1 from by rw [envI, if_neg (by omega), if_pos h], show envI x t.binds = t.binds - 1 from by rw [envI, if_neg (by omega), if_pos h], show brI x t.br = max 0 (t.br - 1) from by rw [brI, if_neg (by omega)]]
   have kB := k3.step (by omega) he0 hstp
   rw [hstp] at k5
   simp only at k5
   simp only [↓wpre, wall, simprocAttr, List.length_append, List.append_assoc, app_get_len, app_get_add, app_set_len, app_set_add, e0', e1', e9, e10, e5, e6, e7, e8, hdec, x4, insA_all, insA_len, wj, hj1, hsu, cf, hf, hm, w1, w42, hlast, hx2, f0, f1, f3, f5, f6, f9, f10, ce, d1, wP, wZ, d2, wA, wB, f01, f10b]
   exact EQ_in ⟨j + 1, by omega, by omega, rfl, e0', e1', e9, rfl, ⟨t.S, t.env - 1, t.stack - po + pu, t.binds - 1, max 0 (t.br - 1)⟩, by first | rfl | exact e5, rfl, by first | rfl | exact e7, rfl, kR, hl1.trans k2, kB, k5⟩
  ·have href : refE n x t = .ok t.S := by rw [refE, if_neg (ne_of_beq_false f1), if_neg (ne_of_beq_false f6), if_neg (fun hh => ne_of_beq_false f0 hh.1)]
   have kR := kG
   have hl1 : t.S.length = t.S.length := rfl
   have hex := hexe t.S
   cases d1 : decide (t.stack < po)
   case true =>
    have hstp : stp c.bl.length c.gl.length n x (l.drop (j + 1)) t = .error 27 := by
     rw [stp, if_neg (by rw [hf']; simp), href]
     show exeE x (l.drop (j + 1)) t.S t = _
     rw [hex, if_pos (.inl (by simpa using d1))]
    rw [hstp] at k5
    simp only at k5
    rw [if_neg hne0, ← k5]
    simp only [↓wpre, wall, simprocAttr, List.length_append, List.append_assoc, app_get_len, app_get_add, app_set_len, app_set_add, e0', e1', e9, e10, e5, e6, e7, e8, hdec, x4, insA_all, insA_len, wj, hj1, hsu, cf, hf, hm, w1, w42, hlast, hx2, f0, f1, f3, f5, f6, f9, f10, ce, d1]
    exact ⟨_, rfl⟩
   have d1' : ¬ t.stack < po := by simpa using d1
   have wP : IntKind.i64.wrap (t.stack - po) = t.stack - po := wrap_in (by unfold in64; omega)
   have wZ : IntKind.i64.wrap (t.stack - po + pu) = t.stack - po + pu := wrap_in (by unfold in64; omega)
   cases hlx : (l.drop (j + 1)).isEmpty
   case true =>
    rw [hlx] at hlast
    have hstp : stp c.bl.length c.gl.length n x (l.drop (j + 1)) t = .error 3 := by
     rw [stp, if_neg (by rw [hf']; simp), href]
     show exeE x (l.drop (j + 1)) t.S t = _
     rw [hex, if_neg (fun hh => hh.elim d1' fun hh => ne_of_beq_false f10 hh.1), if_pos (by rw [f3, hlx]; rfl)]
    rw [hstp] at k5
    simp only at k5
    rw [if_neg hne0, ← k5]
    simp only [↓wpre, wall, simprocAttr, List.length_append, List.append_assoc, app_get_len, app_get_add, app_set_len, app_set_add, e0', e1', e9, e10, e5, e6, e7, e8, hdec, x4, insA_all, insA_len, wj, hj1, hsu, cf, hf, hm, w1, w42, hlast, hx2, f0, f1, f3, f5, f6, f9, f10, ce, d1, wP, wZ, f01, f10b]
    exact ⟨_, rfl⟩
   rw [hlx] at hlast
   have hstp : stp c.bl.length c.gl.length n x (l.drop (j + 1)) t = .ok ⟨t.S, t.env, t.stack - po + pu, t.binds, max 0 (t.br - 1)⟩ := by
    rw [stp, if_neg (by rw [hf']; simp), href]
    show exeE x (l.drop (j + 1)) t.S t = _
    rw [hex, if_neg (fun hh => hh.elim d1' fun hh => ne_of_beq_false f10 hh.1), if_neg (by rw [f3, hlx]; decide), if_neg (fun hh => ne_of_beq_false f3 hh.1), show envI x t.env = t.env from by rw [envI, if_neg (ne_of_beq_false f9), if_neg (ne_of_beq_false f10)], show envI x t.binds = t.binds from by rw [envI, if_neg (ne_of_beq_false f9), if_neg (ne_of_beq_false f10)], show brI x t.br = max 0 (t.br - 1) from by rw [brI, if_neg (ne_of_beq_false f5)]]
   have kB := k3.step (by omega) he0 hstp
   rw [hstp] at k5
   simp only at k5
   simp only [↓wpre, wall, simprocAttr, List.length_append, List.append_assoc, app_get_len, app_get_add, app_set_len, app_set_add, e0', e1', e9, e10, e5, e6, e7, e8, hdec, x4, insA_all, insA_len, wj, hj1, hsu, cf, hf, hm, w1, w42, hlast, hx2, f0, f1, f3, f5, f6, f9, f10, ce, d1, wP, wZ, f01, f10b]
   exact EQ_in ⟨j + 1, by omega, by omega, rfl, e0', e1', e9, rfl, ⟨t.S, t.env, t.stack - po + pu, t.binds, max 0 (t.br - 1)⟩, by first | rfl | exact e5, rfl, by first | rfl | exact e7, rfl, kR, hl1.trans k2, kB, k5⟩
 ·have hdec : decide ((j : Int) < l.length) = false := by simpa using hge
  rw [List.drop_eq_nil_of_le (by omega), irun] at k5
  cases d2 : (((l.length : Nat) : Int) == 0)
  ·have d2' := ne_of_beq_false d2
   rw [if_neg (fun e => d2' (by rw [e]; rfl)), ← k5]
   simp only [↓wpre, wall, simprocAttr, List.length_append, List.append_assoc, app_get_len, app_get_add, app_set_len, app_set_add, e0', e1', e9, e10, hdec, insA_len, d2]
   exact ⟨_, rfl, k1, k2⟩
  ·have : l = [] := by have := eq_of_beq d2; exact List.length_eq_zero_iff.1 (by omega)
   rw [if_pos this]
   simp only [↓wpre, wall, simprocAttr, List.length_append, List.append_assoc, app_get_len, app_get_add, app_set_len, app_set_add, e0', e1', e9, e10, hdec, insA_len, d2]
   exact ⟨_, rfl⟩
end
end Go.Proofs.Eng
namespace Go.Proofs.Eng
open Go Go.Proofs Go.RowKit
set_option maxRecDepth 100000
theorem cell_keep {B : Nat} {w w' : World} (hB : Below B w w') {b o : Nat} {v : Value} (h : w.cell? ⟨b, o, none⟩ = some v) (hb : b < B) : w'.cell? ⟨b, o, none⟩ = some v := by
 rw [← h]; exact World.cell?_of_block (w := w) (a := ⟨b, o, none⟩) (hB.block b hb)
theorem pure_callsB {P : Program} {md : FuncId → Md} {pfs : FuncId → Option PF} (hS : Sound P (run md pfs)) {f : FuncId} {args : List AV} {PR : AV → Prop} (h : Out md pfs f args PR fun _ => False) (ha : pureAVs args = true) {g : Gh} {s : ASt} {w : World} {vs : List Value} (hI : Inv g s w) (hr : RepL g s w args vs) :
  Calls P f vs.toArray w fun e w' => ∃ v u, PR v ∧ e = .returned u ∧ Below w.heap.size w w' ∧ Rep g s w' v u := by
 obtain ⟨out, s1, out', h1, h2, h3⟩ := h
 have hInv0 : Inv (Gh.empty fun b o => g.wr s b o) ⟨[], []⟩ w := Inv.empty hI.known fun b o h => hI.wr_lt h
 have hle : FzLe s s := FzLe.refl s
 have hok : ∀ b o, ¬ g.wr s b o → ¬ (Gh.empty fun b o => g.wr s b o).wr ⟨[], []⟩ b o := by
  rintro b o hn (⟨i, l, h1, _⟩ | ⟨id, q, h1, _⟩ | h1)
  ·simp [Gh.empty] at h1
  ·simp [Gh.empty] at h1
  ·exact hn h1
 have hfz : ∀ i b o, g.mu i = some b → Frozen s i → ¬ (Gh.empty fun b o => g.wr s b o).wr ⟨[], []⟩ b o := by
  rintro i b o hb hf (⟨i, l, h1, _⟩ | ⟨id, q, h1, _⟩ | h1)
  ·simp [Gh.empty] at h1
  ·simp [Gh.empty] at h1
  ·exact frozen_ok hle hI i b o hb hf h1
 have hfold : args.foldl (frz 20) s = s := frz_all s ha
 have hr0 := list_rep (ok := Frozen s) (frz_le 20) (purify_rep hI hok (Frozen s) hfz 20 fun h => absurd h (by decide)) (purify_all s ha) hr (FzLe.refl s) (fun i hi => by rw [hfold] at hi; exact hi)
 obtain ⟨_, hcalls⟩ := hS f args _ out s1 h1
 refine (hcalls _ w vs hInv0 hr0).mono ?_
 rintro e w' ⟨g1, hI1, hE1, hO1⟩
 have hblk : ∀ b, b < w.heap.size → w'.heap[b]? = w.heap[b]? := fun b hb => (hE1.obj b hb (by rintro (⟨i, h1⟩ | ⟨id, q, h1, _⟩) <;> simp [Gh.empty] at h1)).1
 have hbel : Below w.heap.size w w' := ⟨hE1.os, hE1.tape, hE1.output.1, hE1.size, hblk⟩
 have hok1 : ∀ b o, ¬ g1.wr s1 b o → ¬ g.wr s b o := fun b o hn hw => hn (.inr (.inr (by rw [hE1.fb]; exact hw)))
 have hfz1 : ∀ i b o, g1.mu i = some b → True → ¬ g.wr s b o := fun i b o hb _ hw => hI1.fbmu i b o hb (by rw [hE1.fb]; exact hw)
 have pr : ∀ v v' u, purify 1020 s1 v = some v' → Rep g1 s1 w' v u → Rep g s w' v' u := fun v v' u hp hr => purify_rep hI1 hok1 (fun _ => True) hfz1 1020 (fun _ id q o h hw => hI1.fbow id q o h (by rw [hE1.fb]; exact hw)) v v' u s1 hp hr (FzLe.refl _) fun _ _ => trivial
 cases out with
 | ret v =>
  obtain ⟨v', hv', rfl⟩ := optMap h2
  cases e with
  | returned u => exact ⟨v', u, h3, rfl, hbel, pr v v' u hv' hO1⟩
  | panicked _ => exact hO1.elim
  | outgrown => exact hO1.elim
 | pan v =>
  obtain ⟨v', hv', rfl⟩ := optMap h2
  exact h3.elim
end Go.Proofs.Eng
namespace Go.Proofs.Eng
open Go Go.Proofs Go.RowKit
set_option maxRecDepth 100000
def insOf : AV → Option Ins
 | .agg [.v (.int .i64 op), .v (.int .i64 a), .v (.int .i64 b), .v (.string n)] => some ⟨op, a, b, n⟩
 | _ => none
def blOf : AV → Option (List Ins)
 | .sl l t => if t.pure = true then mapO insOf l else none
 | _ => none
def strOf : AV → Option ByteArray
 | .v (.string n) => some n
 | _ => none
def intOf : AV → Option Int
 | .v (.int .i64 n) => some n
 | _ => none
def cdOf : AV → Option Cd
 | .agg [.sl Bs t1, .sl gs t2, .sl ss t3] => if t1.pure = true ∧ t2.pure = true ∧ t3.pure = true then (match mapO blOf Bs, mapO strOf gs, mapO intOf ss with
  | some b, some g, some s => some ⟨b, g, s⟩
  | _, _, _ => none) else none
 | _ => none
theorem insOf_some {a : AV} {x : Ins} (h : insOf a = some x) : a = x.av := by
 unfold insOf at h
 split at h
 ·simp only [Option.some.injEq] at h; subst h; rfl
 ·cases h
theorem mapO_lis {α : Type} {f : AV → Option α} {R : α → AV → Prop} (hf : ∀ a x, f a = some x → R x a) : ∀ {al : List AV} {l : List α}, mapO f al = some l → LIs R l al
 | [], l, h => by simp only [mapO, Option.some.injEq] at h; subst h; trivial
 | a :: al, l, h => by
  simp only [mapO] at h
  split at h
  ·rename_i x hx
   split at h
   ·rename_i l' hl'
    simp only [Option.some.injEq] at h; subst h
    exact ⟨hf a x hx, mapO_lis hf hl'⟩
   ·cases h
  ·cases h
theorem lis_ins : ∀ {l : List Ins} {al : List AV}, LIs (fun x a => a = x.av) l al → al = insA l
 | [], [], _ => rfl
 | [], _ :: _, h => h.elim
 | _ :: _, [], h => h.elim
 | x :: l, a :: al, ⟨h1, h2⟩ => by rw [h1, lis_ins h2]; rfl
theorem lis_nm : ∀ {l : List ByteArray} {al : List AV}, LIs (fun x a => a = .str x) l al → al = nmA l
 | [], [], _ => rfl
 | [], _ :: _, h => h.elim
 | _ :: _, [], h => h.elim
 | x :: l, a :: al, ⟨h1, h2⟩ => by rw [h1, lis_nm h2]; rfl
theorem lis_int : ∀ {l : List Int} {al : List AV}, LIs (fun x a => a = .int x) l al → al = ints l
 | [], [], _ => rfl
 | [], _ :: _, h => h.elim
 | _ :: _, [], h => h.elim
 | x :: l, a :: al, ⟨h1, h2⟩ => by rw [h1, lis_int h2]; rfl
theorem cdOf_some {a : AV} {c : Cd} (h : cdOf a = some c) : ∃ Bs t1 t2 t3, a = .agg [.sl Bs t1, .sl (nmA c.gl) t2, .sl (ints c.st) t3] ∧ LIs (fun b x => ∃ t, x = .sl (insA b) t ∧ t.pure = true) c.bl Bs ∧ t1.pure = true ∧ t2.pure = true ∧ t3.pure = true := by
 unfold cdOf at h
 split at h
 ·rename_i Bs t1 gs t2 ss t3
  split at h
  ·rename_i hp
   split at h
   ·rename_i b g s e1 e2 e3
    simp only [Option.some.injEq] at h; subst h
    have h1 : LIs (fun b x => ∃ t, x = .sl (insA b) t ∧ t.pure = true) b Bs := mapO_lis (fun a x hx => by
     unfold blOf at hx
     split at hx
     ·rename_i l t
      split at hx
      ·rename_i ht
       exact ⟨t, by rw [show l = insA x from lis_ins (mapO_lis (R := fun x a => a = x.av) (fun a x h => insOf_some h) hx)], ht⟩
      ·cases hx
     ·cases hx) e1
    have h2 := lis_nm (mapO_lis (R := fun x a => a = .str x) (fun a x hx => by
     unfold strOf at hx
     split at hx
     ·simp only [Option.some.injEq] at hx; subst hx; rfl
     ·cases hx) e2)
    have h3 := lis_int (mapO_lis (R := fun x a => a = .int x) (fun a x hx => by
     unfold intOf at hx
     split at hx
     ·simp only [Option.some.injEq] at hx; subst hx; rfl
     ·cases hx) e3)
    exact ⟨Bs, t1, t2, t3, by rw [h2, h3], h1, hp.1, hp.2.1, hp.2.2⟩
   ·cases h
  ·cases h
 ·cases h
theorem flat_one : ∀ {l : List AV}, (∀ x ∈ l, x.cells = [x]) → flat l = l
 | [], _ => rfl
 | x :: l, h => by
  rw [flat_cons, h x (by simp), flat_one fun y hy => h y (by simp [hy])]; rfl
theorem below_rep {g : Gh} {s : ASt} {w w1 : World} {l : List AV} {vs : List Value} (hI : Inv g s w) (hr : RepL g s w l vs) (hb : Below w.heap.size w w1) : Inv g s w1 ∧ RepL g s w1 l vs := by
 have hE : Ext g s w g s w1 := Ext.same hb.size hb.block hb.os hb.tape ⟨hb.output, fun d => d.elim⟩
 exact ⟨hI.keep hE fun b h => hb.block b (hI.has_lt h), hr.mono hE⟩
theorem lis_le {l : List (List Ins)} {Bs : List AV} (h : LIs (fun b x => ∃ t, x = .sl (insA b) t ∧ t.pure = true) l Bs) (hl : ∀ b ∈ l, b.length ≤ lenB) : LIs blIs l Bs :=
 (h.mono (R' := blIs) fun b hb a ⟨t, e, ht⟩ => ⟨t, e, ht, hl b hb⟩)
theorem mapO_of {α : Type} {f : AV → Option α} {R : α → AV → Prop} (hf : ∀ x a, R x a → f a = some x) : ∀ {l : List α} {al : List AV}, LIs R l al → mapO f al = some l
 | [], [], _ => rfl
 | [], _ :: _, h => h.elim
 | _ :: _, [], h => h.elim
 | x :: l, a :: al, ⟨h1, h2⟩ => by rw [mapO, hf x a h1, mapO_of hf h2]
theorem ins_of : ∀ (l : List Ins), mapO insOf (insA l) = some l
 | [] => rfl
 | x :: l => by
  have := ins_of l
  rw [insA] at this ⊢
  rw [List.map_cons, mapO, this]; rfl
theorem nm_of : ∀ (l : List ByteArray), mapO strOf (nmA l) = some l
 | [] => rfl
 | x :: l => by
  have := nm_of l
  rw [nmA] at this ⊢
  rw [List.map_cons, mapO, this]; rfl
theorem int_of : ∀ (l : List Int), mapO intOf (ints l) = some l
 | [] => rfl
 | x :: l => by
  have := int_of l
  rw [ints] at this ⊢
  rw [List.map_cons, mapO, this]; rfl
theorem cdOf_of {c : Cd} {a : AV} (h : c.Is a) : cdOf a = some c := by
 obtain ⟨Bs, t1, t2, t3, rfl, g1, g2, g3, g4, _⟩ := h
 have h1 : mapO blOf Bs = some c.bl := mapO_of (R := blIs) (fun l a ⟨t, e, ht, _⟩ => by rw [e, blOf, if_pos ht, ins_of]) g1
 rw [cdOf, if_pos ⟨g2, g3, g4⟩, h1, nm_of, int_of]
end Go.Proofs.Eng
