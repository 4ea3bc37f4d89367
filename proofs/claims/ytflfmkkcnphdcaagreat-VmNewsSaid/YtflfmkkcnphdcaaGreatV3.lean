/- The reference: the form of an instruction. No conditions beyond those in the theorems. -/
import Derived.Test.YtflfmkkcnphdcaaGreatV1
set_option linter.all false
set_option linter.deprecated false
set_option linter.unnecessarySimpa false
set_option linter.unusedVariables false
set_option linter.unusedSimpArgs false
set_option linter.defProp false
namespace Go.Proofs.Eng
open Go Go.Proofs
set_option maxRecDepth 100000
set_option maxHeartbeats 16000000
theorem starts_ret {c : Cd} {a : AV} (h : c.Is a) (hn : ∀ g ∈ c.gl, g.size ≤ lenB) : Out md pfs 73 [a] (· = .int c.outE) fun _ => False := by
 obtain ⟨Bs, t1, t2, t3, rfl, g1, g2, g3, g4, g5, g6, g7⟩ := id h
 have hBl := g1.len
 refine out_of pf73_is (Nat.le_of_ble_eq_true rfl) ?_
 have hR : c.outE = if c.bl = [] ∨ c.st.length ≠ c.gl.length ∨ (c.st.any fun s => decide (s < 1) || decide ((c.bl.length : Int) ≤ s)) = true ∨ twice [] c.st = true then 3 else if (c.gl.any fun g => !isName g) = true then 29 else if twice [] c.gl = true then 8 else 0 := rfl
 have hbl : c.bl = [] ↔ Bs.length = 0 := by rw [hBl]; exact ⟨fun h => by rw [h]; rfl, fun h => List.length_eq_zero_iff.1 h⟩
 cases q1 : (((Bs.length : Nat) : Int) == 0)
 case true =>
  have q1' : c.bl = [] := by rw [hbl]; have := eq_of_beq q1; omega
  rw [hR, if_pos (.inl q1')]
  simp only [pf73, ↓wpre, wall, simprocAttr, List.length_append, List.append_assoc, app_get_len, app_get_add, app_set_len, app_set_add, ints_len, nmA_len, q1]
 have q1' : ¬ c.bl = [] := by rw [hbl]; have := ne_of_beq_false q1; omega
 cases q2 : (((c.st.length : Nat) : Int) != ((c.gl.length : Nat) : Int))
 case true =>
  have q2' : c.st.length ≠ c.gl.length := by simp only [bne_iff_ne, ne_eq] at q2; omega
  rw [hR, if_pos (.inr (.inl q2'))]
  simp only [pf73, ↓wpre, wall, simprocAttr, List.length_append, List.append_assoc, app_get_len, app_get_add, app_set_len, app_set_add, ints_len, nmA_len, q1, q2]
 have q2' : c.st.length = c.gl.length := by simp only [bne_eq_false_iff_eq] at q2; omega
 simp only [pf73, ↓wpre, wall, simprocAttr, List.length_append, List.append_assoc, app_get_len, app_get_add, app_set_len, app_set_add, ints_len, nmA_len, q1, q2]
 refine W_loopE (fun i => c.st.length - i) (fun i E H T => E 1 = .ptr 0 0 ∧ E 3 = .int i ∧ i ≤ c.st.length ∧ ((c.st.take i).any fun s => decide (s < 1) || decide ((c.bl.length : Int) ≤ s)) = false ∧ twice (c.st.take i) (c.st.drop i) = twice [] c.st ∧ ∃ G, H = .cells false [.sl Bs t1, .sl (nmA c.gl) t2, .sl (ints c.st) t3] :: G) ?_ 0 ⟨rfl, rfl, Nat.zero_le _, rfl, rfl, _, rfl⟩
 rintro i E H T ⟨e1, e3, hi, hb, htw, G, rfl⟩
 rcases Nat.lt_or_ge i c.st.length with hlt | hge
 ·have hdec : decide ((i : Int) < c.st.length) = true := by simpa using hlt
  obtain ⟨x, x0, x4⟩ := ints_at hlt
  have hdr : c.st.drop i = x :: c.st.drop (i + 1) := by
   obtain ⟨h, rfl⟩ := List.getElem?_eq_some_iff.1 x0
   exact List.drop_eq_getElem_cons h
  have htk : c.st.take (i + 1) = c.st.take i ++ [x] := by rw [List.take_add_one, x0]; rfl
  have hbad : (decide (x < 1) || decide ((c.bl.length : Int) ≤ x)) = true → c.outE = 3 := fun hx => by
   rw [hR, if_pos (.inr (.inr (.inl (List.any_eq_true.2 ⟨x, List.mem_of_getElem? x0, hx⟩))))]
  cases c1 : decide (x < 1)
  case true =>
   rw [hbad (by rw [c1]; rfl)]
   simp only [↓wpre, wall, simprocAttr, List.length_append, List.append_assoc, app_get_len, app_get_add, app_set_len, app_set_add, e1, e3, hdec, x4, ints_all, ints_len, c1]
  cases c2 : decide (x ≥ ((Bs.length : Nat) : Int))
  case true =>
   rw [hbad (by rw [c1, Bool.false_or]; simp only [decide_eq_true_eq] at c2 ⊢; omega)]
   simp only [↓wpre, wall, simprocAttr, List.length_append, List.append_assoc, app_get_len, app_get_add, app_set_len, app_set_add, e1, e3, hdec, x4, ints_all, ints_len, c1, c2]
  simp only [↓wpre, wall, simprocAttr, List.length_append, List.append_assoc, app_get_len, app_get_add, app_set_len, app_set_add, e1, e3, hdec, x4, ints_all, ints_len, c1, c2]
  rw [hdr, twice, ← htk] at htw
  refine W_loopE (fun j => i - j) (fun j E H T => E 1 = .ptr 0 0 ∧ E 3 = .int i ∧ E 4 = .int j ∧ j ≤ i ∧ x ∉ c.st.take j ∧ ∃ G, H = .cells false [.sl Bs t1, .sl (nmA c.gl) t2, .sl (ints c.st) t3] :: G) ?_ 0 ⟨e1, e3, rfl, Nat.zero_le _, by simp, _, rfl⟩
  rintro j E H T ⟨e1, e3, e4, hj, hnx, G, rfl⟩
  rcases Nat.lt_or_ge j i with hlt2 | hge2
  ·have hdec2 : decide ((j : Int) < i) = true := by simpa using hlt2
   obtain ⟨y, y0, y4⟩ := ints_at (show j < c.st.length by omega)
   have htj : c.st.take (j + 1) = c.st.take j ++ [y] := by rw [List.take_add_one, y0]; rfl
   cases hxy : (y == x)
   ·have hne := ne_of_beq_false hxy
    simp only [↓wpre, wall, simprocAttr, List.length_append, List.append_assoc, app_get_len, app_get_add, app_set_len, app_set_add, e1, e3, e4, hdec2, x4, y4, ints_all, ints_len, hxy]
    exact EQ_in ⟨j + 1, by omega, e1, e3, next_ixv (by omega), by omega, by rw [htj]; simp [hnx, Ne.symm hne], _, rfl⟩
   ·have he := eq_of_beq hxy
    have hin : x ∈ c.st.take i := by
     rw [← he]
     exact List.mem_take_iff_getElem.2 ⟨j, by omega, (List.getElem?_eq_some_iff.1 y0).2⟩
    have : twice [] c.st = true := by rw [← htw, decide_eq_true hin]; rfl
    rw [hR, if_pos (.inr (.inr (.inr this)))]
    simp only [↓wpre, wall, simprocAttr, List.length_append, List.append_assoc, app_get_len, app_get_add, app_set_len, app_set_add, e1, e3, e4, hdec2, x4, y4, ints_all, ints_len, hxy]
  ·have hji : j = i := by omega
   have hdec2 : decide ((j : Int) < i) = false := by simpa using hge2
   simp only [↓wpre, wall, simprocAttr, List.length_append, List.append_assoc, app_get_len, app_get_add, app_set_len, app_set_add, e1, e3, e4, hdec2]
   rw [hji] at hnx
   have hb2 : (decide (x < 1) || decide ((c.bl.length : Int) ≤ x)) = false := by
    rw [c1, Bool.false_or]; simp only [decide_eq_false_iff_not] at c2 ⊢; omega
   exact EQ_in ⟨i + 1, by omega, e1, next_ixv (by omega), by omega, by rw [htk, List.any_append, hb]; simp only [List.any_cons, List.any_nil, hb2]; rfl, by rw [decide_eq_false hnx, Bool.false_or] at htw; exact htw, _, rfl⟩
 ·have hdec : decide ((i : Int) < c.st.length) = false := by simpa using hge
  rw [List.take_of_length_le (by omega)] at hb htw
  rw [List.drop_eq_nil_of_le (by omega), twice] at htw
  have hno : ¬ (c.bl = [] ∨ c.st.length ≠ c.gl.length ∨ (c.st.any fun s => decide (s < 1) || decide ((c.bl.length : Int) ≤ s)) = true ∨ twice [] c.st = true) := by
   rintro (h | h | h | h)
   ·exact q1' h
   ·exact h q2'
   ·rw [hb] at h; cases h
   ·rw [← htw] at h; cases h
  have hR2 : c.outE = if (c.gl.any fun g => !isName g) = true then 29 else if twice [] c.gl = true then 8 else 0 := by rw [hR, if_neg hno]
  clear hR
  simp only [↓wpre, wall, simprocAttr, List.length_append, List.append_assoc, app_get_len, app_get_add, app_set_len, app_set_add, e1, e3, hdec, ints_len]
  refine W_loopE (fun i => c.gl.length - i) (fun i E H T => E 1 = .ptr 0 0 ∧ E 5 = .int i ∧ i ≤ c.gl.length ∧ ((c.gl.take i).any fun g => !isName g) = false ∧ ∃ G, H = .cells false [.sl Bs t1, .sl (nmA c.gl) t2, .sl (ints c.st) t3] :: G) ?_ 0 ⟨e1, rfl, Nat.zero_le _, rfl, _, rfl⟩
  rintro i E H T ⟨e1, e5, hi, hnm, G, rfl⟩
  rcases Nat.lt_or_ge i c.gl.length with hlt | hge
  ·have hdec : decide ((i : Int) < c.gl.length) = true := by simpa using hlt
   obtain ⟨x, x0, x4⟩ := nmA_at hlt
   have htk : c.gl.take (i + 1) = c.gl.take i ++ [x] := by rw [List.take_add_one, x0]; rfl
   obtain ⟨_, rfl, cn⟩ := (refName_ret x (hn x (List.mem_of_getElem? x0))).call rfl (by simp [pvs_cons, pvs_nil, pv_v])
   cases hx : isName x
   ·have : (c.gl.any fun g => !isName g) = true := List.any_eq_true.2 ⟨x, List.mem_of_getElem? x0, by rw [hx]; rfl⟩
    rw [hR2, if_pos this]
    rw [hx] at cn
    simp only [↓wpre, wall, simprocAttr, List.length_append, List.append_assoc, app_get_len, app_get_add, app_set_len, app_set_add, e1, e5, hdec, x4, nmA_all, nmA_len, cn]
   ·rw [hx] at cn
    simp only [↓wpre, wall, simprocAttr, List.length_append, List.append_assoc, app_get_len, app_get_add, app_set_len, app_set_add, e1, e5, hdec, x4, nmA_all, nmA_len, cn]
    exact EQ_in ⟨i + 1, by omega, e1, next_ixv (by omega), by omega, by rw [htk, List.any_append, hnm]; simp [hx], _, rfl⟩
  ·have hdec : decide ((i : Int) < c.gl.length) = false := by simpa using hge
   rw [List.take_of_length_le (by omega)] at hnm
   rw [hnm] at hR2
   simp only [Bool.false_eq_true, if_false] at hR2
   simp only [↓wpre, wall, simprocAttr, List.length_append, List.append_assoc, app_get_len, app_get_add, app_set_len, app_set_add, e1, e5, hdec, nmA_len]
   refine W_loopE (fun i => c.gl.length - i) (fun i E H T => E 1 = .ptr 0 0 ∧ E 6 = .int i ∧ i ≤ c.gl.length ∧ twice (c.gl.take i) (c.gl.drop i) = twice [] c.gl ∧ ∃ G, H = .cells false [.sl Bs t1, .sl (nmA c.gl) t2, .sl (ints c.st) t3] :: G) ?_ 0 ⟨e1, rfl, Nat.zero_le _, rfl, _, rfl⟩
   rintro i E H T ⟨e1, e6, hi, htw, G, rfl⟩
   rcases Nat.lt_or_ge i c.gl.length with hlt | hge
   ·have hdec : decide ((i : Int) < c.gl.length) = true := by simpa using hlt
    obtain ⟨x, x0, x4⟩ := nmA_at hlt
    have hdr : c.gl.drop i = x :: c.gl.drop (i + 1) := by
     obtain ⟨h, rfl⟩ := List.getElem?_eq_some_iff.1 x0
     exact List.drop_eq_getElem_cons h
    have htk : c.gl.take (i + 1) = c.gl.take i ++ [x] := by rw [List.take_add_one, x0]; rfl
    rw [hdr, twice, ← htk] at htw
    obtain ⟨bx, hbx, htw⟩ := or_some htw
    simp only [↓wpre, wall, simprocAttr, List.length_append, List.append_assoc, app_get_len, app_get_add, app_set_len, app_set_add, e1, e6, hdec, nmA_len]
    refine W_loopE (fun j => i - j) (fun j E H T => E 1 = .ptr 0 0 ∧ E 6 = .int i ∧ E 7 = .int j ∧ j ≤ i ∧ x ∉ c.gl.take j ∧ ∃ G, H = .cells false [.sl Bs t1, .sl (nmA c.gl) t2, .sl (ints c.st) t3] :: G) ?_ 0 ?start
    case start => exact ⟨e1, e6, rfl, Nat.zero_le _, by simp, _, rfl⟩
    rintro j E H T ⟨e1, e6, e7, hj, hnx, G, rfl⟩
    rcases Nat.lt_or_ge j i with hlt2 | hge2
    ·have hdec2 : decide ((j : Int) < i) = true := by simpa using hlt2
     obtain ⟨y, y0, y4⟩ := nmA_at (show j < c.gl.length by omega)
     have htj : c.gl.take (j + 1) = c.gl.take j ++ [y] := by rw [List.take_add_one, y0]; rfl
     by_cases hxy : y = x
     ·have hin : x ∈ c.gl.take i := by
       rw [← hxy]
       exact List.mem_take_iff_getElem.2 ⟨j, by omega, (List.getElem?_eq_some_iff.1 y0).2⟩
      have : twice [] c.gl = true := by rw [← htw, hbx.2 hin]; rfl
      rw [hR2, if_pos this]
      have hd : decide (y = x) = true := decide_eq_true hxy
      simp only [↓wpre, wall, simprocAttr, List.length_append, List.append_assoc, app_get_len, app_get_add, app_set_len, app_set_add, e1, e6, e7, hdec2, x4, y4, nmA_all, nmA_len, str_eq, str_beq, hd]
     ·have hd : decide (y = x) = false := decide_eq_false hxy
      simp only [↓wpre, wall, simprocAttr, List.length_append, List.append_assoc, app_get_len, app_get_add, app_set_len, app_set_add, e1, e6, e7, hdec2, x4, y4, nmA_all, nmA_len, str_eq, str_beq, hd]
      exact EQ_in ⟨j + 1, by omega, e1, e6, next_ixv (by omega), by omega, by rw [htj]; simp [hnx, Ne.symm hxy], _, rfl⟩
    ·have hji : j = i := by omega
     have hdec2 : decide ((j : Int) < i) = false := by simpa using hge2
     simp only [↓wpre, wall, simprocAttr, List.length_append, List.append_assoc, app_get_len, app_get_add, app_set_len, app_set_add, e1, e6, e7, hdec2]
     rw [hji] at hnx
     have hbf : bx = false := by
      cases bx with
      | false => rfl
      | true => exact absurd (hbx.1 rfl) hnx
     rw [hbf, Bool.false_or] at htw
     exact EQ_in ⟨i + 1, by omega, e1, next_ixv (by omega), by omega, htw, _, rfl⟩
   ·have hdec : decide ((i : Int) < c.gl.length) = false := by simpa using hge
    rw [List.drop_eq_nil_of_le (by omega), twice] at htw
    rw [← htw] at hR2
    simp only [Bool.false_eq_true, if_false] at hR2
    rw [hR2]
    simp only [↓wpre, wall, simprocAttr, List.length_append, List.append_assoc, app_get_len, app_get_add, app_set_len, app_set_add, e1, e6, hdec, nmA_len]
end Go.Proofs.Eng
namespace Go.Proofs.Eng
open Go Go.Proofs
set_option maxRecDepth 100000
set_option maxHeartbeats 16000000
theorem op_cases5 (op : Int) : op = 0 ∨ op = 1 ∨ op = 4 ∨ op = 5 ∨ op = 6 ∨ op = 7 ∨ ((op == 0) = false ∧ (op == 1) = false ∧ (op == 4) = false ∧ (op == 5) = false ∧ (op == 6) = false ∧ (op == 7) = false) := by
 simp only [beq_eq_false_iff_ne]; omega
section
variable {ki si : Nat} {Bs : List AV} {t1 t2 t3 : Tl} {c : Cd} {S : List Int} {H : List AObj} {V : List Nat}
theorem rform_sh (h : KS ki si Bs t1 t2 t3 c S H) (x : Ins) {rest : List Ins} {t : Tl} (br : Int) (ht : t.pure = true) (hl : rest.length ≤ lenB) (hn : x.n.size ≤ lenB) :
  Sh md pfs 113 [.ptr ki 0, x.av, .sl (insA rest) t, .int br] ⟨H, V⟩ (fun v s => v = .int (formE c.bl.length c.gl.length x rest br) ∧ ∃ G, s = ⟨H ++ G, V⟩) fun _ _ => False := by
 obtain ⟨op, a, b, n⟩ := x
 simp only at hn
 have hBl := h.bl.len
 have hk := app_get_of h.k [AObj.cells false [.int op, .int a, .int b, .str n]]
 obtain ⟨_, rfl, cu⟩ := (uses_ret op).call rfl (by simp [pvs_cons, pvs_nil, pv_v])
 obtain ⟨_, rfl, cn⟩ := (refName_ret n hn).call rfl (by simp [pvs_cons, pvs_nil, pv_v])
 have go : ∀ r, formE c.bl.length c.gl.length ⟨op, a, b, n⟩ rest br = r → (Sh md pfs 113 [.ptr ki 0, .agg [.int op, .int a, .int b, .str n], .sl (insA rest) t, .int br] ⟨H, V⟩ (fun v s => v = .int r ∧ ∃ G, s = ⟨H ++ G, V⟩) fun _ _ => False) → Sh md pfs 113 [.ptr ki 0, Ins.av ⟨op, a, b, n⟩, .sl (insA rest) t, .int br] ⟨H, V⟩ (fun v s => v = .int (formE c.bl.length c.gl.length ⟨op, a, b, n⟩ rest br) ∧ ∃ G, s = ⟨H ++ G, V⟩) fun _ _ => False := by
  rintro r rfl h; exact h
 have bad : iplB ⟨op, a, b, n⟩ rest br = false → formE c.bl.length c.gl.length ⟨op, a, b, n⟩ rest br = 3 := fun h => by rw [formE, if_pos h]
 have f01 : ((false : Bool) == true) = false := rfl
 have f10 : ((true : Bool) == false) = false := rfl
 cases c1 : decide (op < 0)
 case true =>
  refine go 3 (bad (by simp only [decide_eq_true_eq] at c1; simp [iplB]; omega)) ?_
  refine sh_of pf113_is (Nat.le_of_ble_eq_true rfl) ?_
  simp only [pf113, ↓wpre, wall, simprocAttr, List.length_append, List.append_assoc, app_get_len, app_get_add, app_set_len, app_set_add, c1]
  exact ⟨_, rfl⟩
 cases c2 : decide (op > 14)
 case true =>
  refine go 3 (bad (by simp only [decide_eq_true_eq] at c2; simp [iplB]; omega)) ?_
  refine sh_of pf113_is (Nat.le_of_ble_eq_true rfl) ?_
  simp only [pf113, ↓wpre, wall, simprocAttr, List.length_append, List.append_assoc, app_get_len, app_get_add, app_set_len, app_set_add, c1, c2]
  exact ⟨_, rfl⟩
 cases c3 : decide (a < 0)
 case true =>
  refine go 3 (bad (by simp only [decide_eq_true_eq] at c3; simp [iplB]; omega)) ?_
  refine sh_of pf113_is (Nat.le_of_ble_eq_true rfl) ?_
  simp only [pf113, ↓wpre, wall, simprocAttr, List.length_append, List.append_assoc, app_get_len, app_get_add, app_set_len, app_set_add, c1, c2, c3]
  exact ⟨_, rfl⟩
 cases c4 : decide (b < 0)
 case true =>
  refine go 3 (bad (by simp only [decide_eq_true_eq] at c4; simp [iplB]; omega)) ?_
  refine sh_of pf113_is (Nat.le_of_ble_eq_true rfl) ?_
  simp only [pf113, ↓wpre, wall, simprocAttr, List.length_append, List.append_assoc, app_get_len, app_get_add, app_set_len, app_set_add, c1, c2, c3, c4]
  exact ⟨_, rfl⟩
 have k1 : decide (0 ≤ op) = true := decide_eq_true (by simp only [decide_eq_false_iff_not] at c1; omega)
 have k2 : decide (op ≤ 14) = true := decide_eq_true (by simp only [decide_eq_false_iff_not] at c2; omega)
 have k3 : decide (0 ≤ a) = true := decide_eq_true (by simp only [decide_eq_false_iff_not] at c3; omega)
 have k4 : decide (0 ≤ b) = true := decide_eq_true (by simp only [decide_eq_false_iff_not] at c4; omega)
 have e0 : iplB ⟨op, a, b, n⟩ rest br = ((usesA op || a == 0) && (usesB op || b == 0) && (usesN op || decide (n = ⟨#[]⟩)) && ((op == 6) == decide (0 < br)) && (op != 5 || caseOK ⟨op, a, b, n⟩ rest)) := by
  rw [iplB, str_empty]
  simp only [k1, k2, k3, k4, Bool.true_and]
 have hf : iplB ⟨op, a, b, n⟩ rest br = true → formE c.bl.length c.gl.length ⟨op, a, b, n⟩ rest br = if op = 4 ∧ isName n = false then 29 else if missB c.bl.length c.gl.length ⟨op, a, b, n⟩ = true then 2 else 0 := fun h => by rw [formE, if_neg (by rw [h]; simp)]
 have hop := op_cases5 op
 rcases hop with rfl | rfl | rfl | rfl | rfl | rfl | ⟨o0, o1, o4, o5, o6, o7⟩
 ·replace cu : ∀ (pm : Bool) (s : ASt) (K KP : AV → ASt → Prop), CW (run md pfs) md pm s 152 [.int 0] K KP () = K (.tup [.bool true, .bool false, .bool false]) s := cu
  rw [show usesA 0 = true from rfl, show usesB 0 = false from rfl, show usesN 0 = false from rfl] at e0
  cases db : (b != 0)
  case true =>
   refine go 3 (bad (by rw [e0]; simp only [bne_iff_ne, ne_eq] at db; simp [db])) ?_
   refine sh_of pf113_is (Nat.le_of_ble_eq_true rfl) ?_
   simp only [pf113, ↓wpre, wall, simprocAttr, List.length_append, List.append_assoc, app_get_len, app_get_add, app_set_len, app_set_add, str_eq, str_beq, f01, f10, beq_self_eq_true, c1, c2, c3, c4, cu, db]
   exact ⟨_, rfl⟩
  have eb : (b == 0) = true := by simpa [bne] using db
  cases dn : decide (n = ⟨#[]⟩)
  case false =>
   refine go 3 (bad (by rw [e0, dn]; simp)) ?_
   refine sh_of pf113_is (Nat.le_of_ble_eq_true rfl) ?_
   simp only [pf113, ↓wpre, wall, simprocAttr, List.length_append, List.append_assoc, app_get_len, app_get_add, app_set_len, app_set_add, str_eq, str_beq, f01, f10, beq_self_eq_true, c1, c2, c3, c4, cu, db, dn]
   exact ⟨_, rfl⟩
  cases dr : decide (br > 0)
  case true =>
   refine go 3 (bad (by rw [e0]; simp only [gt_iff_lt] at dr; rw [dr]; simp)) ?_
   refine sh_of pf113_is (Nat.le_of_ble_eq_true rfl) ?_
   simp only [pf113, ↓wpre, wall, simprocAttr, List.length_append, List.append_assoc, app_get_len, app_get_add, app_set_len, app_set_add, str_eq, str_beq, f01, f10, beq_self_eq_true, c1, c2, c3, c4, cu, db, dn, dr]
   exact ⟨_, rfl⟩
  have dr' := dr
  simp only [gt_iff_lt] at dr'
  have e1 : iplB ⟨0, a, b, n⟩ rest br = true := by rw [e0, eb, dn, dr']; simp
  have hf1 := hf e1
  refine go 0 (by rw [hf1, if_neg (by simp), if_neg (by simp [missB])]) ?_
  refine sh_of pf113_is (Nat.le_of_ble_eq_true rfl) ?_
  simp only [pf113, ↓wpre, wall, simprocAttr, List.length_append, List.append_assoc, app_get_len, app_get_add, app_set_len, app_set_add, str_eq, str_beq, f01, f10, beq_self_eq_true, c1, c2, c3, c4, cu, db, dn, dr]
  exact ⟨_, rfl⟩
 ·replace cu : ∀ (pm : Bool) (s : ASt) (K KP : AV → ASt → Prop), CW (run md pfs) md pm s 152 [.int 1] K KP () = K (.tup [.bool true, .bool false, .bool false]) s := cu
  rw [show usesA 1 = true from rfl, show usesB 1 = false from rfl, show usesN 1 = false from rfl] at e0
  cases db : (b != 0)
  case true =>
   refine go 3 (bad (by rw [e0]; simp only [bne_iff_ne, ne_eq] at db; simp [db])) ?_
   refine sh_of pf113_is (Nat.le_of_ble_eq_true rfl) ?_
   simp only [pf113, ↓wpre, wall, simprocAttr, List.length_append, List.append_assoc, app_get_len, app_get_add, app_set_len, app_set_add, str_eq, str_beq, f01, f10, beq_self_eq_true, c1, c2, c3, c4, cu, db]
   exact ⟨_, rfl⟩
  have eb : (b == 0) = true := by simpa [bne] using db
  cases dn : decide (n = ⟨#[]⟩)
  case false =>
   refine go 3 (bad (by rw [e0, dn]; simp)) ?_
   refine sh_of pf113_is (Nat.le_of_ble_eq_true rfl) ?_
   simp only [pf113, ↓wpre, wall, simprocAttr, List.length_append, List.append_assoc, app_get_len, app_get_add, app_set_len, app_set_add, str_eq, str_beq, f01, f10, beq_self_eq_true, c1, c2, c3, c4, cu, db, dn]
   exact ⟨_, rfl⟩
  cases dr : decide (br > 0)
  case true =>
   refine go 3 (bad (by rw [e0]; simp only [gt_iff_lt] at dr; rw [dr]; simp)) ?_
   refine sh_of pf113_is (Nat.le_of_ble_eq_true rfl) ?_
   simp only [pf113, ↓wpre, wall, simprocAttr, List.length_append, List.append_assoc, app_get_len, app_get_add, app_set_len, app_set_add, str_eq, str_beq, f01, f10, beq_self_eq_true, c1, c2, c3, c4, cu, db, dn, dr]
   exact ⟨_, rfl⟩
  have dr' := dr
  simp only [gt_iff_lt] at dr'
  have e1 : iplB ⟨1, a, b, n⟩ rest br = true := by rw [e0, eb, dn, dr']; simp
  have hf1 := hf e1
  cases h1 : decide (a ≥ ((Bs.length : Nat) : Int))
  ·refine go 0 (by rw [hf1, if_neg (by simp), if_neg (by simp [missB]; simp at h1; omega)]) ?_
   refine sh_of pf113_is (Nat.le_of_ble_eq_true rfl) ?_
   simp only [pf113, ↓wpre, wall, simprocAttr, List.length_append, List.append_assoc, app_get_len, app_get_add, app_set_len, app_set_add, str_eq, str_beq, f01, f10, beq_self_eq_true, c1, c2, c3, c4, cu, db, dn, dr, hk, h1]
   exact ⟨_, rfl⟩
  ·refine go 2 (by rw [hf1, if_neg (by simp), if_pos (by simp [missB]; simp at h1; omega)]) ?_
   refine sh_of pf113_is (Nat.le_of_ble_eq_true rfl) ?_
   simp only [pf113, ↓wpre, wall, simprocAttr, List.length_append, List.append_assoc, app_get_len, app_get_add, app_set_len, app_set_add, str_eq, str_beq, f01, f10, beq_self_eq_true, c1, c2, c3, c4, cu, db, dn, dr, hk, h1]
   exact ⟨_, rfl⟩
 ·replace cu : ∀ (pm : Bool) (s : ASt) (K KP : AV → ASt → Prop), CW (run md pfs) md pm s 152 [.int 4] K KP () = K (.tup [.bool true, .bool true, .bool true]) s := cu
  rw [show usesA 4 = true from rfl, show usesB 4 = true from rfl, show usesN 4 = true from rfl] at e0
  cases dr : decide (br > 0)
  case true =>
   refine go 3 (bad (by rw [e0]; simp only [gt_iff_lt] at dr; rw [dr]; simp)) ?_
   refine sh_of pf113_is (Nat.le_of_ble_eq_true rfl) ?_
   simp only [pf113, ↓wpre, wall, simprocAttr, List.length_append, List.append_assoc, app_get_len, app_get_add, app_set_len, app_set_add, str_eq, str_beq, f01, f10, beq_self_eq_true, c1, c2, c3, c4, cu, dr]
   exact ⟨_, rfl⟩
  have dr' := dr
  simp only [gt_iff_lt] at dr'
  have e1 : iplB ⟨4, a, b, n⟩ rest br = true := by rw [e0, dr']; simp
  have hf1 := hf e1
  cases hnm : isName n
  ·rw [hnm] at cn
   refine go 29 (by rw [hf1, if_pos ⟨rfl, hnm⟩]) ?_
   refine sh_of pf113_is (Nat.le_of_ble_eq_true rfl) ?_
   simp only [pf113, ↓wpre, wall, simprocAttr, List.length_append, List.append_assoc, app_get_len, app_get_add, app_set_len, app_set_add, str_eq, str_beq, f01, f10, beq_self_eq_true, c1, c2, c3, c4, cu, dr, cn]
   exact ⟨_, rfl⟩
  ·rw [hnm] at cn
   cases h32 : decide (a ≥ 32)
   ·refine go 0 (by rw [hf1, if_neg (by simp [hnm]), if_neg (by simp [missB]; simpa using h32)]) ?_
    refine sh_of pf113_is (Nat.le_of_ble_eq_true rfl) ?_
    simp only [pf113, ↓wpre, wall, simprocAttr, List.length_append, List.append_assoc, app_get_len, app_get_add, app_set_len, app_set_add, str_eq, str_beq, f01, f10, beq_self_eq_true, c1, c2, c3, c4, cu, dr, cn, h32]
    exact ⟨_, rfl⟩
   ·refine go 2 (by rw [hf1, if_neg (by simp [hnm]), if_pos (by simp [missB]; simpa using h32)]) ?_
    refine sh_of pf113_is (Nat.le_of_ble_eq_true rfl) ?_
    simp only [pf113, ↓wpre, wall, simprocAttr, List.length_append, List.append_assoc, app_get_len, app_get_add, app_set_len, app_set_add, str_eq, str_beq, f01, f10, beq_self_eq_true, c1, c2, c3, c4, cu, dr, cn, h32]
    exact ⟨_, rfl⟩
 ·replace cu : ∀ (pm : Bool) (s : ASt) (K KP : AV → ASt → Prop), CW (run md pfs) md pm s 152 [.int 5] K KP () = K (.tup [.bool true, .bool false, .bool false]) s := cu
  rw [show usesA 5 = true from rfl, show usesB 5 = false from rfl, show usesN 5 = false from rfl] at e0
  cases db : (b != 0)
  case true =>
   refine go 3 (bad (by rw [e0]; simp only [bne_iff_ne, ne_eq] at db; simp [db])) ?_
   refine sh_of pf113_is (Nat.le_of_ble_eq_true rfl) ?_
   simp only [pf113, ↓wpre, wall, simprocAttr, List.length_append, List.append_assoc, app_get_len, app_get_add, app_set_len, app_set_add, str_eq, str_beq, f01, f10, beq_self_eq_true, c1, c2, c3, c4, cu, db]
   exact ⟨_, rfl⟩
  have eb : (b == 0) = true := by simpa [bne] using db
  cases dn : decide (n = ⟨#[]⟩)
  case false =>
   refine go 3 (bad (by rw [e0, dn]; simp)) ?_
   refine sh_of pf113_is (Nat.le_of_ble_eq_true rfl) ?_
   simp only [pf113, ↓wpre, wall, simprocAttr, List.length_append, List.append_assoc, app_get_len, app_get_add, app_set_len, app_set_add, str_eq, str_beq, f01, f10, beq_self_eq_true, c1, c2, c3, c4, cu, db, dn]
   exact ⟨_, rfl⟩
  cases dr : decide (br > 0)
  case true =>
   refine go 3 (bad (by rw [e0]; simp only [gt_iff_lt] at dr; rw [dr]; simp)) ?_
   refine sh_of pf113_is (Nat.le_of_ble_eq_true rfl) ?_
   simp only [pf113, ↓wpre, wall, simprocAttr, List.length_append, List.append_assoc, app_get_len, app_get_add, app_set_len, app_set_add, str_eq, str_beq, f01, f10, beq_self_eq_true, c1, c2, c3, c4, cu, db, dn, dr]
   exact ⟨_, rfl⟩
  have dr' := dr
  simp only [gt_iff_lt] at dr'
  obtain ⟨m, rfl⟩ : ∃ m : Nat, a = m := ⟨a.toNat, by simp only [decide_eq_false_iff_not] at c3; omega⟩
  have e1 : iplB ⟨5, m, b, n⟩ rest br = caseOK ⟨5, m, b, n⟩ rest := by
   rw [e0, eb, dn, dr']; simp
  rw [caseOK] at e1
  simp only [Int.toNat_natCast] at e1
  cases g1 : decide ((m : Int) > 32)
  case true =>
   refine go 3 (bad (by rw [e1]; simp only [decide_eq_true_eq] at g1; simp; omega)) ?_
   refine sh_of pf113_is (Nat.le_of_ble_eq_true rfl) ?_
   simp only [pf113, ↓wpre, wall, simprocAttr, List.length_append, List.append_assoc, app_get_len, app_get_add, app_set_len, app_set_add, str_eq, str_beq, f01, f10, beq_self_eq_true, c1, c2, c3, c4, cu, db, dn, dr, g1]
   exact ⟨_, rfl⟩
  cases g2 : decide ((m : Int) > rest.length)
  case true =>
   refine go 3 (bad (by rw [e1]; simp only [decide_eq_true_eq] at g2; simp; omega)) ?_
   refine sh_of pf113_is (Nat.le_of_ble_eq_true rfl) ?_
   simp only [pf113, ↓wpre, wall, simprocAttr, List.length_append, List.append_assoc, app_get_len, app_get_add, app_set_len, app_set_add, str_eq, str_beq, f01, f10, beq_self_eq_true, c1, c2, c3, c4, cu, db, dn, dr, g1, g2, insA_len]
   exact ⟨_, rfl⟩
  have g1' : (m : Int) ≤ 32 := by simp only [decide_eq_false_iff_not] at g1; omega
  have g2' : m ≤ rest.length := by simp only [decide_eq_false_iff_not] at g2; omega
  have e2 : iplB ⟨5, m, b, n⟩ rest br = (rest.take m).all fun y => y.op == 6 := by
   rw [e1, decide_eq_true g1', decide_eq_true (by omega)]; simp
  have hres : formE c.bl.length c.gl.length ⟨5, m, b, n⟩ rest br = if ((rest.take m).all fun y => y.op == 6) = true then 0 else 3 := by
   rw [formE, e2]
   cases ((rest.take m).all fun y => y.op == 6) <;> simp [missB]
  generalize hr : (if ((rest.take m).all fun y => y.op == 6) = true then (0 : Int) else 3) = r at hres
  refine go r hres ?_
  refine sh_of pf113_is (Nat.le_of_ble_eq_true rfl) ?_
  simp only [pf113, ↓wpre, wall, simprocAttr, List.length_append, List.append_assoc, app_get_len, app_get_add, app_set_len, app_set_add, str_eq, str_beq, f01, f10, beq_self_eq_true, c1, c2, c3, c4, cu, db, dn, dr, g1, g2, insA_len]
  refine W_loopE (fun j => m - j) (fun j E H' T => T = V ∧ H' = H ++ [.cells false [.int 5, .int m, .int b, .str n]] ∧ E 0 = .ptr ki 0 ∧ E 2 = .sl (insA rest) t ∧ E 5 = .ptr H.length 0 ∧ E 12 = .int j ∧ j ≤ m ∧ ((rest.take j).all fun y => y.op == 6) = true) ?_ 0 ?start
  case start => exact ⟨rfl, rfl, rfl, rfl, rfl, rfl, Nat.zero_le _, rfl⟩
  rintro j E H' T ⟨rfl, rfl, e0', e2', e5', e12, hj, hall⟩
  have hbx : (H ++ [AObj.cells false [.int 5, .int m, .int b, .str n]])[H.length]? = some (.cells false [.int 5, .int m, .int b, .str n]) := by simp
  rcases Nat.lt_or_ge j m with hlt | hge
  ·have hdec : decide ((j : Int) < m) = true := by simpa using hlt
   obtain ⟨y, y0, y4⟩ := insA_at (show j < rest.length by omega)
   have htk : rest.take (j + 1) = rest.take j ++ [y] := by rw [List.take_add_one, y0]; rfl
   cases hy : (y.op != 6)
   ·have hy' : (y.op == 6) = true := by simpa [bne] using hy
    simp only [↓wpre, wall, simprocAttr, List.length_append, List.append_assoc, app_get_len, app_get_add, app_set_len, app_set_add, e0', e2', e5', e12, hbx, hdec, y4, insA_all, insA_len, hy]
    exact EQ_in ⟨j + 1, by omega, rfl, rfl, e0', e2', e5', next_ixv (by omega), by omega, by rw [htk, List.all_append, hall]; simp [hy']⟩
   ·have hy' : (y.op == 6) = false := by simpa [bne] using hy
    have hna : ((rest.take m).all fun y => y.op == 6) = false := by
     rw [List.all_eq_false]
     exact ⟨y, List.mem_take_iff_getElem.2 ⟨j, by omega, (List.getElem?_eq_some_iff.1 y0).2⟩, by rw [hy']; simp⟩
    rw [hna] at hr
    simp only [Bool.false_eq_true, if_false] at hr
    subst hr
    simp only [↓wpre, wall, simprocAttr, List.length_append, List.append_assoc, app_get_len, app_get_add, app_set_len, app_set_add, e0', e2', e5', e12, hbx, hdec, y4, insA_all, insA_len, hy]
    exact ⟨_, rfl⟩
  ·have hji : j = m := by omega
   have hdec : decide ((j : Int) < m) = false := by simpa using hge
   rw [hji] at hall
   rw [hall] at hr
   simp only [if_true] at hr
   subst hr
   simp only [↓wpre, wall, simprocAttr, List.length_append, List.append_assoc, app_get_len, app_get_add, app_set_len, app_set_add, e0', e2', e5', e12, hbx, hdec]
   exact ⟨_, rfl⟩
 ·replace cu : ∀ (pm : Bool) (s : ASt) (K KP : AV → ASt → Prop), CW (run md pfs) md pm s 152 [.int 6] K KP () = K (.tup [.bool true, .bool true, .bool false]) s := cu
  rw [show usesA 6 = true from rfl, show usesB 6 = true from rfl, show usesN 6 = false from rfl] at e0
  cases dn : decide (n = ⟨#[]⟩)
  case false =>
   refine go 3 (bad (by rw [e0, dn]; simp)) ?_
   refine sh_of pf113_is (Nat.le_of_ble_eq_true rfl) ?_
   simp only [pf113, ↓wpre, wall, simprocAttr, List.length_append, List.append_assoc, app_get_len, app_get_add, app_set_len, app_set_add, str_eq, str_beq, f01, f10, beq_self_eq_true, c1, c2, c3, c4, cu, dn]
   exact ⟨_, rfl⟩
  cases dr : decide (br > 0)
  case false =>
   refine go 3 (bad (by rw [e0]; simp only [gt_iff_lt] at dr; rw [dr]; simp)) ?_
   refine sh_of pf113_is (Nat.le_of_ble_eq_true rfl) ?_
   simp only [pf113, ↓wpre, wall, simprocAttr, List.length_append, List.append_assoc, app_get_len, app_get_add, app_set_len, app_set_add, str_eq, str_beq, f01, f10, beq_self_eq_true, c1, c2, c3, c4, cu, dn, dr]
   exact ⟨_, rfl⟩
  have dr' := dr
  simp only [gt_iff_lt] at dr'
  have e1 : iplB ⟨6, a, b, n⟩ rest br = true := by rw [e0, dn, dr']; simp
  have hf1 := hf e1
  cases h64 : decide (b > 64)
  ·cases h1 : decide (a ≥ ((Bs.length : Nat) : Int))
   ·refine go 0 (by rw [hf1, if_neg (by simp), if_neg (by simp [missB]; simp at h1 h64; omega)]) ?_
    refine sh_of pf113_is (Nat.le_of_ble_eq_true rfl) ?_
    simp only [pf113, ↓wpre, wall, simprocAttr, List.length_append, List.append_assoc, app_get_len, app_get_add, app_set_len, app_set_add, str_eq, str_beq, f01, f10, beq_self_eq_true, c1, c2, c3, c4, cu, dn, dr, hk, h1, h64]
    exact ⟨_, rfl⟩
   ·refine go 2 (by rw [hf1, if_neg (by simp), if_pos (by simp [missB]; simp at h1 h64; omega)]) ?_
    refine sh_of pf113_is (Nat.le_of_ble_eq_true rfl) ?_
    simp only [pf113, ↓wpre, wall, simprocAttr, List.length_append, List.append_assoc, app_get_len, app_get_add, app_set_len, app_set_add, str_eq, str_beq, f01, f10, beq_self_eq_true, c1, c2, c3, c4, cu, dn, dr, hk, h1, h64]
    exact ⟨_, rfl⟩
  ·refine go 2 (by rw [hf1, if_neg (by simp), if_pos (by simp [missB]; simp at h64; omega)]) ?_
   refine sh_of pf113_is (Nat.le_of_ble_eq_true rfl) ?_
   simp only [pf113, ↓wpre, wall, simprocAttr, List.length_append, List.append_assoc, app_get_len, app_get_add, app_set_len, app_set_add, str_eq, str_beq, f01, f10, beq_self_eq_true, c1, c2, c3, c4, cu, dn, dr, hk, h64]
   exact ⟨_, rfl⟩
 ·replace cu : ∀ (pm : Bool) (s : ASt) (K KP : AV → ASt → Prop), CW (run md pfs) md pm s 152 [.int 7] K KP () = K (.tup [.bool true, .bool false, .bool false]) s := cu
  rw [show usesA 7 = true from rfl, show usesB 7 = false from rfl, show usesN 7 = false from rfl] at e0
  cases db : (b != 0)
  case true =>
   refine go 3 (bad (by rw [e0]; simp only [bne_iff_ne, ne_eq] at db; simp [db])) ?_
   refine sh_of pf113_is (Nat.le_of_ble_eq_true rfl) ?_
   simp only [pf113, ↓wpre, wall, simprocAttr, List.length_append, List.append_assoc, app_get_len, app_get_add, app_set_len, app_set_add, str_eq, str_beq, f01, f10, beq_self_eq_true, c1, c2, c3, c4, cu, db]
   exact ⟨_, rfl⟩
  have eb : (b == 0) = true := by simpa [bne] using db
  cases dn : decide (n = ⟨#[]⟩)
  case false =>
   refine go 3 (bad (by rw [e0, dn]; simp)) ?_
   refine sh_of pf113_is (Nat.le_of_ble_eq_true rfl) ?_
   simp only [pf113, ↓wpre, wall, simprocAttr, List.length_append, List.append_assoc, app_get_len, app_get_add, app_set_len, app_set_add, str_eq, str_beq, f01, f10, beq_self_eq_true, c1, c2, c3, c4, cu, db, dn]
   exact ⟨_, rfl⟩
  cases dr : decide (br > 0)
  case true =>
   refine go 3 (bad (by rw [e0]; simp only [gt_iff_lt] at dr; rw [dr]; simp)) ?_
   refine sh_of pf113_is (Nat.le_of_ble_eq_true rfl) ?_
   simp only [pf113, ↓wpre, wall, simprocAttr, List.length_append, List.append_assoc, app_get_len, app_get_add, app_set_len, app_set_add, str_eq, str_beq, f01, f10, beq_self_eq_true, c1, c2, c3, c4, cu, db, dn, dr]
   exact ⟨_, rfl⟩
  have dr' := dr
  simp only [gt_iff_lt] at dr'
  have e1 : iplB ⟨7, a, b, n⟩ rest br = true := by rw [e0, eb, dn, dr']; simp
  have hf1 := hf e1
  cases h1 : decide (a ≥ ((c.gl.length : Nat) : Int))
  ·refine go 0 (by rw [hf1, if_neg (by simp), if_neg (by simp [missB]; simp at h1; omega)]) ?_
   refine sh_of pf113_is (Nat.le_of_ble_eq_true rfl) ?_
   simp only [pf113, ↓wpre, wall, simprocAttr, List.length_append, List.append_assoc, app_get_len, app_get_add, app_set_len, app_set_add, str_eq, str_beq, f01, f10, beq_self_eq_true, c1, c2, c3, c4, cu, db, dn, dr, hk, nmA_len, h1]
   exact ⟨_, rfl⟩
  ·refine go 2 (by rw [hf1, if_neg (by simp), if_pos (by simp [missB]; simp at h1; omega)]) ?_
   refine sh_of pf113_is (Nat.le_of_ble_eq_true rfl) ?_
   simp only [pf113, ↓wpre, wall, simprocAttr, List.length_append, List.append_assoc, app_get_len, app_get_add, app_set_len, app_set_add, str_eq, str_beq, f01, f10, beq_self_eq_true, c1, c2, c3, c4, cu, db, dn, dr, hk, nmA_len, h1]
   exact ⟨_, rfl⟩
 ·have u1 : usesA op = false := by simp [usesA, o0, o1, o4, o5, o6, o7]
  have u2 : usesB op = false := by simp [usesB, o4, o6]
  have u3 : usesN op = false := by simp [usesN, o4]
  rw [u1, u2, u3] at cu e0
  cases da : (a != 0)
  case true =>
   refine go 3 (bad (by rw [e0]; simp only [bne_iff_ne, ne_eq] at da; simp [da])) ?_
   refine sh_of pf113_is (Nat.le_of_ble_eq_true rfl) ?_
   simp only [pf113, ↓wpre, wall, simprocAttr, List.length_append, List.append_assoc, app_get_len, app_get_add, app_set_len, app_set_add, str_eq, str_beq, f01, f10, beq_self_eq_true, c1, c2, c3, c4, cu, o0, o1, o4, o5, o6, o7, da]
   exact ⟨_, rfl⟩
  have ea : (a == 0) = true := by simpa [bne] using da
  cases db : (b != 0)
  case true =>
   refine go 3 (bad (by rw [e0]; simp only [bne_iff_ne, ne_eq] at db; simp [db])) ?_
   refine sh_of pf113_is (Nat.le_of_ble_eq_true rfl) ?_
   simp only [pf113, ↓wpre, wall, simprocAttr, List.length_append, List.append_assoc, app_get_len, app_get_add, app_set_len, app_set_add, str_eq, str_beq, f01, f10, beq_self_eq_true, c1, c2, c3, c4, cu, o0, o1, o4, o5, o6, o7, da, db]
   exact ⟨_, rfl⟩
  have eb : (b == 0) = true := by simpa [bne] using db
  cases dn : decide (n = ⟨#[]⟩)
  case false =>
   refine go 3 (bad (by rw [e0, dn]; simp)) ?_
   refine sh_of pf113_is (Nat.le_of_ble_eq_true rfl) ?_
   simp only [pf113, ↓wpre, wall, simprocAttr, List.length_append, List.append_assoc, app_get_len, app_get_add, app_set_len, app_set_add, str_eq, str_beq, f01, f10, beq_self_eq_true, c1, c2, c3, c4, cu, o0, o1, o4, o5, o6, o7, da, db, dn]
   exact ⟨_, rfl⟩
  cases dr : decide (br > 0)
  case true =>
   refine go 3 (bad (by rw [e0]; simp only [gt_iff_lt] at dr; rw [dr]; simp [o6])) ?_
   refine sh_of pf113_is (Nat.le_of_ble_eq_true rfl) ?_
   simp only [pf113, ↓wpre, wall, simprocAttr, List.length_append, List.append_assoc, app_get_len, app_get_add, app_set_len, app_set_add, str_eq, str_beq, f01, f10, beq_self_eq_true, c1, c2, c3, c4, cu, o0, o1, o4, o5, o6, o7, da, db, dn, dr]
   exact ⟨_, rfl⟩
  have dr' := dr
  simp only [gt_iff_lt] at dr'
  have e1 : iplB ⟨op, a, b, n⟩ rest br = true := by rw [e0, ea, eb, dn, dr', o6]; simp [bne, o5]
  have hf1 := hf e1
  refine go 0 (by rw [hf1, if_neg (fun h => ne_of_beq_false o4 h.1), if_neg (by simp [missB, o4, o1, o6, o7])]) ?_
  refine sh_of pf113_is (Nat.le_of_ble_eq_true rfl) ?_
  simp only [pf113, ↓wpre, wall, simprocAttr, List.length_append, List.append_assoc, app_get_len, app_get_add, app_set_len, app_set_add, str_eq, str_beq, f01, f10, beq_self_eq_true, c1, c2, c3, c4, cu, o0, o1, o4, o5, o6, o7, da, db, dn, dr]
  exact ⟨_, rfl⟩
end
end Go.Proofs.Eng
