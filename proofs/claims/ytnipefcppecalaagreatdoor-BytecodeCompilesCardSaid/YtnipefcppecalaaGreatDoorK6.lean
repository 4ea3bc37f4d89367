/- The checker's block. No conditions beyond those in the theorems. -/
import Derived.Test.YtnipefcppecalaaGreatDoorQ2
set_option linter.all false
set_option linter.deprecated false
set_option linter.unnecessarySimpa false
set_option linter.unusedVariables false
set_option linter.unusedSimpArgs false
set_option linter.defProp false
namespace Go.Proofs.Eng
open Go Go.Proofs
set_option maxRecDepth 100000
theorem ints_at {l : List Int} {j : Nat} (h : j < l.length) : ∃ x, l[j]? = some x ∧ (ints l)[j]? = some (.int x) := by
 obtain ⟨x, a, _, c⟩ := ints_get h; exact ⟨x, a, c⟩
theorem ind24_ret {l : List Int} {t : Tl} (x : Int) (hl : l.length ≤ lenB) :
  Out md pfs 42 [.sl (ints l) t, .int x] (fun v => ∃ r : Int, v = .int r ∧ ((r = -1 ∧ x ∉ l) ∨ ∃ j : Nat, r = j ∧ l[j]? = some x ∧ x ∉ l.take j)) fun _ => False := by
 refine out_of pf42_is (Nat.le_of_ble_eq_true rfl) ?_
 simp only [pf42, ↓wpre, wall, simprocAttr]
 refine W_loopE (fun j => l.length - j) (fun j E H T => E 0 = .sl (ints l) t ∧ E 1 = .int x ∧ E 7 = .int l.length ∧ E 8 = .int j ∧ j ≤ l.length ∧ x ∉ l.take j) ?_ 0 ?_
 ·rintro j E H T ⟨e0, e1, e7, e8, hj, hn⟩
  rcases Nat.lt_or_ge j l.length with hlt | hge
  ·obtain ⟨y, d0, d4⟩ := ints_at hlt
   have hdec : decide ((j : Int) < l.length) = true := by simpa using hlt
   by_cases hxy : x = y
   ·subst hxy
    simp only [↓wpre, wall, simprocAttr, e0, e1, e7, e8, hdec, d4, ints_all, ints_len, str_eq, str_beq, decide_true, beq_self_eq_true]
    exact ⟨_, rfl, .inr ⟨j, rfl, d0, hn⟩⟩
   ·have hb : (x == y) = false := beq_false_of_ne hxy
    have hd : decide (x = y) = false := decide_eq_false hxy
    simp only [↓wpre, wall, simprocAttr, e0, e1, e7, e8, hdec, d4, ints_all, ints_len, str_eq, str_beq, hb, hd]
    exact EQ_in ⟨j + 1, by omega, e0, e1, e7, next_ixv (by omega), by omega, by rw [List.take_add_one, d0]; simp [hn, hxy]⟩
  ·have hdec : decide ((j : Int) < l.length) = false := by simpa using hge
   simp only [↓wpre, wall, simprocAttr, e0, e1, e7, e8, hdec, ints_len]
   rw [List.take_of_length_le (by omega)] at hn
   exact ⟨_, rfl, .inl ⟨rfl, hn⟩⟩
 ·exact ⟨rfl, rfl, by rw [← ints_len l]; rfl, rfl, Nat.zero_le _, by simp⟩
end Go.Proofs.Eng
namespace Go.Proofs.Eng
open Go Go.Proofs
set_option maxRecDepth 100000
set_option maxHeartbeats 16000000
theorem operands_ret (op : Int) : Out md pfs 84 [.int op] (· = .tup [.bool (usesA op), .bool (usesB op), .bool (usesN op)]) fun _ => False := by
 refine out_of pf84_is (Nat.le_of_ble_eq_true rfl) ?_
 have h : op = 0 ∨ op = 1 ∨ op = 5 ∨ op = 7 ∨ op = 6 ∨ op = 4 ∨ ((op == 0) = false ∧ (op == 1) = false ∧ (op == 5) = false ∧ (op == 7) = false ∧ (op == 6) = false ∧ (op == 4) = false) := by
  simp only [beq_eq_false_iff_ne]; omega
 rcases h with rfl | rfl | rfl | rfl | rfl | rfl | ⟨h0, h1, h5, h7, h6, h4⟩
 all_goals first
  | (simp only [pf84, ↓wpre, wall, simprocAttr, usesA, usesB, usesN]; done)
  | (simp only [pf84, ↓wpre, wall, simprocAttr, usesA, usesB, usesN]; rfl)
  | (simp only [pf84, ↓wpre, wall, simprocAttr, usesA, usesB, usesN, h0, h1, h5, h7, h6, h4]; first | done | rfl)
end Go.Proofs.Eng
namespace Go.Proofs.Eng
open Go Go.Proofs
set_option maxRecDepth 100000
set_option maxHeartbeats 16000000
theorem blsPure : ∀ {l : List (List Ins)} {al : List AV}, LIs blIs l al → pureAVs al = true
 | [], [], _ => rfl
 | [], _ :: _, h => h.elim
 | _ :: _, [], h => h.elim
 | b :: l, a :: al, h => by
  obtain ⟨⟨t, rfl, ht, _⟩, h⟩ := h
  rw [pvs_cons, blsPure h]; simp [pv_sl, ht, insPure]
theorem cdPure {c : Cd} {a : AV} (h : c.Is a) : pureAV a = true := by
 obtain ⟨Bs, t1, t2, t3, rfl, g1, g2, g3, g4, _⟩ := h
 simp [pv_agg, pvs_cons, pvs_nil, pv_sl, blsPure g1, g2, g3, g4, nmPure, ints_pure]
end Go.Proofs.Eng
namespace Go.Proofs.Eng
open Go Go.Proofs
set_option maxRecDepth 100000
set_option maxHeartbeats 16000000
structure KS (ki si : Nat) (Bs : List AV) (t1 t2 t3 : Tl) (c : Cd) (S : List Int) (H : List AObj) : Prop where
 k : H[ki]? = some (.cells false [.sl Bs t1, .sl (nmA c.gl) t2, .sl (ints c.st) t3, .bs si 0 c.bl.length 1 false])
 s : H[si]? = some (.cells false (ints S))
 sl : S.length = c.bl.length
 ne : ki ≠ si
 bl : LIs blIs c.bl Bs
 p1 : t1.pure = true
 gl : c.gl.length ≤ lenB
theorem KS.app {ki si : Nat} {Bs : List AV} {t1 t2 t3 : Tl} {c : Cd} {S : List Int} {H : List AObj} (h : KS ki si Bs t1 t2 t3 c S H) (G : List AObj) : KS ki si Bs t1 t2 t3 c S (H ++ G) :=
 ⟨app_get_of h.k G, app_get_of h.s G, h.sl, h.ne, h.bl, h.p1, h.gl⟩
section
variable {ki si : Nat} {Bs : List AV} {t1 t2 t3 : Tl} {c : Cd} {S : List Int} {H : List AObj} {V : List Nat}
end
end Go.Proofs.Eng
namespace Go.Proofs.Eng
open Go Go.Proofs
set_option maxRecDepth 100000
set_option maxHeartbeats 16000000
section
variable {ki si q : Nat} {Bs : List AV} {t1 t2 t3 : Tl} {c : Cd} {S : List Int} {H : List AObj} {V : List Nat}
theorem KS.enter (h : KS ki si Bs t1 t2 t3 c S H) {S' : List Int} (hl : S'.length = S.length) : KS ki si Bs t1 t2 t3 c S' (H.set si (.cells false (ints S'))) :=
 ⟨set_ne h.k h.ne.symm, by rw [List.getElem?_set, if_pos rfl, if_pos (lt_of_get h.s)], hl.trans h.sl, h.ne, h.bl, h.p1, h.gl⟩
end
end Go.Proofs.Eng
namespace Go.Proofs.Eng
open Go Go.Proofs
set_option maxRecDepth 100000
set_option maxHeartbeats 16000000
theorem form_ok {nb ng : Nat} {x : Ins} {rest : List Ins} {br : Int} (h : formE nb ng x rest br = 0) : (0 ≤ x.op ∧ x.op ≤ 14 ∧ 0 ≤ x.a ∧ 0 ≤ x.b) ∧ (x.op = 1 ∨ x.op = 6 → x.a < nb) ∧ (x.op = 6 → x.b ≤ 64) ∧ (x.op = 5 → x.a ≤ 32) := by
 unfold formE at h
 split at h
 ·omega
 rename_i h1
 split at h
 ·omega
 split at h
 ·omega
 rename_i h3
 have h1 : iplB x rest br = true := by simpa using h1
 simp only [iplB, Bool.and_eq_true, decide_eq_true_eq] at h1
 obtain ⟨⟨⟨⟨⟨⟨⟨⟨a1, a2⟩, a3⟩, a4⟩, _⟩, _⟩, _⟩, _⟩, a5⟩ := h1
 simp only [missB, Bool.or_eq_true, Bool.and_eq_true, beq_iff_eq, decide_eq_true_eq, not_or, not_and, Int.not_le, Int.not_lt] at h3
 obtain ⟨⟨⟨_, h6⟩, h16⟩, _⟩ := h3
 refine ⟨⟨a1, a2, a3, a4⟩, fun h => h16 h, fun h => h6 h, fun h => ?_⟩
 have h5 : (x.op != 5) = false := by simp [h]
 rw [h5, Bool.false_or, caseOK] at a5
 simp only [Bool.and_eq_true, decide_eq_true_eq] at a5
 exact a5.1.1
def SB (W : Int) (S : List Int) : Prop := ∀ s ∈ S, s ≤ W
theorem SB.mono {W W' : Int} {S : List Int} (h : SB W S) (hw : W ≤ W') : SB W' S := fun s hs => Int.le_trans (h s hs) hw
theorem SB.set {W : Int} {S : List Int} (h : SB W S) {k : Nat} {v : Int} (hv : v ≤ W) : SB W (S.set k v) := fun s hs => by
 rcases List.mem_or_eq_of_mem_set hs with h' | rfl
 ·exact h s h'
 ·exact hv
structure Bd (W : Int) (e0 : Int) (j : Nat) (t : Sk) : Prop where
 st : 0 ≤ t.stack ∧ t.stack ≤ j
 bi : 0 ≤ t.binds ∧ t.binds ≤ j
 en : t.env = e0 + t.binds
 br : 0 ≤ t.br ∧ t.br ≤ 32
 sb : SB (W + 64 + j) t.S
theorem Bd.step {W e0 : Int} {j nb ng n : Nat} {x : Ins} {rest : List Ins} {t t' : Sk} (h : Bd W e0 j t) (h0 : 0 ≤ e0) (h1 : e0 ≤ W) (hs : stp nb ng n x rest t = .ok t') : Bd W e0 (j + 1) t' := by
 unfold stp at hs
 split at hs
 ·cases hs
 rename_i hf
 obtain ⟨⟨f1, f2, f3, f4⟩, f5, f6, f7⟩ := form_ok (by simpa using hf)
 split at hs
 ·cases hs
 rename_i S' hr
 obtain ⟨⟨s1, s2⟩, ⟨b1, b2⟩, he, ⟨r1, r2⟩, hsb⟩ := h
 have hS' : SB (W + 64 + (j + 1 : Nat)) S' := by
  unfold refE at hr
  have hsb' := hsb.mono (W' := W + 64 + (j + 1 : Nat)) (by omega)
  have hent : ∀ {b m}, entE n t.S b m = .ok S' → m ≤ W + 64 + (j + 1 : Nat) → SB (W + 64 + (j + 1 : Nat)) S' := fun {b m} e hm => by
   unfold entE at e
   split at e
   ·cases e
   ·split at e
    ·cases e
    ·cases e; exact hsb'.set hm
  split at hr
  ·exact hent hr (by omega)
  ·split at hr
   ·rename_i h6
    have := f6 h6
    exact hent hr (by omega)
   ·split at hr
    ·cases hr
    ·cases hr; exact hsb'
 unfold exeE at hs
 split at hs
 ·cases hs
 rename_i g1
 split at hs
 ·cases hs
 split at hs
 ·cases hs
 simp only [Except.ok.injEq] at hs
 subst hs
 have g2 : ¬ t.stack < popI x := fun h => g1 (.inl h)
 have g3 : ¬ (x.op = 10 ∧ t.binds = 0) := fun h => g1 (.inr h)
 have hp : 0 ≤ popI x := by unfold popI; repeat' split <;> omega
 have hq : 0 ≤ pushI x ∧ pushI x ≤ 1 := by unfold pushI; split <;> omega
 refine ⟨⟨by simp only; omega, by simp only; omega⟩, ?_, ?_, ?_, hS'⟩
 ·simp only [envI]
  split
  ·omega
  ·split
   ·rename_i h10
    have : t.binds ≠ 0 := fun h => g3 ⟨h10, h⟩
    omega
   ·omega
 ·simp only [envI]
  split
  ·omega
  ·split <;> omega
 ·simp only [brI]
  split
  ·rename_i h5; exact ⟨f3, f7 h5⟩
  ·omega
end Go.Proofs.Eng
