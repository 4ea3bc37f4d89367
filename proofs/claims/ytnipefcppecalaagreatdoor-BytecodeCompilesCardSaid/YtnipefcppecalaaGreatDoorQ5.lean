/- Equal codes are the same to the reference. No conditions beyond those in the theorems. -/
import Derived.Test.YtnipefcppecalaaGreatDoorQ2
import Derived.Test.YtnipefcppecalaaGreatDoorB5
set_option linter.all false
set_option linter.deprecated false
set_option linter.unnecessarySimpa false
set_option linter.unusedVariables false
set_option linter.unusedSimpArgs false
set_option linter.defProp false
namespace Go.Proofs.Eng
open Go Go.Proofs
set_option maxRecDepth 100000
set_option maxHeartbeats 16000000
structure RI (gl : AV) (es : List Ex) (O : List Ins) (bls : List (List Ins)) (ns : List ByteArray) (ss : List Int) (H : List AObj) (V : List Nat) (Bs : List AV) (tb tg ts : Tl) : Prop where
 cs : CS 2 gl es O H V
 h4 : H[3]? = some (.cells false [.sl Bs tb, .sl (nmA ns) tg, .sl (ints ss) ts])
 bl : LIs blX bls Bs
 ab : App V Bs tb
 ag : App V (nmA ns) tg
 ai : App V (ints ss) ts
 sb : Sep 2 H tb
 sg : Sep 2 H tg
 ss : Sep 2 H ts
 bg : Dif tb tg
 bs : Dif tb ts
 gs : Dif tg ts
section
variable {gl : AV} {es : List Ex} {O : List Ins} {bls : List (List Ins)} {ns : List ByteArray} {ss : List Int} {H : List AObj} {V : List Nat} {Bs : List AV} {tb tg ts : Tl}
theorem RI.lt (h : RI gl es O bls ns ss H V Bs tb tg ts) : 3 < H.length := lt_of_get h.h4
theorem RI.app (h : RI gl es O bls ns ss H V Bs tb tg ts) (G : List AObj) : RI gl es O bls ns ss (H ++ G) V Bs tb tg ts :=
 ⟨h.cs.app G, app_get_of h.h4 G, h.bl, h.ab, h.ag, h.ai, h.sb.app h.cs.lt G, h.sg.app h.cs.lt G, h.ss.app h.cs.lt G, h.bg, h.bs, h.gs⟩
theorem RI.stp (h : RI gl es O bls ns ss H V Bs tb tg ts) {es' : List Ex} {O' : List Ins} {H' : List AObj} {V' : List Nat} (hC : CS 2 gl es' O' H' V') (hS : Stp 2 H V H' V') : RI gl es' O' bls ns ss H' V' Bs tb tg ts :=
 ⟨hC, hS.get h.h4 (by decide), h.bl, (hS.row h.ab h.sb).1, (hS.row h.ag h.sg).1, (hS.row h.ai h.ss).1, (hS.row h.ab h.sb).2, (hS.row h.ag h.sg).2, (hS.row h.ai h.ss).2, h.bg, h.bs, h.gs⟩
theorem RI.setB (h : RI gl es O bls ns ss H V Bs tb tg ts) {b : List Ins} {x : AV} {tb' : Tl} {V' : List Nat} (hx : blX b x) (ha : App V' (Bs ++ [x]) tb') (o : Oth V tb V' tb') : RI gl es O (bls ++ [b]) ns ss (H.set 3 (.cells false [.sl (Bs ++ [x]) tb', .sl (nmA ns) tg, .sl (ints ss) ts])) V' (Bs ++ [x]) tb' tg ts := by
 have hl := h.lt
 have e : ∀ Y : AObj, (H.set 3 Y)[2]? = H[2]? := fun Y => by rw [List.getElem?_set, if_neg (by decide)]
 refine ⟨h.cs.oth h.sb (e _) o, by rw [List.getElem?_set, if_pos rfl, if_pos hl], h.bl.append (.one hx), ha, h.ag.keep o h.bg, h.ai.keep o h.bs, h.sb.oth h.cs (e _) o, fun i v ee hw => h.sg i v ee ((owc_eq (e _) i).1 hw), fun i v ee hw => h.ss i v ee ((owc_eq (e _) i).1 hw), (h.bg.symm.oth h.ag o).symm, (h.bs.symm.oth h.ai o).symm, h.gs⟩
theorem RI.setG (h : RI gl es O bls ns ss H V Bs tb tg ts) {n : ByteArray} {tg' : Tl} {V' : List Nat} (ha : App V' (nmA (ns ++ [n])) tg') (o : Oth V tg V' tg') : RI gl es O bls (ns ++ [n]) ss (H.set 3 (.cells false [.sl Bs tb, .sl (nmA (ns ++ [n])) tg', .sl (ints ss) ts])) V' Bs tb tg' ts := by
 have hl := h.lt
 have e : ∀ Y : AObj, (H.set 3 Y)[2]? = H[2]? := fun Y => by rw [List.getElem?_set, if_neg (by decide)]
 refine ⟨h.cs.oth h.sg (e _) o, by rw [List.getElem?_set, if_pos rfl, if_pos hl], h.bl, h.ab.keep o h.bg.symm, ha, h.ai.keep o h.gs, fun i v ee hw => h.sb i v ee ((owc_eq (e _) i).1 hw), h.sg.oth h.cs (e _) o, fun i v ee hw => h.ss i v ee ((owc_eq (e _) i).1 hw), h.bg.oth h.ab o, h.bs, (h.gs.symm.oth h.ai o).symm⟩
theorem RI.setS (h : RI gl es O bls ns ss H V Bs tb tg ts) {n : Int} {ts' : Tl} {V' : List Nat} (ha : App V' (ints (ss ++ [n])) ts') (o : Oth V ts V' ts') : RI gl es O bls ns (ss ++ [n]) (H.set 3 (.cells false [.sl Bs tb, .sl (nmA ns) tg, .sl (ints (ss ++ [n])) ts'])) V' Bs tb tg ts' := by
 have hl := h.lt
 have e : ∀ Y : AObj, (H.set 3 Y)[2]? = H[2]? := fun Y => by rw [List.getElem?_set, if_neg (by decide)]
 refine ⟨h.cs.oth h.ss (e _) o, by rw [List.getElem?_set, if_pos rfl, if_pos hl], h.bl, h.ab.keep o h.bs.symm, h.ag.keep o h.gs.symm, ha, fun i v ee hw => h.sb i v ee ((owc_eq (e _) i).1 hw), fun i v ee hw => h.sg i v ee ((owc_eq (e _) i).1 hw), h.ss.oth h.cs (e _) o, h.bg, h.bs.oth h.ab o, h.gs.oth h.ag o⟩
theorem RI.nil (h : RI gl es O bls ns ss H V Bs tb tg ts) {Q : List AV} {tq to : Tl} {L : List AV} (h1 : H[2]? = some (.cells false [gl, .sl Q tq, .sl L to])) : RI gl es [] bls ns ss (H.set 2 (.cells false [gl, .sl Q tq, .sl [] .nil])) V Bs tb tg ts := by
 have hl := h.lt
 obtain ⟨Q', tq', to', g1, g2, g3, g4, g5⟩ := h.cs
 rw [h1] at g1
 simp only [Option.some.injEq, AObj.cells.injEq, List.cons.injEq, AV.sl.injEq, true_and, and_true] at g1
 obtain ⟨⟨rfl, rfl⟩, rfl, rfl⟩ := g1
 have hs : (H.set 2 (.cells false [gl, .sl Q tq, .sl [] .nil]))[2]? = some (.cells false [gl, .sl Q tq, .sl (insA []) .nil]) := by rw [List.getElem?_set, if_pos rfl, if_pos (by omega)]; rfl
 have ho : ∀ i, OwC 2 (H.set 2 (.cells false [gl, .sl Q tq, .sl [] .nil])) i → OwC 2 H i := fun i ⟨_, _, _, _, _, v, e1, e2⟩ => by
  rw [hs] at e1
  simp only [Option.some.injEq, AObj.cells.injEq, List.cons.injEq, AV.sl.injEq, true_and, and_true] at e1
  obtain ⟨_, ⟨_, rfl⟩, _, rfl⟩ := e1
  rcases e2 with e2 | e2
  ·exact ⟨_, _, _, _, _, _, h1, .inl e2⟩
  ·cases e2
 refine ⟨⟨Q, tq, .nil, hs, g2, g3, .inl ⟨rfl, rfl⟩, fun i v v' _ e => by cases e⟩, by rw [List.getElem?_set, if_neg (by decide)]; exact h.h4, h.bl, h.ab, h.ag, h.ai, fun i v e hw => h.sb i v e (ho i hw), fun i v e hw => h.sg i v e (ho i hw), fun i v e hw => h.ss i v e (ho i hw), h.bg, h.bs, h.gs⟩
end
end Go.Proofs.Eng
namespace Go.Proofs.Eng
open Go Go.Proofs
set_option maxRecDepth 100000
set_option maxHeartbeats 4000000
theorem shape_ret {k i : Int} {n : ByteArray} {s : List Int} {t1 t2 : Tl} {kas : List AV} (hs : s.length ≤ lenB) : Out md pfs 79 [.agg [.int k, .int i, .str n, .sl (ints s) t1, .sl kas t2]] (fun v => ∃ lo hi ok, v = .tup [.int lo, .int hi, .bool ok] ∧ ok = (decide (0 ≤ k) && decide (k < 12)) ∧ (ok = true → (k = 3 ∧ lo = 0 ∧ hi = 4096) ∨ (k = 4 ∧ lo = w64 (s.length + 1) ∧ hi = w64 (s.length + 1)) ∨ (k ≠ 3 ∧ k ≠ 4 ∧ lo = kn k ∧ hi = kn k))) fun _ => False := by
 refine out_of pf79_is (Nat.le_of_ble_eq_true rfl) ?_
 have hw : IntKind.i64.wrap (((ints s).length : Int) + 1) = w64 (s.length + 1) := by rw [ints_len]
 by_cases hk : 0 ≤ k ∧ k < 12
 ·have : k = 0 ∨ k = 1 ∨ k = 2 ∨ k = 3 ∨ k = 4 ∨ k = 5 ∨ k = 6 ∨ k = 7 ∨ k = 8 ∨ k = 9 ∨ k = 10 ∨ k = 11 := by omega
  rcases this with rfl | rfl | rfl | rfl | rfl | rfl | rfl | rfl | rfl | rfl | rfl | rfl
  all_goals
   simp only [pf79, ↓wpre, wall, simprocAttr, hw]
   refine ⟨_, _, _, rfl, by decide, fun _ => ?_⟩
   simp [kn]
 ·have h0 : (k == 0) = false := by simp; omega
  have h1 : (k == 1) = false := by simp; omega
  have h2 : (k == 2) = false := by simp; omega
  have h3 : (k == 3) = false := by simp; omega
  have h4 : (k == 4) = false := by simp; omega
  have h5 : (k == 5) = false := by simp; omega
  have h6 : (k == 6) = false := by simp; omega
  have h7 : (k == 7) = false := by simp; omega
  have h8 : (k == 8) = false := by simp; omega
  have h9 : (k == 9) = false := by simp; omega
  have h10 : (k == 10) = false := by simp; omega
  have h11 : (k == 11) = false := by simp; omega
  simp only [pf79, ↓wpre, wall, simprocAttr, h0, h1, h2, h3, h4, h5, h6, h7, h8, h9, h10, h11]
  refine ⟨_, _, _, rfl, ?_, fun h => by cases h⟩
  symm; simp; omega
theorem binds_ret (k i : Int) (n : ByteArray) (s : List Int) (t1 t2 : Tl) (kas : List AV) (j : Nat) (hj : j ≤ lenB) (hs : s.length ≤ lenB) : Out md pfs 122 [.agg [.int k, .int i, .str n, .sl (ints s) t1, .sl kas t2], .int j] (· = .int (under k s j)) fun _ => False := by
 refine out_of pf122_is (Nat.le_of_ble_eq_true rfl) ?_
 cases h1 : (k == 1)
 ·cases h7 : (k == 7)
  ·cases h4 : (k == 4)
   ·simp only [pf122, ↓wpre, wall, simprocAttr, h1, h7, h4]
    simp at h1 h7 h4
    simp [under, h1, h7, h4]
   ·cases hj1 : decide ((j : Int) > 0)
    ·simp only [pf122, ↓wpre, wall, simprocAttr, h1, h7, h4, hj1]
     simp at h1 h7 hj1
     simp [under, h1, h7, show ¬ 1 ≤ j by omega]
    ·cases hj2 : decide ((j : Int) ≤ ((ints s).length : Int))
     ·simp only [pf122, ↓wpre, wall, simprocAttr, h1, h7, h4, hj1, hj2]
      simp [ints_len] at h1 h7 hj1 hj2
      simp [under, h1, h7, show ¬ j ≤ s.length by omega]
     ·have hw : IntKind.i64.wrap ((j : Int) - 1) = ((j - 1 : Nat) : Int) := by
       simp at hj1
       rw [wrap_in (by unfold in64; unfold lenB at hj; omega)]; omega
      simp [ints_len] at hj1 hj2
      obtain ⟨x, g1, g2, g3⟩ := ints_get (l := s) (i := j - 1) (by omega)
      have hj1' : decide ((j : Int) > 0) = true := by simp; omega
      have hj2' : decide ((j : Int) ≤ ((ints s).length : Int)) = true := by simp [ints_len]; omega
      simp only [pf122, ↓wpre, wall, simprocAttr, h1, h7, h4, hj1', hj2', hw, g3, ints_all, Int.natCast_nonneg]
      simp at h1 h7 h4
      have : s.getD (j - 1) 0 = x := by simp [List.getD, g1]
      simp only [under, h1, h7, h4, this, hj1, hj2]
      simp [show 1 ≤ j by omega]
  ·cases hj1 : ((j : Int) == 1)
   ·simp at h7
    subst h7
    simp only [pf122, ↓wpre, wall, simprocAttr, h1, hj1]
    simp at hj1
    simp [under, show ¬ j = 1 by omega]
   ·simp only [pf122, ↓wpre, wall, simprocAttr, h1, h7, hj1]
    simp at h7 hj1
    simp [under, h7, show j = 1 by omega]
 ·simp only [pf122, ↓wpre, wall, simprocAttr, h1]
  simp at h1
  simp [under, h1]
theorem rformed_ret {e : Ex} {a : AV} (h : e.Is a) : Out md pfs 38 [a] (· = .bool e.fm) fun _ => False := by
 obtain ⟨k, i, n, s, kids⟩ := e
 obtain ⟨t1, t2, kas, rfl, h1, h2, h3, h4, h5, h6⟩ := h.opn
 refine out_of pf38_is (Nat.le_of_ble_eq_true rfl) ?_
 have hlen := h6.len
 have ez : fmB k i n s kids.length = (Ex.mk k i n s kids).fm := rfl
 rw [← hlen] at ez
 obtain ⟨v, ⟨lo, hi, ok, rfl, hok, hlh⟩, cs⟩ := (shape_ret (k := k) (i := i) (n := n) (t1 := t1) (t2 := t2) (kas := kas) h4).call rfl (by simp [pvs_cons, pvs_nil, exPure _ h])
 cases ok
 ·simp only [pf38, ↓wpre, wall, simprocAttr, cs]
  rw [← ez]
  refine boolAV ?_
  simp only [fmB]
  rw [← hok]; rfl
 have hF := fm_ref (i := i) (n := n) (l := kas.length) hok (hlh rfl)
 rw [hF] at ez
 clear hF hlh hok
 cases c1 : decide ((kas.length : Int) < lo)
 ·cases c2 : decide ((kas.length : Int) > hi)
  ·cases c3 : decide ((s.length : Int) > 32)
   ·simp only [pf38, ↓wpre, wall, simprocAttr, cs, c1, c2, c3, ints_len]
    rw [c1, c2, c3] at ez
    simp only [Bool.not_false, Bool.true_and] at ez
    refine W_loopE (fun j => s.length - j) (fun j E H T => H = [.cells false [.int k, .int i, .str n, .sl (ints s) t1, .sl kas t2]] ∧ E 1 = .ptr 0 0 ∧ E 6 = .int j ∧ j ≤ s.length ∧ (s.take j).any badSize = false) ?_ 0 ⟨rfl, rfl, rfl, Nat.zero_le _, rfl⟩
    rintro j E H T ⟨rfl, e1, e6, hj, hn⟩
    rcases Nat.lt_or_ge j s.length with hlt | hge
    ·obtain ⟨x, d0, d1, d2⟩ := ints_get hlt
     have hdec : decide ((j : Int) < s.length) = true := by simpa using hlt
     cases b1 : decide (x < 0)
     ·cases b2 : decide (x > 64)
      ·simp only [↓wpre, wall, simprocAttr, e1, e6, hdec, ints_len, ints_all, d2, b1, b2]
       exact EQ_in ⟨j + 1, by omega, rfl, e1, next_ixv (by omega), by omega, by rw [List.take_add_one, d0]; simp only [List.any_append, hn, Option.toList_some, List.any_cons, List.any_nil, badSize, b1, b2]; rfl⟩
      ·simp only [↓wpre, wall, simprocAttr, e1, e6, hdec, ints_len, ints_all, d2, b1, b2]
       have : s.any badSize = true := List.any_eq_true.2 ⟨x, List.mem_of_getElem? d0, by simp only [badSize, b1, b2]; rfl⟩
       rw [← ez, this]; rfl
     ·simp only [↓wpre, wall, simprocAttr, e1, e6, hdec, ints_len, ints_all, d2, b1]
      have : s.any badSize = true := List.any_eq_true.2 ⟨x, List.mem_of_getElem? d0, by simp only [badSize, b1]; rfl⟩
      rw [← ez, this]; rfl
    ·have hdec : decide ((j : Int) < s.length) = false := by simpa using hge
     rw [List.take_of_length_le hge] at hn
     rw [hn] at ez
     simp only [Bool.not_false, Bool.true_and] at ez
     by_cases k3 : k = 3
     ·subst k3
      cases s0 : decide ((s.length : Int) > 0) <;> cases hi : decide (i < 0) <;> cases i32 : decide (i < 32)
      all_goals
       simp only [↓wpre, wall, simprocAttr, e1, e6, hdec, ints_len, s0, hi, i32]
       rw [← ez, s0, hi, i32]
       simp
     ·have x3 : (k == 3) = false := by simpa using k3
      rw [if_neg k3, x3] at ez
      by_cases k5 : k = 5
      ·subst k5
       cases s0 : decide ((s.length : Int) > 0) <;> cases hi : decide (i < 0) <;> cases xi : (i == 0)
       all_goals
        simp only [↓wpre, wall, simprocAttr, e1, e6, hdec, ints_len, s0, hi, xi]
        rw [← ez, s0, hi, xi]
        simp
      ·have x5 : (k == 5) = false := by simpa using k5
       rw [x5] at ez
       cases hn0 : (n.size == 0)
       ·simp only [↓wpre, wall, simprocAttr, e1, e6, hdec, ints_len, x3, x5, hn0]
        rw [← ez, hn0]; rfl
       ·rw [hn0] at ez
        cases x4 : (k != 4)
        ·have x0 : (k == 0) = false := by simp at x4 ⊢; omega
         cases hi : decide (i < 0) <;> cases xi : (i == 0)
         all_goals
          simp only [↓wpre, wall, simprocAttr, e1, e6, hdec, ints_len, x3, x5, x4, hn0, x0, hi, xi]
          rw [← ez, x4, hi, xi, x0]
          simp
        ·cases s0 : decide ((s.length : Int) > 0) <;> cases hi : decide (i < 0) <;> cases xi : (i == 0) <;> cases x0 : (k == 0)
         all_goals
          simp only [↓wpre, wall, simprocAttr, e1, e6, hdec, ints_len, x3, x5, x4, hn0, x0, s0, hi, xi]
          rw [← ez, x4, hi, xi, x0, s0]
          simp
   ·simp only [pf38, ↓wpre, wall, simprocAttr, cs, c1, c2, c3, ints_len]
    rw [← ez, c1, c2, c3]; rfl
  ·simp only [pf38, ↓wpre, wall, simprocAttr, cs, c1, c2]
   rw [← ez, c1, c2]; rfl
 ·simp only [pf38, ↓wpre, wall, simprocAttr, cs, c1]
  rw [← ez, c1]; rfl
theorem rsize_ret (e : Ex) : ∀ {a}, e.Is a → Out md pfs 35 [a] (· = .int e.size) fun _ => False := by
 induction e using Ex.ind with
 | h k i n s kids ih =>
 intro a h
 obtain ⟨t1, t2, kas, rfl, h1, h2, h3, h4, h5, h6⟩ := h.opn
 refine out_of pf35_is (Nat.le_of_ble_eq_true rfl) ?_
 simp only [pf35, ↓wpre, wall, simprocAttr]
 refine W_loopE (fun j => kas.length - j) (fun j E H T => ∃ acc, H = [.cells false [.int k, .int i, .str n, .sl (ints s) t1, .sl kas t2]] ∧ E 1 = .ptr 0 0 ∧ E 4 = .int j ∧ E 3 = .int acc ∧ j ≤ kas.length ∧ Ex.sizes acc (kids.drop j) = Ex.sizes 1 kids) ?_ 0 ⟨1, rfl, rfl, rfl, rfl, Nat.zero_le _, rfl⟩
 rintro j E H T ⟨acc, rfl, e1, e4, e3, hj, hn⟩
 rcases Nat.lt_or_ge j kas.length with hlt | hge
 ·obtain ⟨x, c, d0, d1, d3, d4, d5, d6, d7, d8⟩ := h6.get exAgg hlt
  have hdec : decide ((j : Int) < kas.length) = true := by simpa using hlt
  have hall := h6.all exAgg
  obtain ⟨v, rfl, hc⟩ := (ih x d3 d8).call rfl (by simp [pvs_cons, pvs_nil, exPure _ d8])
  rw [d1, Ex.sizes] at hn
  simp only [↓wpre, wall, simprocAttr, e3, e1, e4, hdec, d4, d5, d6, d7, hall, hc]
  exact EQ_in ⟨j + 1, by omega, _, rfl, e1, next_ixv (by omega), rfl, by omega, hn⟩
 ·have hdec : decide ((j : Int) < kas.length) = false := by simpa using hge
  simp only [↓wpre, wall, simprocAttr, e3, e1, e4, hdec]
  rw [List.drop_eq_nil_of_le (by rw [← h6.len]; omega)] at hn
  simp only [Ex.size, ← hn]; rfl
theorem deep_ret (e : Ex) : ∀ {a}, e.Is a → Out md pfs 100 [a] (· = .int e.deep) fun _ => False := by
 induction e using Ex.ind with
 | h k i n s kids ih =>
 intro a h
 obtain ⟨t1, t2, kas, rfl, h1, h2, h3, h4, h5, h6⟩ := h.opn
 refine out_of pf100_is (Nat.le_of_ble_eq_true rfl) ?_
 simp only [pf100, ↓wpre, wall, simprocAttr]
 refine W_loopE (fun j => kas.length - j) (fun j E H T => ∃ acc, H = [.cells false [.int k, .int i, .str n, .sl (ints s) t1, .sl kas t2]] ∧ E 1 = .ptr 0 0 ∧ E 4 = .int j ∧ E 3 = .int acc ∧ j ≤ kas.length ∧ Ex.deeps acc (kids.drop j) = Ex.deeps 0 kids) ?_ 0 ⟨0, rfl, rfl, rfl, rfl, Nat.zero_le _, rfl⟩
 rintro j E H T ⟨acc, rfl, e1, e4, e3, hj, hn⟩
 rcases Nat.lt_or_ge j kas.length with hlt | hge
 ·obtain ⟨x, c, d0, d1, d3, d4, d5, d6, d7, d8⟩ := h6.get exAgg hlt
  have hdec : decide ((j : Int) < kas.length) = true := by simpa using hlt
  have hall := h6.all exAgg
  obtain ⟨v, rfl, hc⟩ := (ih x d3 d8).call rfl (by simp [pvs_cons, pvs_nil, exPure _ d8])
  rw [d1, Ex.deeps] at hn
  simp only [↓wpre, wall, simprocAttr, e3, e1, e4, hdec, d4, d5, d6, d7, hall, hc]
  exact EQ_in ⟨j + 1, by omega, _, rfl, e1, next_ixv (by omega), rfl, by omega, hn⟩
 ·have hdec : decide ((j : Int) < kas.length) = false := by simpa using hge
  simp only [↓wpre, wall, simprocAttr, e3, e1, e4, hdec]
  rw [List.drop_eq_nil_of_le (by rw [← h6.len]; omega)] at hn
  simp only [Ex.deep, ← hn]; rfl
theorem global_ret {p : Pr} {a : AV} (h : p.Is a) (n : ByteArray) : Out md pfs 68 [a, .str n] (fun v => (∃ e a, gfind p.gs n = some e ∧ v = .tup [a, .bool true] ∧ e.Is a) ∨ (gfind p.gs n = none ∧ v = .tup [zeroAV, .bool false])) fun _ => False := by
 have hp := prPure h
 obtain ⟨gas, tg, c, rfl, h1, h2, h3, h4, h5, h6, h7, h8, h9, h10⟩ := h
 refine out_of pf68_is (Nat.le_of_ble_eq_true rfl) ?_
 simp only [pf68, ↓wpre, wall, simprocAttr, h5]
 refine W_loopE (fun j => gas.length - j) (fun j E H T => H = [.cells false (.sl gas tg :: c), .cells false [.int 0, .int 0, .str ⟨#[]⟩, .sl [] .nil, .sl [] .nil]] ∧ E 1 = .str n ∧ E 2 = .ptr 0 0 ∧ E 4 = .ptr 1 0 ∧ E 6 = .int j ∧ j ≤ gas.length ∧ gfind (p.gs.drop j) n = gfind p.gs n) ?_ 0 ⟨rfl, rfl, rfl, rfl, rfl, Nat.zero_le _, rfl⟩
 rintro j E H T ⟨rfl, e1, e2, e4, e6, hj, hn⟩
 rcases Nat.lt_or_ge j gas.length with hlt | hge
 ·obtain ⟨g, c', d0, d1, d3, d4, ⟨c2, e, hns, hg⟩⟩ := h3.at hlt
  subst e
  obtain ⟨c3, e, b1, b2⟩ := exAgg.cells hg
  cases e
  have b3 : c2.take 5 = c2 := List.take_of_length_le (by omega)
  have hdec : decide ((j : Int) < gas.length) = true := by simpa using hlt
  rw [d1, gfind] at hn
  cases hx : decide (g.1 = n)
  ·simp only [↓wpre, wall, simprocAttr, e1, e2, e4, e6, hdec, d4, h10, str_eq, hx, b1, b2, b3]
   rw [if_neg (by simpa using hx)] at hn
   exact EQ_in ⟨j + 1, by omega, rfl, e1, e2, e4, next_ixv (by omega), by omega, hn⟩
  ·simp only [↓wpre, wall, simprocAttr, e1, e2, e4, e6, hdec, d4, h10, str_eq, hx, b1, b2, b3, exPure _ hg]
   rw [if_pos (by simpa using hx)] at hn
   exact .inl ⟨_, _, hn.symm, rfl, hg⟩
 ·have hdec : decide ((j : Int) < gas.length) = false := by simpa using hge
  rw [List.drop_eq_nil_of_le (by rw [← h3.len]; omega)] at hn
  simp only [↓wpre, wall, simprocAttr, e1, e2, e4, e6, hdec]
  exact .inr ⟨hn.symm, rfl⟩
theorem rcheck_ret {p : Pr} {pa : AV} (hp : p.Is pa) (e : Ex) : ∀ {a v}, e.Is a → Out md pfs 99 [pa, a, .int v] (· = .int (e.err p.gl v)) fun _ => False := by
 obtain ⟨gas, tg, c, rfl, h1, h2, h3, h4, h5, h6, h7, h8, h9, h10⟩ := id hp
 induction e using Ex.ind with
 | h k i n s kids ih =>
 intro a v h
 obtain ⟨t1, t2, kas, rfl, g1, g2, g3, g4, g5, g6⟩ := h.opn
 refine out_of pf99_is (Nat.le_of_ble_eq_true rfl) ?_
 obtain ⟨_, rfl, cf⟩ := (rformed_ret h).call rfl (by simp [pvs_cons, pvs_nil, exPure _ h])
 obtain ⟨_, rfl, cn⟩ := (refName_ret n g3.2).call rfl (by simp [pvs_cons, pvs_nil, pv_v])
 obtain ⟨w, hw, cg⟩ := (global_ret hp n).call rfl (by simp [pvs_cons, pvs_nil, pv_v, prPure hp])
 have hw' : ∃ cg5, w = .tup [.agg cg5, .bool (p.gl n)] ∧ cg5.length = 5 ∧ cg5.all oneCell = true := by
  rcases hw with ⟨e, a, q1, rfl, q2⟩ | ⟨q1, rfl⟩
  ·obtain ⟨c5, rfl, l1, l2⟩ := exAgg.cells q2
   exact ⟨c5, by simp [Pr.gl, q1], l1, l2⟩
  ·exact ⟨[.int 0, .int 0, .str ⟨#[]⟩, .sl [] .nil, .sl [] .nil], by simp [Pr.gl, q1, zeroAV], rfl, rfl⟩
 obtain ⟨cg5, rfl, w1, w2⟩ := hw'
 simp only [Ex.err]
 rw [show fmB k i n s kids.length = Ex.fm (.mk k i n s kids) from rfl]
 cases hf : (Ex.fm (.mk k i n s kids))
 ·simp only [pf99, ↓wpre, wall, simprocAttr, h5, h6, h7, cf, hf]
 ·rw [if_neg (by decide)]
  have hnb : namedB k = (k == 3 || k == 5) := rfl
  obtain ⟨gb, hgb⟩ : ∃ b, p.gl n = b := ⟨_, rfl⟩
  obtain ⟨nm, hnm⟩ : ∃ b, isName n = b := ⟨_, rfl⟩
  obtain ⟨iv, hiv⟩ : ∃ b, decide (i ≥ v) = b := ⟨_, rfl⟩
  rw [hnm, hgb, hiv]
  rw [hgb] at cg
  rw [hnm] at cn
  by_cases hN : namedB k = true ∧ nm = false
  ·rw [if_pos hN]
   obtain ⟨hN, rfl⟩ := hN
   cases x3 : (k == 3) <;> cases x5 : (k == 5)
   ·rw [hnb, x3, x5] at hN; cases hN
   all_goals simp only [pf99, ↓wpre, wall, simprocAttr, h5, h6, h7, cf, hf, cn, x3, x5]
  rw [if_neg hN]
  by_cases hS : k = 0 ∧ iv = true
  ·rw [if_pos hS]
   obtain ⟨rfl, rfl⟩ := hS
   simp only [pf99, ↓wpre, wall, simprocAttr, h5, h6, h7, cf, hf, cn, hiv]
  rw [if_neg hS]
  by_cases hG : k = 5 ∧ gb = false
  ·rw [if_pos hG]
   obtain ⟨rfl, rfl⟩ := hG
   have : nm = true := by cases nm; exact absurd ⟨rfl, rfl⟩ hN; rfl
   subst this
   simp only [pf99, ↓wpre, wall, simprocAttr, h5, h6, h7, cf, hf, cn, cg, w1, w2]
  rw [if_neg hG]
  have key : ∀ x3 x5 x0 : Bool, (k == 3) = x3 → (k == 5) = x5 → (k == 0) = x0 → ((x3 = true ∨ x5 = true) → nm = true) → (x0 = true → iv = false) → (x5 = true → gb = true) → W (run md pfs) md pf99.body ⟨tmE pf99.nt (argsE [.agg (.sl gas tg :: c), .agg [.int k, .int i, .str n, .sl (ints s) t1, .sl kas t2], .int v]), [], ⟨[], []⟩⟩ (RQ pf99.res (· = .int (errL p.gl k s v 0 kids)) fun _ => False) () := by
   intro x3 x5 x0 hx3 hx5 hx0 a1 a2 a3
   cases x3 <;> cases x5 <;> cases x0
   all_goals try (exfalso; simp at hx3 hx5 hx0; omega)
   all_goals first | (have b1 := a1 (.inl rfl); subst b1) | (have b1 := a1 (.inr rfl); subst b1) | skip
   all_goals try (have b2 := a2 rfl; subst b2)
   all_goals try (have b3 := a3 rfl; subst b3)
   all_goals
    simp only [pf99, ↓wpre, wall, simprocAttr, h5, h6, h7, cf, hf, cn, cg, w1, w2, hx3, hx5, hx0, hiv]
    refine W_loopE (fun j => kas.length - j) (fun j E H T => ∃ x, H = [.cells false (.sl gas tg :: c), .cells false [.int k, .int i, .str n, .sl (ints s) t1, .sl kas t2], x] ∧ E 2 = .int v ∧ E 3 = .ptr 0 0 ∧ E 4 = .ptr 1 0 ∧ E 9 = .int j ∧ j ≤ kas.length ∧ errL p.gl k s v j (kids.drop j) = errL p.gl k s v 0 kids) ?_ 0 ⟨_, rfl, rfl, rfl, rfl, rfl, Nat.zero_le _, rfl⟩
    rintro j E H T ⟨x, rfl, e2, e3, e4, e9, hj, hn⟩
    rcases Nat.lt_or_ge j kas.length with hlt | hge
    ·obtain ⟨y, c2, d0, d1, d3, d4, d5, d6, d7, d8⟩ := g6.get exAgg hlt
     have hdec : decide ((j : Int) < kas.length) = true := by simpa using hlt
     have hall := g6.all exAgg
     obtain ⟨_, rfl, cb⟩ := (binds_ret k i n s t1 t2 kas j (by omega) g4).call rfl (by simp [pvs_cons, pvs_nil, pv_v, exPure _ h])
     obtain ⟨_, rfl, cr⟩ := (ih y d3 (v := w64 (v + under k s j)) d8).call rfl (by simp [pvs_cons, pvs_nil, pv_v, prPure hp, exPure _ d8])
     rw [d1, errL] at hn
     cases hz : (Ex.err p.gl (w64 (v + under k s j)) y != 0)
     ·simp only [↓wpre, wall, simprocAttr, h5, h6, h7, e2, e3, e4, e9, hdec, d4, d5, d6, d7, hall, cb, cr, hz]
      rw [if_pos (by simpa using hz)] at hn
      exact EQ_in ⟨j + 1, by omega, _, rfl, e2, e3, e4, next_ixv (by omega), by omega, hn⟩
     ·simp only [↓wpre, wall, simprocAttr, h5, h6, h7, e2, e3, e4, e9, hdec, d4, d5, d6, d7, hall, cb, cr, hz]
      rw [if_neg (by simpa using hz)] at hn
      rw [← hn]
    ·have hdec : decide ((j : Int) < kas.length) = false := by simpa using hge
     rw [List.drop_eq_nil_of_le (by rw [← g6.len]; omega)] at hn
     simp only [↓wpre, wall, simprocAttr, e2, e3, e4, e9, hdec]
     rw [← hn]; rfl
  refine key _ _ _ rfl rfl rfl ?_ ?_ ?_
  ·intro h; cases nm
   ·exact absurd ⟨by rw [hnb]; simpa using h, rfl⟩ hN
   ·rfl
  ·intro h; cases iv
   ·rfl
   ·exact absurd ⟨by simpa using h, rfl⟩ hS
  ·intro h; cases gb
   ·exact absurd ⟨by simpa using h, rfl⟩ hG
   ·rfl
theorem rwhole_ret {p : Pr} {pa : AV} (hp : p.Is pa) {e : Ex} {a : AV} (h : e.Is a) : Out md pfs 53 [pa, a] (· = .int (e.whole p.gl)) fun _ => False := by
 obtain ⟨_, rfl, c1⟩ := (rcheck_ret hp e (v := 0) h).call rfl (by simp [pvs_cons, pvs_nil, pv_v, prPure hp, exPure _ h])
 obtain ⟨_, rfl, c2⟩ := (rsize_ret e h).call rfl (by simp [pvs_cons, pvs_nil, pv_v, exPure _ h])
 obtain ⟨_, rfl, c3⟩ := (deep_ret e h).call rfl (by simp [pvs_cons, pvs_nil, pv_v, exPure _ h])
 obtain ⟨gas, tg, c, rfl, h1, h2, h3, h4, h5, h6, h7, h8, h9, h10⟩ := id hp
 obtain ⟨c', rfl, l1, l2⟩ := exAgg.cells h
 have l3 : c'.take 5 = c' := List.take_of_length_le (by omega)
 refine out_of pf53_is (Nat.le_of_ble_eq_true rfl) ?_
 simp only [Ex.whole]
 cases b1 : (e.err p.gl 0 != 0)
 ·cases b2 : decide (e.size > 4096)
  ·cases b3 : decide (e.deep > 200)
   all_goals simp only [pf53, ↓wpre, wall, simprocAttr, h5, h6, l1, l3, c1, c2, c3, b1, b2, b3]
  ·simp only [pf53, ↓wpre, wall, simprocAttr, h5, h6, l1, l3, c1, c2, c3, b1, b2]
 ·simp only [pf53, ↓wpre, wall, simprocAttr, h5, h6, l1, l3, c1, c2, c3, b1]
theorem rCheck_ret {p : Pr} {pa : AV} (hp : p.Is pa) : Out md pfs 25 [pa] (· = .int p.check) fun _ => False := by
 obtain ⟨gas, tg, c, rfl, h1, h2, h3, h4, h5, h6, h7, h8, h9, h10⟩ := id hp
 refine out_of pf25_is (Nat.le_of_ble_eq_true rfl) ?_
 have hl := h3.len
 simp only [Pr.check]
 rw [← hl]
 cases b0 : decide ((gas.length : Int) > 1000)
 ·simp only [pf25, ↓wpre, wall, simprocAttr, h5, b0]
  refine W_loopE (fun j => gas.length - j) (fun j E H T => H = [.cells false (.sl gas tg :: c)] ∧ E 1 = .ptr 0 0 ∧ E 3 = .int j ∧ j ≤ gas.length ∧ p.go (p.gs.take j) (p.gs.drop j) = p.go [] p.gs) ?_ 0 ⟨rfl, rfl, rfl, Nat.zero_le _, rfl⟩
  rintro j E H T ⟨rfl, e1, e3, hj, hn⟩
  rcases Nat.lt_or_ge j gas.length with hlt | hge
  ·obtain ⟨g, _, d0, d1, d3, d4, ⟨c2, rfl, hns, hg⟩⟩ := h3.at hlt
   obtain ⟨c3, e, b1, b2⟩ := exAgg.cells hg
   cases e
   have b3 : c2.take 5 = c2 := List.take_of_length_le (by omega)
   have hdec : decide ((j : Int) < gas.length) = true := by simpa using hlt
   rw [d1, Pr.go] at hn
   obtain ⟨_, rfl, cn⟩ := (refName_ret g.1 hns).call rfl (by simp [pvs_cons, pvs_nil, pv_v])
   obtain ⟨_, rfl, cw⟩ := (rwhole_ret hp hg).call rfl (by simp [pvs_cons, pvs_nil, pv_v, prPure hp, exPure _ hg])
   cases nm : isName g.1
   ·simp only [↓wpre, wall, simprocAttr, e1, e3, hdec, d4, h10, cn, nm]
    rw [← hn, if_pos nm]
   ·rw [if_neg (by rw [nm]; decide)] at hn
    simp only [↓wpre, wall, simprocAttr, e1, e3, hdec, d4, h10, cn, nm]
    refine W_loopE (fun m => j - m) (fun m E H T => H = [.cells false (.sl gas tg :: c)] ∧ E 1 = .ptr 0 0 ∧ E 3 = .int j ∧ E 4 = .int m ∧ m ≤ j ∧ ((p.gs.take m).any fun x => decide (x.1 = g.1)) = false) ?_ 0 ⟨rfl, e1, e3, rfl, Nat.zero_le _, rfl⟩
    rintro m E H T ⟨rfl, e1, e3, e4, hm, hm2⟩
    rcases Nat.lt_or_ge m j with hlt2 | hge2
    ·obtain ⟨g2, _, q0, q1, q3, q4, ⟨c4, rfl, hns2, hg2⟩⟩ := h3.at (i := m) (by omega)
     have hdec2 : decide ((m : Int) < j) = true := by simpa using hlt2
     cases hx : decide (g2.1 = g.1)
     ·simp only [↓wpre, wall, simprocAttr, e1, e3, e4, hdec2, d4, q4, h10, str_eq, hx]
      exact EQ_in ⟨m + 1, by omega, rfl, e1, e3, next_ixv (by omega), by omega, by rw [List.take_add_one, q0]; simp [List.any_append, hm2, hx]⟩
     ·simp only [↓wpre, wall, simprocAttr, e1, e3, e4, hdec2, d4, q4, h10, str_eq, hx]
      have : ((p.gs.take j).any fun x => decide (x.1 = g.1)) = true := by
       refine List.any_eq_true.2 ⟨g2, ?_, hx⟩
       refine List.mem_of_getElem? (i := m) ?_
       rw [List.getElem?_take_of_lt hlt2]; exact q0
      rw [← hn, if_pos this]
    ·have hmj : m = j := by omega
     subst hmj
     have hdec2 : decide ((m : Int) < m) = false := by simp
     rw [hm2] at hn
     rw [if_neg (by decide)] at hn
     cases hz : (g.2.whole p.gl != 0)
     ·simp only [↓wpre, wall, simprocAttr, h5, h6, e1, e3, e4, hdec2, d4, h10, b1, b3, cw, hz]
      rw [if_neg (by rw [hz]; decide)] at hn
      exact EQ_in ⟨m + 1, by omega, rfl, e1, next_ixv (by omega), by omega, by rw [List.take_add_one, d0]; exact hn⟩
     ·simp only [↓wpre, wall, simprocAttr, h5, h6, e1, e3, e4, hdec2, d4, h10, b1, b3, cw, hz]
      rw [if_pos hz] at hn
      rw [← hn]
  ·have hdec : decide ((j : Int) < gas.length) = false := by simpa using hge
   rw [List.drop_eq_nil_of_le (by rw [← h3.len]; omega)] at hn
   obtain ⟨_, rfl, cw⟩ := (rwhole_ret hp h4).call rfl (by simp [pvs_cons, pvs_nil, pv_v, prPure hp, exPure _ h4])
   simp only [↓wpre, wall, simprocAttr, h5, h6, e1, e3, hdec, cw]
   rw [← hn]; rfl
 ·simp only [pf25, ↓wpre, wall, simprocAttr, b0]
end Go.Proofs.Eng
namespace Go.Proofs.Eng
open Go Go.Proofs
set_option maxRecDepth 100000
set_option maxHeartbeats 16000000
theorem rCompile_ret {p : Pr} {pa : AV} (hp : p.Is pa) {B : Int} (hok : p.check = 0 → PrOK p B ∧ (compC p).bl.length ≤ 900000 ∧ ((compC p).bl.map List.length).sum ≤ capB) :
  Out md pfs 8 [pa] (fun v => (p.check ≠ 0 ∧ v = .tup [.agg [.sl [] .nil, .sl [] .nil, .sl [] .nil], .int p.check]) ∨ (p.check = 0 ∧ ∃ a, v = .tup [a, .int 0] ∧ (compC p).Is a)) fun _ => False := by
 obtain ⟨gas, tg0, c, rfl, h1, h2, h3, h4, h5, h6, h7, h8, h9, h10⟩ := id hp
 have hgl : gas.length = p.gs.length := h3.len
 have hcap : capB = 1073741824 := rfl
 refine out_of pf8_is (Nat.le_of_ble_eq_true rfl) ?_
 obtain ⟨_, rfl, cck⟩ := (rCheck_ret hp).call rfl (by simp [pvs_cons, pvs_nil, prPure hp])
 cases hz : (p.check == 0)
 ·have hz' : p.check ≠ 0 := by simpa using hz
  have hne : (p.check != 0) = true := by simp [bne, hz]
  simp only [pf8, ↓wpre, wall, simprocAttr, List.length_append, List.append_assoc, app_get_len, app_get_add, app_set_len, app_set_add, h5, h6, h10, cck, hz, hne]
  exact .inl hz'
 have hz' : p.check = 0 := by simpa using hz
 obtain ⟨hP, hbl, hsum⟩ := hok hz'
 rw [hz'] at cck
 have hcnt := comp_cnt hP
 have hI0 : RI (.sl gas tg0) [] [] [] [] [] [.cells false (.sl gas tg0 :: c), .cells false [.sl [] .nil, .sl [] .nil, .sl [] .nil], .cells false [.sl gas tg0, .sl [] .nil, .sl [] .nil], .cells false [.sl [] .nil, .sl [] .nil, .sl [] .nil]] [] [] .nil .nil .nil :=
  ⟨⟨[], .nil, .nil, rfl, trivial, .inl ⟨rfl, rfl⟩, .inl ⟨rfl, rfl⟩, fun _ _ _ e => by cases e⟩, rfl, trivial, .inl ⟨rfl, rfl⟩, .inl ⟨rfl, rfl⟩, .inl ⟨rfl, rfl⟩, fun _ _ e => (by cases e), fun _ _ e => (by cases e), fun _ _ e => (by cases e), fun _ _ _ e => (by cases e), fun _ _ _ e => (by cases e), fun _ _ _ e => (by cases e)⟩
 obtain ⟨H1, V1, a1, a2, a3⟩ := rblock_call hI0.cs h4 (by simp)
 have hI1 := hI0.stp a1 a2
 simp only [pf8, ↓wpre, wall, simprocAttr, List.length_append, List.append_assoc, app_get_len, app_get_add, app_set_len, app_set_add, h5, h6, h10, cck, a3]
 have hH1 : H1[1]? = some (.cells false [.sl [] .nil, .sl [] .nil, .sl [] .nil]) := a2.get rfl (by decide)
 have hH0 : H1[0]? = some (.cells false (.sl gas tg0 :: c)) := a2.get rfl (by decide)
 refine W_loopE (fun j => gas.length - j) (fun j E H T => j ≤ gas.length ∧ H[0]? = some (.cells false (.sl gas tg0 :: c)) ∧ H[1]? = some (.cells false [.sl [] .nil, .sl [] .nil, .sl [] .nil]) ∧ E 1 = .ptr 0 0 ∧ E 2 = .ptr 1 0 ∧ E 3 = .int 0 ∧ E 5 = .ptr 2 0 ∧ E 6 = .ptr 3 0 ∧ E 7 = .int j ∧ ∃ tg ts, RI (.sl gas tg0) (p.main :: (p.gs.take j).map (·.2)) [] [] ((p.gs.take j).map (·.1)) (nsL j) H T [] .nil tg ts) ?_ 0 ⟨Nat.zero_le _, hH0, hH1, rfl, rfl, rfl, rfl, rfl, rfl, _, _, hI1⟩
 rintro j E H V ⟨hj, b0, b1, e1, e2, e3, e5, e6, e7, tg, ts, hI⟩
 rcases Nat.lt_or_ge j gas.length with hlt | hge
 ·obtain ⟨g, _, d0, d1, d3, d4, ⟨c2, rfl, hns, hg⟩⟩ := h3.at hlt
  obtain ⟨c3, e, g1, g2⟩ := exAgg.cells hg
  cases e
  have g3 : c2.take 5 = c2 := List.take_of_length_le (by omega)
  have hdec : decide ((j : Int) < gas.length) = true := by simpa using hlt
  have hgn : ((p.gs.take (j + 1)).map (·.1)) = (p.gs.take j).map (·.1) ++ [g.1] := by rw [List.take_add_one, d0]; simp
  have hge : p.main :: ((p.gs.take (j + 1)).map (·.2)) = (p.main :: (p.gs.take j).map (·.2)) ++ [g.2] := by rw [List.take_add_one, d0]; simp
  have hbl' := hcnt.1
  obtain ⟨tg', V', q1, q2, q3⟩ := app_many (es := 1) (xs := [.str g.1]) hI.ag (by simp [nmA_len]; omega) (nmA_all _) rfl
  rw [← nmA_snoc] at q1 q2
  replace q1 : ∀ H, appA ⟨H, V⟩ 1 none (nmA ((p.gs.take j).map (·.1))) tg [.str g.1] = some (.sl (nmA ((p.gs.take j).map (·.1) ++ [g.1])) tg', ⟨H, V'⟩) := q1
  have hB := hI.setG q2 q3
  obtain ⟨H3, V3, r1, r2, r3⟩ := rblock_call hB.cs hg (by simp; omega)
  have hD := hB.stp r1 r2
  have hel : (p.main :: (p.gs.take j).map (·.2)).length = j + 1 := by simp; omega
  rw [hel] at r3
  obtain ⟨ts', V4, u1, u2, u3⟩ := app_many (es := 1) (xs := [.int ((j + 1 : Nat) : Int)]) hD.ai (by rw [ints_len, nsL_len]; simp only [List.length_cons, List.length_nil]; omega) (ints_all _) rfl
  rw [← ints_snoc, ← nsL_snoc] at u1
  rw [← ints_snoc] at u2
  replace u1 : ∀ H, appA ⟨H, V3⟩ 1 none (ints (nsL j)) ts [.int ((j + 1 : Nat) : Int)] = some (.sl (ints (nsL (j + 1))) ts', ⟨H, V4⟩) := u1
  have hF := hD.setS u2 u3
  rw [← nsL_snoc] at hF
  have hlen := hI.lt
  have f0 : (H.set 3 (.cells false [.sl [] .nil, .sl (nmA ((p.gs.take j).map (·.1) ++ [g.1])) tg', .sl (ints (nsL j)) ts]))[0]? = some (.cells false (.sl gas tg0 :: c)) := set_ne b0 (by decide)
  have f1 := r2.get f0 (by decide)
  have hq : eqAV (.sl (ints (nsL j)) ts) (.sl (ints (nsL j)) ts) = true := eqT _ _ (eqIs _)
  simp only [↓wpre, wall, simprocAttr, List.length_append, List.append_assoc, app_get_len, app_get_add, app_set_len, app_set_add, e1, e2, e3, e5, e6, e7, b0, f0, f1, hdec, d4, h10, g1, g2, g3, hI.h4, hB.h4, q1, r3, hD.h4, u1, hq]
  exact EQ_in ⟨j + 1, by omega, by omega, set_ne f1 (by decide), set_ne (r2.get (set_ne b1 (by decide)) (by decide)) (by decide), e1, e2, e3, e5, e6, next_ixv (by omega), _, _, by rw [hgn, hge]; exact hF⟩
 have hdec : decide ((j : Int) < gas.length) = false := by simpa using hge
 have hjl : j = p.gs.length := by omega
 subst hjl
 rw [List.take_of_length_le (by omega)] at hI
 obtain ⟨gn, hgn⟩ : ∃ gn : List ByteArray, gn = p.gs.map (·.1) := ⟨_, rfl⟩
 rw [← hgn] at hI
 simp only [↓wpre, wall, simprocAttr, List.length_append, List.append_assoc, app_get_len, app_get_add, app_set_len, app_set_add, e1, e2, e3, e5, e6, e7, b0, hdec]
 refine W_loopE (fun i => 900001 - i) (fun i E H V => ∃ es bls zs f Bs O tb tg ts, E 2 = .ptr 1 0 ∧ E 3 = .int 0 ∧ E 5 = .ptr 2 0 ∧ E 6 = .ptr 3 0 ∧ E 8 = .int (i : Nat) ∧ RI (.sl gas tg0) es O bls gn (nsL p.gs.length) H V Bs tb tg ts ∧ H[1]? = some (.cells false [.sl [] .nil, .sl [] .nil, .sl [] .nil]) ∧ bls.length = i ∧ i ≤ es.length ∧ szL (es.drop i) ≤ f ∧ AllZ (ErrZ p.gl B) (es.drop i) zs ∧ bls ++ blocks p.gs f es.length (es.drop i) = (compC p).bl) ?_ 0 ⟨p.es, [], List.replicate p.es.length 0, szL p.es, [], [], .nil, tg, ts, e2, e3, e5, e6, rfl, hI, b1, rfl, Nat.zero_le _, Nat.le_refl _, allz_zero hP.all, rfl⟩
 clear e1 e2 e3 e5 e6 e7 hI b0 b1 hdec E H V tg ts
 rintro i E H V ⟨es, bls, zs, f, Bs, O, tb, tg, ts, e2, e3, e5, e6, e8, hI, b1, hbi, hi, hf, hz, hb⟩
 have har : arL (es.drop i) := (arL_iff _).2 fun x hx => by
  obtain ⟨z, hz⟩ := AllZ.mem hz hx
  exact err_ar _ hz.1
 have hcb := (blocks_cnt p.gs f es.length (es.drop i) hf har).1
 have hle : es.length ≤ 900000 := by
  have := congrArg List.length hb
  rw [List.length_append, hcb, List.length_drop] at this; omega
 obtain ⟨Q, tq, to, k1, k2, _⟩ := id hI.cs
 have hQl := k2.len
 have hQa := k2.all exAgg
 rcases Nat.lt_or_ge i es.length with hlt | hge
 ·have hx : es[i]? = some es[i] := List.getElem?_eq_getElem hlt
  generalize es[i] = x at hx
  obtain ⟨x', c3, d0, _, _, d4, d5, d6, d7, hxI⟩ := k2.get exAgg (i := i) (by omega)
  rw [hx] at d0; cases d0
  have hdec : decide ((i : Int) < Q.length) = true := by simpa using (show i < Q.length by omega)
  have hN := hI.nil k1
  have k1' : (H.set 2 (.cells false [.sl gas tg0, .sl Q tq, .sl [] .nil]))[2]? = some (.cells false [.sl gas tg0, .sl Q tq, .sl [] .nil]) := by rw [List.getElem?_set, if_pos rfl, if_pos (by have := hI.lt; omega)]
  have hdr : es.drop i = x :: es.drop (i + 1) := by
   obtain ⟨h, rfl⟩ := List.getElem?_eq_some_iff.1 hx
   exact List.drop_eq_getElem_cons h
  rw [hdr] at hz hb hf hcb har
  obtain ⟨z, zs', rfl⟩ : ∃ z zs', zs = z :: zs' := by
   cases zs with
   | nil => exact hz.elim
   | cons z zs' => exact ⟨z, zs', rfl⟩
  obtain ⟨⟨he1, he2, he3⟩, hz2⟩ := hz
  have hP3 := hP.hB
  obtain ⟨n1, n2, n3⟩ := emit_cnt p.gs x (err_ar _ he1) es.length
  have hsz := emit_sz p.gs x es.length
  rw [blocks_cons hf] at hb
  have hm := congrArg List.length hb
  have hml : ((x.emit p.gs es.length).1 ++ [Ins.o 3]).length ≤ capB := by
   refine Nat.le_trans ?_ hsum
   refine sum_mem (List.mem_map_of_mem ?_)
   rw [← hb]; simp
  simp only [List.length_append, List.length_cons, List.length_nil] at hml
  rw [nbL] at hcb
  have hdl := congrArg List.length hdr
  rw [List.length_drop] at hdl
  have hbb := congrArg List.length hb
  rw [List.length_append, ← blocks_cons hf, hcb] at hbb
  obtain ⟨H2, V2, r1, r2, r3⟩ := rexp_call (rexpr_em h3 h2 x he1 he2 (by omega)) hN.cs hxI (by simp only [List.length_nil]; omega) (by simp only [List.length_cons] at hdl hbb; omega)
  have hN2 := hN.stp r1 r2
  obtain ⟨H3, V3, t1, t2, t3⟩ := rput_call hN2.cs 3 0 0 ⟨#[]⟩ (by simp only [List.length_nil, List.length_append]; omega)
  have hN3 := hN2.stp t1 t2
  obtain ⟨Q3, tq3, to3, k3, _⟩ := id hN3.cs
  rw [List.nil_append] at t1 hN3 k3
  have hBs := hI.bl.len
  obtain ⟨tb', V4, u1, u2, u3⟩ := app_many (es := 1) (xs := [.sl (insA ((x.emit p.gs es.length).1 ++ [⟨3, 0, 0, ⟨#[]⟩⟩])) to3]) hN3.ab (by simp only [List.length_cons, List.length_nil]; omega) (List.all_eq_true.2 fun y hy => by
   obtain ⟨q, hq⟩ := List.mem_iff_getElem?.1 hy
   obtain ⟨b, a, _, _, _, e4, e5⟩ := hI.bl.at (i := q) (List.getElem?_eq_some_iff.1 hq).1
   rw [hq] at e4; cases e4
   exact blAgg e5) rfl
  have hF := hN3.setB (b := (x.emit p.gs es.length).1 ++ [⟨3, 0, 0, ⟨#[]⟩⟩]) ⟨to3, rfl⟩ u2 u3
  simp only [↓wpre, wall, simprocAttr, List.length_append, List.append_assoc, app_get_len, app_get_add, app_set_len, app_set_add, e2, e3, e5, e6, e8, hdec, k1, k1', d4, d5, d6, d7, hQa, r3, t3, hN3.h4, k3, u1]
  refine EQ_in ⟨i + 1, by omega, _, bls ++ [(x.emit p.gs es.length).1 ++ [Ins.o 3]], zs' ++ x.envs z, f, _, _, _, _, _, e2, e3, e5, e6, next_ixv (by unfold lenB; omega), hF, ?_, by simp [hbi], by simp only [List.length_append]; omega, ?_, ?_, ?_⟩
  ·exact set_ne (t2.get (r2.get (set_ne b1 (by decide)) (by decide)) (by decide)) (by decide)
  ·rw [List.drop_append_of_le_length (by omega), szL_app]; rw [szL] at hf; omega
  ·rw [List.drop_append_of_le_length (by omega)]
   exact hz2.app (emit_env hP3 x ⟨he1, he2, he3⟩)
  ·rw [List.drop_append_of_le_length (by omega), List.length_append, List.append_assoc]
   exact hb
 ·have : i = es.length := by omega
  subst this
  have hdec : decide ((es.length : Int) < Q.length) = false := by simpa using (show Q.length ≤ es.length by omega)
  rw [List.drop_length] at hb
  have hb0 : blocks p.gs f es.length [] = [] := by cases f <;> rfl
  rw [hb0, List.append_nil] at hb
  subst hb
  have hlt1 : 1 < H.length := by have := hI.lt; omega
  have hs1 : ∀ Y : AObj, (H.set 1 Y)[1]? = some Y := fun Y => by rw [List.getElem?_set, if_pos rfl, if_pos hlt1]
  have hBl := hI.bl.len
  obtain ⟨Bs', p1, p2⟩ := pz_bls 1015 ⟨H.set 1 (.cells false [.sl Bs tb, .sl (nmA gn) tg, .sl (ints (nsL p.gs.length)) ts]), V⟩ (l := (compC p).bl) (fun b hb => by
   have := sum_mem (List.mem_map_of_mem (f := List.length) hb)
   have : lenB = 9223372036854775807 := rfl
   omega) hI.bl
  have p3 : purify 1020 ⟨H.set 1 (.cells false [.sl Bs tb, .sl (nmA gn) tg, .sl (ints (nsL p.gs.length)) ts]), V⟩ (.tup [.agg [.sl Bs tb, .sl (nmA gn) tg, .sl (ints (nsL p.gs.length)) ts], .int 0]) = some (.tup [.agg [.sl Bs' (tb.stripR 1017 ⟨H.set 1 (.cells false [.sl Bs tb, .sl (nmA gn) tg, .sl (ints (nsL p.gs.length)) ts]), V⟩), .sl (nmA gn) (tg.stripR 1017 ⟨H.set 1 (.cells false [.sl Bs tb, .sl (nmA gn) tg, .sl (ints (nsL p.gs.length)) ts]), V⟩), .sl (ints (nsL p.gs.length)) (ts.stripR 1017 ⟨H.set 1 (.cells false [.sl Bs tb, .sl (nmA gn) tg, .sl (ints (nsL p.gs.length)) ts]), V⟩)], .int 0]) := by
   rw [pz_tup]
   simp only [mapO, pz_agg, pz_sl, p1, mapO_at (nmPure _), mapO_at (ints_pure _), purify_pure (n := 1018) pv_v, purify_pure (n := 1019) pv_v, Option.map_some]
  have p4 := p2.len
  have hlb : lenB = 9223372036854775807 := rfl
  simp only [↓wpre, wall, simprocAttr, List.length_append, List.append_assoc, app_get_len, app_get_add, app_set_len, app_set_add, k1, e2, e3, e5, e6, e8, hdec, hI.h4, b1, hlt1, hs1, p3]
  subst hgn
  exact .inr ⟨hz', _, rfl, _, _, _, _, rfl, p2, stripR_pure _ _ _, stripR_pure _ _ _, stripR_pure _ _ _, by omega, by simp only [compC, List.length_map]; omega, by simp only [compC, List.length_map, List.length_range']; omega⟩
end Go.Proofs.Eng
namespace Go.Proofs.Eng
open Go Go.Proofs
set_option maxRecDepth 100000
set_option maxHeartbeats 16000000
theorem blAll1 {l : List (List Ins)} {Bs : List AV} (h : LIs blIs l Bs) : (Bs.all fun x => x.cells.length == 1) = true := List.all_eq_true.2 fun y hy => by
 obtain ⟨q, hq⟩ := List.mem_iff_getElem?.1 hy
 obtain ⟨b, a, _, _, _, e4, ⟨t, rfl, _⟩⟩ := h.at (i := q) (List.getElem?_eq_some_iff.1 hq).1
 rw [hq] at e4; cases e4; rfl
theorem ins_at {l : List Ins} {j : Nat} (h : j < l.length) : ∃ x : Ins, (insA l)[j]? = some (.agg [.int x.op, .int x.a, .int x.b, .str x.n]) := ⟨l[j], by simp only [insA, List.getElem?_map, List.getElem?_eq_getElem h]; rfl⟩
theorem nm_at {l : List ByteArray} {j : Nat} (h : j < l.length) : ∃ x : ByteArray, (nmA l)[j]? = some (.str x) := ⟨l[j], by simp only [nmA, List.getElem?_map, List.getElem?_eq_getElem h]; rfl⟩
theorem eqg_ins (a b c : Int) (n : ByteArray) : eqgA [false, false, false, true] [.int a, .int b, .int c, .str n] [.int a, .int b, .int c, .str n] = some true := by
 have : (n == n) = true := by rw [str_beq]; simp
 simp [eqgA, keyOK, keyEq, this]
theorem rSame_ret {c : Cd} {a b : AV} (ha : c.Is a) (hb : c.Is b) : Out md pfs 9 [a, b] (· = .bool true) fun _ => False := by
 obtain ⟨Bs, t1, t2, t3, rfl, b1, _, _, _, l1, l2, l3⟩ := ha
 obtain ⟨Cs, u1, u2, u3, rfl, c1, _, _, _, m1, m2, m3⟩ := hb
 have hB := b1.len
 have hC := c1.len
 have hBa := blAll1 b1
 have hCa := blAll1 c1
 have hl : ((Bs.length : Int) != (Cs.length : Int)) = false := by rw [hB, hC]; simp
 have hl2 : (((nmA c.gl).length : Int) != ((nmA c.gl).length : Int)) = false := by simp
 have hl3 : (((ints c.st).length : Int) != ((ints c.st).length : Int)) = false := by simp
 refine out_of pf9_is (Nat.le_of_ble_eq_true rfl) ?_
 simp only [pf9, ↓wpre, wall, simprocAttr, List.length_append, List.append_assoc, app_get_len, app_get_add, app_set_len, app_set_add, hl, hl2, hl3]
 refine W_loopE (fun j => Bs.length - j) (fun j E H T => H = [.cells false [.sl Bs t1, .sl (nmA c.gl) t2, .sl (ints c.st) t3], .cells false [.sl Cs u1, .sl (nmA c.gl) u2, .sl (ints c.st) u3]] ∧ E 2 = .ptr 0 0 ∧ E 3 = .ptr 1 0 ∧ E 5 = .int j ∧ j ≤ Bs.length) ?_ 0 ⟨rfl, rfl, rfl, rfl, Nat.zero_le _⟩
 rintro j E _ T ⟨rfl, e2, e3, e5, hj⟩
 rcases Nat.lt_or_ge j Bs.length with hlt | hge
 ·have hdec : decide ((j : Int) < Bs.length) = true := by simpa using hlt
  obtain ⟨bl, _, d0, _, _, d4, ⟨v1, rfl, _, hbl⟩⟩ := b1.at hlt
  obtain ⟨bl', _, f0, _, _, f4, ⟨v2, rfl, _, _⟩⟩ := c1.at (i := j) (by omega)
  rw [d0] at f0; cases f0
  have hln : (((insA bl).length : Int) != ((insA bl).length : Int)) = false := by simp
  have hia := insA_all bl
  have hil := insA_len bl
  simp only [↓wpre, wall, simprocAttr, List.length_append, List.append_assoc, app_get_len, app_get_add, app_set_len, app_set_add, e2, e3, e5, hdec, d4, f4, hBa, hCa, hln]
  refine W_loopE (fun m => bl.length - m) (fun m E H T => H = [.cells false [.sl Bs t1, .sl (nmA c.gl) t2, .sl (ints c.st) t3], .cells false [.sl Cs u1, .sl (nmA c.gl) u2, .sl (ints c.st) u3]] ∧ E 2 = .ptr 0 0 ∧ E 3 = .ptr 1 0 ∧ E 5 = .int j ∧ E 6 = .int m ∧ m ≤ bl.length) ?_ 0 ⟨rfl, e2, e3, e5, rfl, Nat.zero_le _⟩
  clear e2 e3 e5 E T
  rintro m E _ T ⟨rfl, e2, e3, e5, e6, hm⟩
  rcases Nat.lt_or_ge m bl.length with hlt2 | hge2
  ·have hdec2 : decide ((m : Int) < (insA bl).length) = true := by rw [hil]; simpa using hlt2
   obtain ⟨x, hx⟩ := ins_at hlt2
   simp only [↓wpre, wall, simprocAttr, List.length_append, List.append_assoc, app_get_len, app_get_add, app_set_len, app_set_add, e2, e3, e5, e6, hdec2, d4, f4, hBa, hCa, hia, hx, eqg_ins]
   exact EQ_in ⟨m + 1, by omega, rfl, e2, e3, e5, next_ixv (by unfold lenB; unfold lenB at hbl; omega), by omega⟩
  ·have hdec2 : decide ((m : Int) < (insA bl).length) = false := by rw [hil]; simpa using hge2
   simp only [↓wpre, wall, simprocAttr, List.length_append, List.append_assoc, app_get_len, app_get_add, app_set_len, app_set_add, e2, e3, e5, e6, hdec2, d4, hBa]
   exact EQ_in ⟨j + 1, by omega, rfl, e2, e3, next_ixv (by unfold lenB; unfold lenB at l1; omega), by omega⟩
 ·have hdec : decide ((j : Int) < Bs.length) = false := by simpa using hge
  simp only [↓wpre, wall, simprocAttr, List.length_append, List.append_assoc, app_get_len, app_get_add, app_set_len, app_set_add, e2, e3, e5, hdec]
  clear hdec e5
  refine W_loopE (fun j => c.gl.length - j) (fun j E H T => H = [.cells false [.sl Bs t1, .sl (nmA c.gl) t2, .sl (ints c.st) t3], .cells false [.sl Cs u1, .sl (nmA c.gl) u2, .sl (ints c.st) u3]] ∧ E 2 = .ptr 0 0 ∧ E 3 = .ptr 1 0 ∧ E 7 = .int j ∧ j ≤ c.gl.length) ?_ 0 ⟨rfl, e2, e3, rfl, Nat.zero_le _⟩
  clear e2 e3 hj hge E T j
  rintro j E _ T ⟨rfl, e2, e3, e7, hj⟩
  have hna := nmA_all c.gl
  have hnl := nmA_len c.gl
  rcases Nat.lt_or_ge j c.gl.length with hlt | hge
  ·have hdec : decide ((j : Int) < (nmA c.gl).length) = true := by rw [hnl]; simpa using hlt
   obtain ⟨x, hx⟩ := nm_at hlt
   have hxx : (x.toList == x.toList) = true := by simp
   simp only [↓wpre, wall, simprocAttr, List.length_append, List.append_assoc, app_get_len, app_get_add, app_set_len, app_set_add, e2, e3, e7, hdec, hna, hx, hxx]
   exact EQ_in ⟨j + 1, by omega, rfl, e2, e3, next_ixv (by unfold lenB; unfold lenB at l2; omega), by omega⟩
  ·have hdec : decide ((j : Int) < (nmA c.gl).length) = false := by rw [hnl]; simpa using hge
   simp only [↓wpre, wall, simprocAttr, List.length_append, List.append_assoc, app_get_len, app_get_add, app_set_len, app_set_add, e2, e3, e7, hdec]
   refine W_loopE (fun j => c.st.length - j) (fun j E H T => H = [.cells false [.sl Bs t1, .sl (nmA c.gl) t2, .sl (ints c.st) t3], .cells false [.sl Cs u1, .sl (nmA c.gl) u2, .sl (ints c.st) u3]] ∧ E 2 = .ptr 0 0 ∧ E 3 = .ptr 1 0 ∧ E 8 = .int j ∧ j ≤ c.st.length) ?_ 0 ⟨rfl, e2, e3, rfl, Nat.zero_le _⟩
   clear e2 e3 e7 hj hge hdec E T j
   rintro j E _ T ⟨rfl, e2, e3, e8, hj⟩
   have hia := ints_all c.st
   have hil := ints_len c.st
   rcases Nat.lt_or_ge j c.st.length with hlt | hge
   ·have hdec : decide ((j : Int) < (ints c.st).length) = true := by rw [hil]; simpa using hlt
    obtain ⟨v, _, _, q2⟩ := ints_get hlt
    have hvv : (v != v) = false := by simp
    simp only [↓wpre, wall, simprocAttr, List.length_append, List.append_assoc, app_get_len, app_get_add, app_set_len, app_set_add, e2, e3, e8, hdec, hia, q2, hvv]
    exact EQ_in ⟨j + 1, by omega, rfl, e2, e3, next_ixv (by unfold lenB; unfold lenB at l3; omega), by omega⟩
   ·have hdec : decide ((j : Int) < (ints c.st).length) = false := by rw [hil]; simpa using hge
    simp only [↓wpre, wall, simprocAttr, List.length_append, List.append_assoc, app_get_len, app_get_add, app_set_len, app_set_add, e2, e3, e8, hdec]
end Go.Proofs.Eng
