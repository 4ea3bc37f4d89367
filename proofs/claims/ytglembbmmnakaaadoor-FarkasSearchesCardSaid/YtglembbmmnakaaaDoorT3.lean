/- What the elimination tells, as plain law: factors, points, solutions. No conditions beyond those in the theorems. -/
import Derived.Test.YtglembbmmnakaaaDoorT2
import Derived.Test.YtglembbmmnakaaaDoorF20
set_option linter.all false
set_option linter.deprecated false
set_option linter.unnecessarySimpa false
set_option linter.unusedVariables false
set_option linter.unusedSimpArgs false
set_option linter.defProp false
namespace Go.Proofs.Eng
open Go Go.Proofs
/-- A system's rows and a point. -/
def SatL (w : Nat) (rows : List (List Int)) (v : Nat → Int) : Prop := ∀ r ∈ rows, sg (gt0 r) v w ≤ 0
theorem iniP_A {rows : List (List Int)} {n : Nat} : ∀ k, k ≤ rows.length → (iniP rows n k).map Rw.A = rows.take k
  | 0, _ => by simp [iniP]
  | k + 1, h => by
    rw [iniP, List.map_append, iniP_A k (by omega), List.take_add_one, List.getElem?_eq_getElem (by omega)]
    simp [List.getD_eq_getElem?_getD, List.getElem?_eq_getElem (show k < rows.length by omega)]
theorem iniL_A (rows : List (List Int)) : (iniL rows).map Rw.A = rows := by
  rw [iniL, iniP_A _ (Nat.le_refl _), List.take_length]
theorem sat_ini {w : Nat} {rows : List (List Int)} {v : Nat → Int} : Sat w (iniL rows) v ↔ SatL w rows v := by
  have h := iniL_A rows
  constructor
  · intro hs r hr
    rw [← h] at hr
    obtain ⟨x, hx, rfl⟩ := List.mem_map.1 hr
    exact hs x hx
  · intro hs x hx
    exact hs x.A (by rw [← h]; exact List.mem_map.2 ⟨x, hx, rfl⟩)
theorem iniL_E {rows : List (List Int)} {w : Nat} (hR : RightS rows w) : ∀ r ∈ iniL rows, RowE w rows.length r := iniP_E hR _ (Nat.le_refl _)
/-- A system is refuted only if it has no solution. -/
theorem elimA_sound {rows : List (List Int)} {n : Nat} {F : List Int} (hR : RightS rows (n + 1)) (hhd : (rows.headD []).length = n + 1) (h : elimA rows = .ref F) {v : Nat → Int} (hv : 0 < v n) : ¬ SatL (n + 1) rows v := by
  rw [elimA, hhd] at h
  intro hs
  exact elim_sound hv (Nat.le_refl _) (iniL_E hR) h (sat_ini.2 hs)
/-- A system that is not refuted has a solution. -/
theorem elimA_complete {rows : List (List Int)} {n : Nat} {S : List (List Rw)} (hR : RightS rows (n + 1)) (hhd : (rows.headD []).length = n + 1) (h : elimA rows = .sts S) : ∃ v : Nat → Int, 0 < v n ∧ SatL (n + 1) rows v := by
  rw [elimA, hhd] at h
  obtain ⟨v, h1, h2⟩ := elim_complete (k := n) (Nat.le_refl _) (iniL_E hR) (fun r _ i hi => by omega) h
  exact ⟨v, h2, sat_ini.1 h1⟩
theorem tot_sg {rows : List (List Int)} {fs : List Int} {w : Nat} (hR : RightS rows w) (hl : fs.length = rows.length) (hok : ∀ f ∈ fs, okF f = true) : ∀ j, j ≤ rows.length → (∀ k, gt0 (tot (rows.take j) (fs.take j) (List.replicate w 0)) k = sg (gt0 fs) (fun i => gt0 (rows.getD i []) k) j) ∧ ∀ v n, sg (gt0 (tot (rows.take j) (fs.take j) (List.replicate w 0))) v n = sg (gt0 fs) (fun i => sg (gt0 (rows.getD i [])) v n) j := by
  intro j
  induction j with
  | zero =>
    intro _
    have hz : ∀ k, gt0 (List.replicate w 0) k = 0 := fun k => by
      unfold gt0
      rw [List.getD_eq_getElem?_getD, List.getElem?_replicate]
      split <;> rfl
    rw [List.take_zero, List.take_zero, tot]
    · exact ⟨fun k => by rw [hz]; rfl, fun v n => by rw [sg, sg_zero n fun k _ => by rw [hz, Int.zero_mul]]⟩
    · intro _ _ _ _ h; cases h
  | succ j ih =>
    intro hj
    obtain ⟨i1, i2⟩ := ih (by omega)
    have hf : fs[j]? = some fs[j] := List.getElem?_eq_getElem (by omega)
    have hr : rows[j]? = some rows[j] := List.getElem?_eq_getElem (by omega)
    have hlen := (tot_facts hR (fun j hj => ⟨fs[j], List.getElem?_eq_getElem (by omega)⟩) j (by omega) fun f hf => hok f (List.mem_of_mem_take hf)).1
    have hgf : gt0 fs j = fs[j] := by rw [gt0, List.getD_eq_getElem?_getD, hf]; rfl
    have hgr : rows.getD j [] = rows[j] := by rw [List.getD_eq_getElem?_getD, hr]; rfl
    have hA := addM_at (p := 1) (q := fs[j]) (a := tot (rows.take j) (fs.take j) (List.replicate w 0)) (b := rows[j]) (by rw [hlen, hR.len _ (List.getElem_mem _)])
    rw [tot_take hr hf]
    refine ⟨fun k => ?_, fun v n => ?_⟩
    · rw [hA, i1, sg, Int.one_mul, hgf, hgr]
    · rw [sg, ← i2, hgf, hgr]
      have := sg_lin (h := 1) (p := 1) (q := fs[j]) (a := gt0 (tot (rows.take j) (fs.take j) (List.replicate w 0))) (b := gt0 rows[j]) (v := v) (c := gt0 (addM 1 fs[j] (tot (rows.take j) (fs.take j) (List.replicate w 0)) rows[j])) n fun k _ => by rw [Int.one_mul]; exact hA k
      rw [Int.one_mul, Int.one_mul] at this
      exact this
theorem checkR_iff {rows : List (List Int)} {fs : List Int} : checkR rows fs = true ↔ rightR rows = 0 ∧ rows.length ≠ 0 ∧ fs.length = rows.length ∧ (∀ f ∈ fs, okF f = true) ∧ refS (tot rows fs (List.replicate (rows.headD []).length 0)) = true := by
  unfold checkR
  simp only [Bool.and_eq_true, decide_eq_true_eq, List.all_eq_true]
  constructor
  · rintro ⟨⟨⟨⟨h1, h2⟩, h3⟩, h4⟩, h5⟩; exact ⟨h1, h2, h3, h4, h5⟩
  · rintro ⟨h1, h2, h3, h4, h5⟩; exact ⟨⟨⟨⟨h1, h2⟩, h3⟩, h4⟩, h5⟩
theorem refS_iff {s : List Int} {n : Nat} (h : s.length = n + 1) : refS s = true ↔ gt0 s n > 0 ∧ ∀ k, k < n → gt0 s k = 0 := by
  have := badR_iff (r := ⟨s, []⟩) (n := n) (m := 0)
  unfold refS
  rw [h, Bool.and_eq_true, decide_eq_true_iff, List.all_eq_true]
  refine ⟨fun ⟨h2, h1⟩ => ⟨h1, fun k hk => ?_⟩, fun ⟨h1, h2⟩ => ⟨fun x hx => ?_, h1⟩⟩
  · have hg : s[k]? = some (gt0 s k) := by rw [gt0, List.getD_eq_getElem?_getD, List.getElem?_eq_getElem (by omega)]; rfl
    have := h2 (gt0 s k) (List.mem_of_getElem? (i := k) (by rw [List.getElem?_take, if_pos (by omega)]; exact hg))
    simpa using this
  · obtain ⟨k, hk⟩ := List.mem_iff_getElem?.1 hx
    rw [List.getElem?_take] at hk
    split at hk
    · have := h2 k (by omega)
      rw [gt0, List.getD_eq_getElem?_getD, hk] at this
      simpa using this
    · cases hk
theorem totA {rows : List (List Int)} {fs : List Int} {w : Nat} (hR : RightS rows w) (hl : fs.length = rows.length) (hok : ∀ f ∈ fs, okF f = true) : (tot rows fs (List.replicate w 0)).length = w ∧ (∀ k, gt0 (tot rows fs (List.replicate w 0)) k = sg (gt0 fs) (fun i => gt0 (rows.getD i []) k) rows.length) ∧ ∀ v n, sg (gt0 (tot rows fs (List.replicate w 0))) v n = sg (gt0 fs) (fun i => sg (gt0 (rows.getD i [])) v n) rows.length := by
  have h1 := tot_sg hR hl hok rows.length (Nat.le_refl _)
  have h2 := (tot_facts hR (fun j hj => ⟨fs[j], List.getElem?_eq_getElem (by omega)⟩) rows.length (Nat.le_refl _) fun f hf => hok f (List.mem_of_mem_take hf)).1
  rw [List.take_length, List.take_of_length_le (show fs.length ≤ rows.length by omega)] at h1 h2
  exact ⟨h2, h1⟩
theorem sg_nonpos {a v : Nat → Int} : ∀ n, (∀ k, k < n → 0 ≤ a k ∧ v k ≤ 0) → sg a v n ≤ 0
  | 0, _ => Int.le_refl _
  | n + 1, h => by
    have h1 := sg_nonpos n fun k hk => h k (by omega)
    have h2 := h n (by omega)
    have := mul_nonpos h2.1 h2.2
    rw [sg]; omega
/-- Factors that pass the test refute only systems without a solution. -/
theorem check_sound {rows : List (List Int)} {fs : List Int} {n : Nat} (hhd : (rows.headD []).length = n + 1) (h : checkR rows fs = true) {v : Nat → Int} (hv : 0 < v n) : ¬ SatL (n + 1) rows v := by
  obtain ⟨hr, h0, hl, hok, hs⟩ := checkR_iff.1 h
  have hR := right_of hr
  rw [hhd] at hR hs
  obtain ⟨t1, t2, t3⟩ := totA hR hl hok
  obtain ⟨s1, s2⟩ := (refS_iff t1).1 hs
  intro hsat
  have e := t3 v (n + 1)
  rw [sg, sg_zero n fun k hk => by rw [s2 k hk, Int.zero_mul]] at e
  have h1 := Int.mul_pos s1 hv
  have h2 := sg_nonpos (a := gt0 fs) (v := fun i => sg (gt0 (rows.getD i [])) v (n + 1)) rows.length fun k hk => by
    have hf : fs[k]? = some fs[k] := List.getElem?_eq_getElem (by omega)
    have hk' : rows[k]? = some rows[k] := List.getElem?_eq_getElem hk
    have ho := hok _ (List.mem_of_getElem? hf)
    simp only [okF, Bool.and_eq_true, decide_eq_true_eq] at ho
    refine ⟨by rw [gt0, List.getD_eq_getElem?_getD, hf]; exact ho.1, ?_⟩
    show sg (gt0 (rows.getD k [])) v (n + 1) ≤ 0
    rw [List.getD_eq_getElem?_getD, hk']
    exact hsat _ (List.mem_of_getElem? hk')
  omega
/-! ## Stages -/
theorem addR_cap {j : Nat} {r s : Rw} {acc l : List Rw} (h : addR j r s acc = .ok l) (ha : acc.length ≤ 500) : l.length ≤ 500 := by
  unfold addR at h
  split at h
  · cases h
  · split at h
    · cases h; exact ha
    · split at h
      · cases h; simp; omega
      · cases h
theorem crossI_cap {j : Nat} {r : Rw} : ∀ {ss acc l : List Rw}, crossI j r acc ss = .ok l → acc.length ≤ 500 → l.length ≤ 500
  | [], acc, l, h, ha => by rw [crossI] at h; cases h; exact ha
  | s :: ss, acc, l, h, ha => by
    rw [crossI] at h
    split at h
    · obtain ⟨m, h1, h2⟩ := bind_ok h
      exact crossI_cap h2 (addR_cap h1 ha)
    · exact crossI_cap h ha
theorem crossO_cap {j : Nat} {all : List Rw} : ∀ {rs acc l : List Rw}, crossO j all acc rs = .ok l → acc.length ≤ 500 → l.length ≤ 500
  | [], acc, l, h, ha => by rw [crossO] at h; cases h; exact ha
  | s :: ss, acc, l, h, ha => by
    rw [crossO] at h
    split at h
    · obtain ⟨m, h1, h2⟩ := bind_ok h
      exact crossO_cap h2 (crossI_cap h1 ha)
    · exact crossO_cap h ha
theorem keepZ_cap {j : Nat} : ∀ (l acc : List Rw), (keepZ j acc l).length ≤ acc.length + l.length
  | [], acc => by simp [keepZ]
  | r :: l, acc => by
    rw [keepZ]
    refine Nat.le_trans (keepZ_cap l _) ?_
    split
    · split <;> simp <;> omega
    · simp
theorem stageR_cap {j : Nat} {l l' : List Rw} (h : stageR j l = .ok l') (hl : l.length ≤ 500) : l'.length ≤ 500 := by
  have := keepZ_cap (j := j) l []
  exact crossO_cap h (by simp at this; omega)
/-- The stages of an elimination. -/
structure Chain (n m : Nat) (S : List (List Rw)) (l0 : List Rw) : Prop where
  len : S.length = n + 1
  st0 : S[0]? = some l0
  nxt : ∀ i, i < n → ∃ a b, S[i]? = some a ∧ S[i + 1]? = some b ∧ stageR i a = .ok b
  fin : ∃ z, S[n]? = some z ∧ z.find? badR = none
theorem Chain.at {n m : Nat} {S : List (List Rw)} {l0 : List Rw} (h : Chain n m S l0) (hE : ∀ r ∈ l0, RowE (n + 1) m r) (h0 : l0.length ≤ 500) : ∀ i, i ≤ n → ∃ a, S[i]? = some a ∧ (∀ r ∈ a, RowE (n + 1) m r) ∧ (∀ r ∈ a, ∀ k, k < i → gt0 r.A k = 0) ∧ a.length ≤ 500
  | 0, _ => ⟨l0, h.st0, hE, fun _ _ k hk => by omega, h0⟩
  | i + 1, hi => by
    obtain ⟨a, h1, h2, h3, h4⟩ := h.at hE h0 i (by omega)
    obtain ⟨a', b, c1, c2, c3⟩ := h.nxt i (by omega)
    rw [h1] at c1; cases c1
    exact ⟨b, c2, stageR_E c3 (by omega) h2, stage_zero c3 (by omega) h2 h3, stageR_cap c3 h4⟩
/-! ## The point -/
/-- A point with 1 behind it. -/
def pv (pt : List Int) (k : Nat) : Int := if k = pt.length then 1 else gt0 pt k
end Go.Proofs.Eng
