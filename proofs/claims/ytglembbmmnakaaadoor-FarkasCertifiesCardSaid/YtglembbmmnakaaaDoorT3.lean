/- What the elimination tells, as plain law: factors, points, solutions. No conditions beyond those in the theorems. -/
import Derived.Test.YtglembbmmnakaaaDoorT2
import Derived.Test.YtglembbmmnakaaaDoorF20
set_option linter.all false
set_option linter.deprecated false
set_option linter.unnecessarySimpa false
set_option linter.unusedVariables false
set_option linter.unusedSimpArgs false
set_option linter.defProp false
namespace Go.Proofs.Eng
open Go Go.Proofs
/-- A system's rows and a point. -/
def SatL (w : Nat) (rows : List (List Int)) (v : Nat → Int) : Prop := ∀ r ∈ rows, sg (gt0 r) v w ≤ 0
theorem iniP_A {rows : List (List Int)} {n : Nat} : ∀ k, k ≤ rows.length → (iniP rows n k).map Rw.A = rows.take k
  | 0, _ => by simp [iniP]
  | k + 1, h => by
    rw [iniP, List.map_append, iniP_A k (by omega), List.take_add_one, List.getElem?_eq_getElem (by omega)]
    simp [List.getD_eq_getElem?_getD, List.getElem?_eq_getElem (show k < rows.length by omega)]
theorem iniL_A (rows : List (List Int)) : (iniL rows).map Rw.A = rows := by
  rw [iniL, iniP_A _ (Nat.le_refl _), List.take_length]
theorem sat_ini {w : Nat} {rows : List (List Int)} {v : Nat → Int} : Sat w (iniL rows) v ↔ SatL w rows v := by
  have h := iniL_A rows
  constructor
  · intro hs r hr
    rw [← h] at hr
    obtain ⟨x, hx, rfl⟩ := List.mem_map.1 hr
    exact hs x hx
  · intro hs x hx
    exact hs x.A (by rw [← h]; exact List.mem_map.2 ⟨x, hx, rfl⟩)
theorem iniL_E {rows : List (List Int)} {w : Nat} (hR : RightS rows w) : ∀ r ∈ iniL rows, RowE w rows.length r := iniP_E hR _ (Nat.le_refl _)
/-- A row is the sum of the rows with its factors. -/
def Lin (rows : List (List Int)) (x : Rw) : Prop := ∀ k, gt0 x.A k = sg (gt0 x.F) (fun i => gt0 (rows.getD i []) k) rows.length
theorem sg_unit {n i : Nat} {v : Nat → Int} (hi : i < n) : sg (gt0 (unitL n i)) v n = v i := by
  have hz : ∀ k, k < n → gt0 (unitL n i) k = if k = i then 1 else 0 := fun k hk => by
    unfold gt0 unitL
    rw [List.getD_eq_getElem?_getD, List.getElem?_set]
    by_cases h : i = k
    · subst h; simp [hi]
    · rw [if_neg h, if_neg (fun e => h e.symm)]
      simp [List.getElem?_replicate, hk]
  have : ∀ m, m ≤ n → sg (gt0 (unitL n i)) v m = if i < m then v i else 0 := by
    intro m
    induction m with
    | zero => intro _; rfl
    | succ m ih =>
      intro hm
      rw [sg, ih (by omega), hz m (by omega)]
      by_cases h : m = i
      · subst h; simp
      · rw [if_neg h, Int.zero_mul, Int.add_zero]
        by_cases h2 : i < m
        · rw [if_pos h2, if_pos (by omega)]
        · rw [if_neg h2, if_neg (by omega)]
  rw [this n (Nat.le_refl _), if_pos hi]
theorem lin_ini {rows : List (List Int)} : ∀ k, k ≤ rows.length → ∀ x ∈ iniP rows rows.length k, Lin rows x
  | 0, _, x, h => by simp [iniP] at h
  | k + 1, hk, x, h => by
    rcases List.mem_append.1 h with h | h
    · exact lin_ini k (by omega) x h
    · rw [List.mem_singleton.1 h]
      intro i
      show gt0 (rows.getD k []) i = sg (gt0 (unitL _ _)) _ _
      rw [sg_unit (show k < rows.length by omega)]
theorem lin_comb {rows : List (List Int)} {j : Nat} {r s x : Rw} (h : IsComb j r s x) (hr : Lin rows r) (hs : Lin rows s) : Lin rows x := by
  obtain ⟨h, g, p, q, h0, g0, p0, q0, e1, e2, e3, e4⟩ := h.ex
  intro k
  have e := sg_lin (v := fun i => gt0 (rows.getD i []) k) rows.length fun i _ => e4 i
  rw [← hr k, ← hs k, ← e3 k] at e
  exact Int.eq_of_mul_eq_mul_left (by omega) e.symm
theorem lin_stage {rows : List (List Int)} {j w m : Nat} {l l' : List Rw} (h : stageR j l = .ok l') (hj : j < w) (hE : ∀ r ∈ l, RowE w m r) (hl : ∀ r ∈ l, Lin rows r) : ∀ r ∈ l', Lin rows r := fun x hx => by
  rcases made_cases h hj hE hx with ⟨h, _⟩ | ⟨r, hr, s, hs, _, _, hc⟩
  · exact hl x h
  · exact lin_comb hc (hl r hr) (hl s hs)
theorem elim_lin {rows : List (List Int)} {n m : Nat} {F : List Int} : ∀ {k : Nat} {l : List Rw} {ss : List (List Rw)}, k ≤ n → (∀ r ∈ l, RowE (n + 1) m r) → (∀ r ∈ l, Lin rows r) → elimR n k l ss = .ref F → ∃ x, RowE (n + 1) m x ∧ Lin rows x ∧ badR x = true ∧ x.F = F
  | 0, l, ss, _, hE, hl, h => by
    rw [elimR] at h
    split at h
    · rename_i r hr
      cases h
      have hm := List.mem_of_find?_eq_some hr
      exact ⟨r, hE r hm, hl r hm, List.find?_some hr, rfl⟩
    · cases h
  | k + 1, l, ss, hk, hE, hl, h => by
    rw [elimR] at h
    split at h
    · rename_i r hr
      cases h
      have hm := List.mem_of_find?_eq_some hr
      exact ⟨r, hE r hm, hl r hm, List.find?_some hr, rfl⟩
    · split at h
      · cases h
      · rename_i l' hl'
        exact elim_lin (by omega) (stageR_E hl' (by omega) hE) (lin_stage hl' (by omega) hE hl) h
theorem tot_sg {rows : List (List Int)} {fs : List Int} {w : Nat} (hR : RightS rows w) (hl : fs.length = rows.length) (hok : ∀ f ∈ fs, okF f = true) : ∀ j, j ≤ rows.length → (∀ k, gt0 (tot (rows.take j) (fs.take j) (List.replicate w 0)) k = sg (gt0 fs) (fun i => gt0 (rows.getD i []) k) j) ∧ ∀ v n, sg (gt0 (tot (rows.take j) (fs.take j) (List.replicate w 0))) v n = sg (gt0 fs) (fun i => sg (gt0 (rows.getD i [])) v n) j := by
  intro j
  induction j with
  | zero =>
    intro _
    have hz : ∀ k, gt0 (List.replicate w 0) k = 0 := fun k => by
      unfold gt0
      rw [List.getD_eq_getElem?_getD, List.getElem?_replicate]
      split <;> rfl
    rw [List.take_zero, List.take_zero, tot]
    · exact ⟨fun k => by rw [hz]; rfl, fun v n => by rw [sg, sg_zero n fun k _ => by rw [hz, Int.zero_mul]]⟩
    · intro _ _ _ _ h; cases h
  | succ j ih =>
    intro hj
    obtain ⟨i1, i2⟩ := ih (by omega)
    have hf : fs[j]? = some fs[j] := List.getElem?_eq_getElem (by omega)
    have hr : rows[j]? = some rows[j] := List.getElem?_eq_getElem (by omega)
    have hlen := (tot_facts hR (fun j hj => ⟨fs[j], List.getElem?_eq_getElem (by omega)⟩) j (by omega) fun f hf => hok f (List.mem_of_mem_take hf)).1
    have hgf : gt0 fs j = fs[j] := by rw [gt0, List.getD_eq_getElem?_getD, hf]; rfl
    have hgr : rows.getD j [] = rows[j] := by rw [List.getD_eq_getElem?_getD, hr]; rfl
    have hA := addM_at (p := 1) (q := fs[j]) (a := tot (rows.take j) (fs.take j) (List.replicate w 0)) (b := rows[j]) (by rw [hlen, hR.len _ (List.getElem_mem _)])
    rw [tot_take hr hf]
    refine ⟨fun k => ?_, fun v n => ?_⟩
    · rw [hA, i1, sg, Int.one_mul, hgf, hgr]
    · rw [sg, ← i2, hgf, hgr]
      have := sg_lin (h := 1) (p := 1) (q := fs[j]) (a := gt0 (tot (rows.take j) (fs.take j) (List.replicate w 0))) (b := gt0 rows[j]) (v := v) (c := gt0 (addM 1 fs[j] (tot (rows.take j) (fs.take j) (List.replicate w 0)) rows[j])) n fun k _ => by rw [Int.one_mul]; exact hA k
      rw [Int.one_mul, Int.one_mul] at this
      exact this
theorem checkR_iff {rows : List (List Int)} {fs : List Int} : checkR rows fs = true ↔ rightR rows = 0 ∧ rows.length ≠ 0 ∧ fs.length = rows.length ∧ (∀ f ∈ fs, okF f = true) ∧ refS (tot rows fs (List.replicate (rows.headD []).length 0)) = true := by
  unfold checkR
  simp only [Bool.and_eq_true, decide_eq_true_eq, List.all_eq_true]
  constructor
  · rintro ⟨⟨⟨⟨h1, h2⟩, h3⟩, h4⟩, h5⟩; exact ⟨h1, h2, h3, h4, h5⟩
  · rintro ⟨h1, h2, h3, h4, h5⟩; exact ⟨⟨⟨⟨h1, h2⟩, h3⟩, h4⟩, h5⟩
theorem refS_iff {s : List Int} {n : Nat} (h : s.length = n + 1) : refS s = true ↔ gt0 s n > 0 ∧ ∀ k, k < n → gt0 s k = 0 := by
  have := badR_iff (r := ⟨s, []⟩) (n := n) (m := 0)
  unfold refS
  rw [h, Bool.and_eq_true, decide_eq_true_iff, List.all_eq_true]
  refine ⟨fun ⟨h2, h1⟩ => ⟨h1, fun k hk => ?_⟩, fun ⟨h1, h2⟩ => ⟨fun x hx => ?_, h1⟩⟩
  · have hg : s[k]? = some (gt0 s k) := by rw [gt0, List.getD_eq_getElem?_getD, List.getElem?_eq_getElem (by omega)]; rfl
    have := h2 (gt0 s k) (List.mem_of_getElem? (i := k) (by rw [List.getElem?_take, if_pos (by omega)]; exact hg))
    simpa using this
  · obtain ⟨k, hk⟩ := List.mem_iff_getElem?.1 hx
    rw [List.getElem?_take] at hk
    split at hk
    · have := h2 k (by omega)
      rw [gt0, List.getD_eq_getElem?_getD, hk] at this
      simpa using this
    · cases hk
theorem totA {rows : List (List Int)} {fs : List Int} {w : Nat} (hR : RightS rows w) (hl : fs.length = rows.length) (hok : ∀ f ∈ fs, okF f = true) : (tot rows fs (List.replicate w 0)).length = w ∧ (∀ k, gt0 (tot rows fs (List.replicate w 0)) k = sg (gt0 fs) (fun i => gt0 (rows.getD i []) k) rows.length) ∧ ∀ v n, sg (gt0 (tot rows fs (List.replicate w 0))) v n = sg (gt0 fs) (fun i => sg (gt0 (rows.getD i [])) v n) rows.length := by
  have h1 := tot_sg hR hl hok rows.length (Nat.le_refl _)
  have h2 := (tot_facts hR (fun j hj => ⟨fs[j], List.getElem?_eq_getElem (by omega)⟩) rows.length (Nat.le_refl _) fun f hf => hok f (List.mem_of_mem_take hf)).1
  rw [List.take_length, List.take_of_length_le (show fs.length ≤ rows.length by omega)] at h1 h2
  exact ⟨h2, h1⟩
/-- Check accepts what Refute returns. -/
theorem check_refute {rows : List (List Int)} {F : List Int} (hr : rightR rows = 0) (h0 : 0 < rows.length) (h : elimA rows = .ref F) : checkR rows F = true := by
  have hR := right_of hr
  obtain ⟨n, hn⟩ : ∃ n, (rows.headD []).length = n + 1 := ⟨(rows.headD []).length - 1, by have := (hR.pos h0).1; omega⟩
  rw [hn] at hR
  rw [elimA, hn] at h
  obtain ⟨x, hE, hx, hb, rfl⟩ := elim_lin (k := n) (rows := rows) (Nat.le_refl _) (iniL_E hR) (lin_ini _ (Nat.le_refl _)) h
  have hok : ∀ f ∈ x.F, okF f = true := fun f hf => by
    have := hE.bF f hf
    unfold limB at this
    simp only [okF, Bool.and_eq_true, decide_eq_true_eq]
    exact this
  obtain ⟨t1, t2, _⟩ := totA hR hE.lF hok
  obtain ⟨b1, b2⟩ := (badR_iff hE).1 hb
  rw [checkR_iff, hn]
  refine ⟨hr, by omega, hE.lF, hok, (refS_iff t1).2 ⟨?_, fun k hk => ?_⟩⟩
  · rw [t2, ← hx]; exact b1
  · rw [t2, ← hx]; exact b2 k hk
/-! ## Stages -/
theorem addR_cap {j : Nat} {r s : Rw} {acc l : List Rw} (h : addR j r s acc = .ok l) (ha : acc.length ≤ 500) : l.length ≤ 500 := by
  unfold addR at h
  split at h
  · cases h
  · split at h
    · cases h; exact ha
    · split at h
      · cases h; simp; omega
      · cases h
theorem crossI_cap {j : Nat} {r : Rw} : ∀ {ss acc l : List Rw}, crossI j r acc ss = .ok l → acc.length ≤ 500 → l.length ≤ 500
  | [], acc, l, h, ha => by rw [crossI] at h; cases h; exact ha
  | s :: ss, acc, l, h, ha => by
    rw [crossI] at h
    split at h
    · obtain ⟨m, h1, h2⟩ := bind_ok h
      exact crossI_cap h2 (addR_cap h1 ha)
    · exact crossI_cap h ha
theorem crossO_cap {j : Nat} {all : List Rw} : ∀ {rs acc l : List Rw}, crossO j all acc rs = .ok l → acc.length ≤ 500 → l.length ≤ 500
  | [], acc, l, h, ha => by rw [crossO] at h; cases h; exact ha
  | s :: ss, acc, l, h, ha => by
    rw [crossO] at h
    split at h
    · obtain ⟨m, h1, h2⟩ := bind_ok h
      exact crossO_cap h2 (crossI_cap h1 ha)
    · exact crossO_cap h ha
theorem keepZ_cap {j : Nat} : ∀ (l acc : List Rw), (keepZ j acc l).length ≤ acc.length + l.length
  | [], acc => by simp [keepZ]
  | r :: l, acc => by
    rw [keepZ]
    refine Nat.le_trans (keepZ_cap l _) ?_
    split
    · split <;> simp <;> omega
    · simp
theorem stageR_cap {j : Nat} {l l' : List Rw} (h : stageR j l = .ok l') (hl : l.length ≤ 500) : l'.length ≤ 500 := by
  have := keepZ_cap (j := j) l []
  exact crossO_cap h (by simp at this; omega)
/-- The stages of an elimination. -/
structure Chain (n m : Nat) (S : List (List Rw)) (l0 : List Rw) : Prop where
  len : S.length = n + 1
  st0 : S[0]? = some l0
  nxt : ∀ i, i < n → ∃ a b, S[i]? = some a ∧ S[i + 1]? = some b ∧ stageR i a = .ok b
  fin : ∃ z, S[n]? = some z ∧ z.find? badR = none
theorem elim_chain {n : Nat} {S : List (List Rw)} : ∀ {k : Nat} {l : List Rw} {ss : List (List Rw)}, k ≤ n → ss.length = n - k + 1 → ss[n - k]? = some l → elimR n k l ss = .sts S → S.length = n + 1 ∧ (∀ (i : Nat) (a : List Rw), ss[i]? = some a → S[i]? = some a) ∧ (∀ i : Nat, n - k ≤ i → i < n → ∃ a b, S[i]? = some a ∧ S[i + 1]? = some b ∧ stageR i a = .ok b) ∧ ∃ z, S[n]? = some z ∧ z.find? badR = none
  | 0, l, ss, hk, hlen, hl, h => by
    rw [elimR] at h
    split at h
    · cases h
    · rename_i hf
      cases h
      exact ⟨by omega, fun _ _ h => h, fun i h1 h2 => by omega, l, hl, hf⟩
  | k + 1, l, ss, hk, hlen, hl, h => by
    rw [elimR] at h
    split at h
    · cases h
    · split at h
      · cases h
      · rename_i l' hl'
        have hlast : (ss ++ [l'])[n - k]? = some l' := by
          rw [show n - k = ss.length by omega, List.getElem?_append_right (Nat.le_refl _), Nat.sub_self]; rfl
        obtain ⟨c1, c2, c3, c4⟩ := elim_chain (ss := ss ++ [l']) (by omega) (by simp; omega) hlast h
        have hold : ∀ i a, ss[i]? = some a → S[i]? = some a := fun i a ha => c2 i a (by
          rw [List.getElem?_append_left (List.getElem?_eq_some_iff.1 ha).1]; exact ha)
        refine ⟨c1, hold, fun i h1 h2 => ?_, c4⟩
        by_cases hi : i = n - (k + 1)
        · subst hi
          exact ⟨l, l', hold _ _ hl, c2 _ _ (by rw [show n - (k + 1) + 1 = n - k by omega]; exact hlast), hl'⟩
        · exact c3 i (by omega) h2
theorem elimA_chain {rows : List (List Int)} {n : Nat} {S : List (List Rw)} (hhd : (rows.headD []).length = n + 1) (h : elimA rows = .sts S) : Chain n rows.length S (iniL rows) := by
  rw [elimA, hhd] at h
  obtain ⟨c1, c2, c3, c4⟩ := elim_chain (k := n) (n := n) (Nat.le_refl _) (by simp) (by simp) h
  exact ⟨c1, c2 0 _ rfl, fun i hi => c3 i (by omega) hi, c4⟩
theorem Chain.at {n m : Nat} {S : List (List Rw)} {l0 : List Rw} (h : Chain n m S l0) (hE : ∀ r ∈ l0, RowE (n + 1) m r) (h0 : l0.length ≤ 500) : ∀ i, i ≤ n → ∃ a, S[i]? = some a ∧ (∀ r ∈ a, RowE (n + 1) m r) ∧ (∀ r ∈ a, ∀ k, k < i → gt0 r.A k = 0) ∧ a.length ≤ 500
  | 0, _ => ⟨l0, h.st0, hE, fun _ _ k hk => by omega, h0⟩
  | i + 1, hi => by
    obtain ⟨a, h1, h2, h3, h4⟩ := h.at hE h0 i (by omega)
    obtain ⟨a', b, c1, c2, c3⟩ := h.nxt i (by omega)
    rw [h1] at c1; cases c1
    exact ⟨b, c2, stageR_E c3 (by omega) h2, stage_zero c3 (by omega) h2 h3, stageR_cap c3 h4⟩
/-! ## The point -/
theorem flD_le {n d : Int} (hd : 0 < d) : d * flD n d ≤ n := by
  have h1 := Int.mul_tdiv_add_tmod n d
  have h2 := Int.lt_tmod_of_pos n hd
  unfold flD
  split
  · rw [Int.mul_sub, Int.mul_one]; omega
  · omega
theorem low_ok {a S x : Int} (ha : a < 0) (h : -flD (-S) (-a) ≤ x) : a * x + S ≤ 0 := by
  have h1 := flD_le (n := -S) (d := -a) (by omega)
  have h2 := Int.mul_le_mul_of_nonneg_left (show -x ≤ flD (-S) (-a) by omega) (show 0 ≤ -a by omega)
  rw [Int.neg_mul_neg] at h2
  omega
theorem high_ok {a S x : Int} (ha : 0 < a) (h : x ≤ flD (-S) a) : a * x + S ≤ 0 := by
  have h1 := flD_le (n := -S) (d := a) ha
  have h2 := Int.mul_le_mul_of_nonneg_left h (Int.le_of_lt ha)
  omega
def LoB (b : Option Int × Option Int) (n : Int) : Prop := ∃ l, b.1 = some l ∧ n ≤ l
def HiB (b : Option Int × Option Int) (n : Int) : Prop := ∃ h, b.2 = some h ∧ h ≤ n
theorem stepC_keep {k : Nat} {pt : List Int} {b : Option Int × Option Int} {r : Rw} {n : Int} : (LoB b n → LoB (stepC k pt b r) n) ∧ (HiB b n → HiB (stepC k pt b r) n) := by
  obtain ⟨lo, hi⟩ := b
  unfold stepC LoB HiB
  generalize flD (-sumR r.A pt k) (r.A.getD k 0) = z
  generalize -flD (-sumR r.A pt k) (-r.A.getD k 0) = y
  generalize r.A.getD k 0 = a
  split
  · refine ⟨fun h => h, ?_⟩
    rintro ⟨h, h1, h2⟩
    simp only at h1; subst h1
    by_cases c : z < h
    · exact ⟨z, by simp [c], by omega⟩
    · exact ⟨h, by simp [c], h2⟩
  · split
    · refine ⟨?_, fun h => h⟩
      rintro ⟨h, h1, h2⟩
      simp only at h1; subst h1
      by_cases c : y > h
      · exact ⟨y, by simp [c], by omega⟩
      · exact ⟨h, by simp [c], h2⟩
    · exact ⟨fun h => h, fun h => h⟩
theorem stepC_new {k : Nat} {pt : List Int} {b : Option Int × Option Int} {r : Rw} : (gt0 r.A k > 0 → HiB (stepC k pt b r) (flD (-sumR r.A pt k) (gt0 r.A k))) ∧ (gt0 r.A k < 0 → LoB (stepC k pt b r) (-flD (-sumR r.A pt k) (-gt0 r.A k))) := by
  obtain ⟨lo, hi⟩ := b
  unfold stepC LoB HiB gt0
  generalize flD (-sumR r.A pt k) (r.A.getD k 0) = z
  generalize -flD (-sumR r.A pt k) (-r.A.getD k 0) = y
  generalize r.A.getD k 0 = a
  refine ⟨fun h => ?_, fun h => ?_⟩
  · rw [if_pos h]
    cases hi with
    | none => exact ⟨z, by simp, Int.le_refl _⟩
    | some x =>
      by_cases c : z < x
      · exact ⟨z, by simp [c], Int.le_refl _⟩
      · exact ⟨x, by simp [c], by omega⟩
  · rw [if_neg (by omega), if_pos h]
    cases lo with
    | none => exact ⟨y, by simp, Int.le_refl _⟩
    | some x =>
      by_cases c : y > x
      · exact ⟨y, by simp [c], Int.le_refl _⟩
      · exact ⟨x, by simp [c], by omega⟩
theorem foldC {k : Nat} {pt : List Int} : ∀ {l : List Rw} {b : Option Int × Option Int}, (∀ n, LoB b n → LoB (l.foldl (stepC k pt) b) n) ∧ (∀ n, HiB b n → HiB (l.foldl (stepC k pt) b) n) ∧ ∀ r ∈ l, (gt0 r.A k > 0 → HiB (l.foldl (stepC k pt) b) (flD (-sumR r.A pt k) (gt0 r.A k))) ∧ (gt0 r.A k < 0 → LoB (l.foldl (stepC k pt) b) (-flD (-sumR r.A pt k) (-gt0 r.A k)))
  | [], b => ⟨fun _ h => h, fun _ h => h, by simp⟩
  | r :: l, b => by
    obtain ⟨h1, h2, h3⟩ := foldC (k := k) (pt := pt) (l := l) (b := stepC k pt b r)
    rw [List.foldl_cons]
    refine ⟨fun n h => h1 n (stepC_keep.1 h), fun n h => h2 n (stepC_keep.2 h), fun x hx => ?_⟩
    rcases List.mem_cons.1 hx with rfl | hx
    · exact ⟨fun h => h2 _ (stepC_new.1 h), fun h => h1 _ (stepC_new.2 h)⟩
    · exact h3 x hx
theorem endC_ok {b : Option Int × Option Int} {x : Int} (h : endC b = some x) : (∀ n, LoB b n → n ≤ x) ∧ ∀ n, HiB b n → x ≤ n := by
  obtain ⟨lo, hi⟩ := b
  unfold endC at h
  unfold LoB HiB
  have fin : ∀ y : Int, y = x → (∀ l, lo = some l → l ≤ y) → (∀ h, hi = some h → y ≤ h) → (∀ n, (∃ l, (lo, hi).1 = some l ∧ n ≤ l) → n ≤ x) ∧ ∀ n, (∃ h, (lo, hi).2 = some h ∧ h ≤ n) → x ≤ n := by
    rintro y rfl h1 h2
    refine ⟨?_, ?_⟩
    · rintro n ⟨l, hl, hn⟩; have := h1 l hl; omega
    · rintro n ⟨l, hl, hn⟩; have := h2 l hl; omega
  simp only at h
  split at h
  · cases h
  · rename_i c1
    split at h
    · rename_i c2
      cases lo with
      | none => simp at c2
      | some l =>
        refine fin _ (Option.some.inj h) (fun l' e => by cases e; exact Int.le_refl _) (fun z e => ?_)
        subst e
        simp at c1 c2 ⊢; omega
    · rename_i c2
      split at h
      · rename_i c3
        cases hi with
        | none => simp at c3
        | some z =>
          refine fin _ (Option.some.inj h) (fun l e => ?_) (fun z' e => by cases e; exact Int.le_refl _)
          subst e
          simp at c1 c2 c3 ⊢; omega
      · rename_i c3
        refine fin _ (Option.some.inj h) (fun l e => ?_) (fun z e => ?_)
        · subst e; simp at c2; omega
        · subst e; simp at c3; omega
theorem chooseR_ok {l : List Rw} {k : Nat} {pt : List Int} {x : Int} (h : chooseR l k pt = some x) {r : Rw} (hr : r ∈ l) (h0 : gt0 r.A k ≠ 0) : gt0 r.A k * x + sumR r.A pt k ≤ 0 := by
  obtain ⟨_, _, h3⟩ := foldC (k := k) (pt := pt) (l := l) (b := (none, none))
  obtain ⟨e1, e2⟩ := endC_ok h
  obtain ⟨f1, f2⟩ := h3 r hr
  rcases Int.lt_trichotomy (gt0 r.A k) 0 with hn | hz | hp
  · exact low_ok hn (e1 _ (f2 hn))
  · exact absurd hz h0
  · exact high_ok hp (e2 _ (f1 hp))
/-- A point with 1 behind it. -/
def pv (pt : List Int) (k : Nat) : Int := if k = pt.length then 1 else gt0 pt k
theorem sg_pv {r pt : List Int} {k : Nat} (hz : ∀ i, i < k → gt0 r i = 0) (hk : k < pt.length) : sg (gt0 r) (pv pt) (pt.length + 1) = gt0 r k * gt0 pt k + sumR r pt k := by
  have h : ∀ d, k + 1 + d ≤ pt.length → sg (gt0 r) (pv pt) (k + 1 + d) + gt0 r pt.length = gt0 r k * gt0 pt k + sumTo r pt k d := by
    intro d
    induction d with
    | zero =>
      intro _
      rw [Nat.add_zero, sg, sg_zero k fun i hi => by rw [hz i hi, Int.zero_mul], sumTo, pv, if_neg (by omega), Int.zero_add]
      rfl
    | succ d ih =>
      intro hd
      have := ih (by omega)
      rw [← Nat.add_assoc, sg, sumTo, pv, if_neg (by omega)]
      simp only [gt0] at *
      omega
  have := h (pt.length - (k + 1)) (by omega)
  rw [show k + 1 + (pt.length - (k + 1)) = pt.length by omega] at this
  rw [sg, pv, if_pos rfl, Int.mul_one, this]
  rfl
theorem sumR_set {r pt : List Int} {k : Nat} {x : Int} : sumR r (pt.set k x) k = sumR r pt k := by
  have h : ∀ d, sumTo r (pt.set k x) k d = sumTo r pt k d := by
    intro d
    induction d with
    | zero => simp [sumTo]
    | succ d ih =>
      rw [sumTo, sumTo, ih]
      congr 2
      rw [List.getD_eq_getElem?_getD, List.getD_eq_getElem?_getD, List.getElem?_set_ne (by omega)]
  unfold sumR
  rw [List.length_set, h]
theorem point_step {l l' : List Rw} {k n m : Nat} {pt : List Int} {x : Int} (hst : stageR k l = .ok l') (hk : k < n) (hpt : pt.length = n) (hz : ∀ r ∈ l, ∀ i, i < k → gt0 r.A i = 0) (hs : Sat (n + 1) l' (pv pt)) (hc : chooseR l k pt = some x) : Sat (n + 1) l (pv (pt.set k x)) := by
  intro r hr
  have e1 := sg_pv (r := r.A) (pt := pt.set k x) (hz r hr) (by rw [List.length_set]; omega)
  rw [List.length_set, hpt, sumR_set] at e1
  have e2 : gt0 (pt.set k x) k = x := by
    rw [gt0, List.getD_eq_getElem?_getD, List.getElem?_set_self (by omega)]; rfl
  rw [e1, e2]
  by_cases h0 : gt0 r.A k = 0
  · obtain ⟨y, hy, e⟩ := (stageR_ok hst).2.1 r hr h0
    have h1 := hs y hy
    have e3 := sg_pv (r := r.A) (pt := pt) (hz r hr) (by omega)
    rw [e, ← hpt, e3, h0, Int.zero_mul] at h1
    rw [h0, Int.zero_mul]
    exact h1
  · exact chooseR_ok hc hr h0
/-- The point, from the last variable on. -/
def pointL (S : List (List Rw)) : Nat → List Int → List Int × Bool × Int
  | 0, pt => (pt, true, 0)
  | j + 1, pt => match chooseR (S.getD j []) j pt with
    | none => ([], false, 0)
    | some x => if (x.natAbs : Int) > 16777216 then ([], false, 5) else pointL S j (pt.set j x)
/-- What Point tells. -/
def pointR (rows : List (List Int)) : List Int × Bool × Int :=
  if rightR rows ≠ 0 then ([], false, rightR rows) else match elimA rows with
    | .err e => ([], false, e)
    | .ref _ => ([], false, 0)
    | .sts S => pointL S ((rows.headD []).length - 1) (List.replicate ((rows.headD []).length - 1) 0)
theorem pointL_sat {S : List (List Rw)} {n m : Nat} {l0 : List Rw} {p : List Int} (hC : Chain n m S l0) (hE : ∀ r ∈ l0, RowE (n + 1) m r) (h0 : l0.length ≤ 500) : ∀ {j : Nat} {pt : List Int}, j ≤ n → pt.length = n → Bnd limP pt → Sat (n + 1) (S.getD j []) (pv pt) → pointL S j pt = (p, true, 0) → Sat (n + 1) l0 (pv p) ∧ p.length = n ∧ Bnd limP p
  | 0, pt, _, hl, hb, hs, h => by
    rw [pointL] at h
    cases h
    rw [List.getD_eq_getElem?_getD, hC.st0] at hs
    exact ⟨hs, hl, hb⟩
  | j + 1, pt, hj, hl, hb, hs, h => by
    rw [pointL] at h
    split at h
    · simp at h
    · rename_i x hx
      split at h
      · simp at h
      · rename_i hlim
        obtain ⟨a, b, c1, c2, c3⟩ := hC.nxt j (by omega)
        obtain ⟨a', d1, d2, d3, d4⟩ := hC.at hE h0 j (by omega)
        rw [c1] at d1; cases d1
        rw [List.getD_eq_getElem?_getD, c2] at hs
        have ea : S.getD j [] = a := by rw [List.getD_eq_getElem?_getD, c1]; rfl
        rw [ea] at hx
        have hb' : Bnd limP (pt.set j x) := fun y hy => by
          rcases List.mem_or_eq_of_mem_set hy with hy | rfl
          · exact hb y hy
          · unfold limP; omega
        exact pointL_sat hC hE h0 (by omega) (by rw [List.length_set, hl]) hb' (by rw [ea]; exact point_step (m := m) c3 (by omega) hl d3 hs hx) h
/-- A point satisfies all rows. -/
theorem point_sat {rows : List (List Int)} {p : List Int} {n : Nat} (hr : rightR rows = 0) (hhd : (rows.headD []).length = n + 1) (h : pointR rows = (p, true, 0)) : SatL (n + 1) rows (pv p) ∧ p.length = n ∧ Bnd limP p := by
  have hR := right_of hr
  rw [hhd] at hR
  have hlen : (iniL rows).length ≤ 500 := by
    have := hR.few
    rw [iniL, iniP_len]; omega
  rw [pointR, if_neg (by simp [hr])] at h
  split at h
  · simp at h
  · simp at h
  · rename_i S hS
    have hC := elimA_chain hhd hS
    rw [hhd, Nat.add_sub_cancel] at h
    obtain ⟨a, d1, d2, d3, d4⟩ := hC.at (iniL_E hR) hlen n (Nat.le_refl _)
    obtain ⟨z, z1, z2⟩ := hC.fin
    rw [d1] at z1; cases z1
    have hbase : Sat (n + 1) (S.getD n []) (pv (List.replicate n 0)) := by
      rw [List.getD_eq_getElem?_getD, d1]
      intro r hr
      rw [sg, sg_zero n fun i hi => by rw [d3 r hr i hi, Int.zero_mul], pv, if_pos (by simp)]
      have := end_sat d2 d3 z2 r hr
      omega
    obtain ⟨q1, q2, q3⟩ := pointL_sat hC (iniL_E hR) hlen (Nat.le_refl _) (by simp) (fun y hy => by
      rw [List.eq_of_mem_replicate hy]; unfold limP; omega) hbase h
    exact ⟨sat_ini.1 q1, q2, q3⟩
end Go.Proofs.Eng
