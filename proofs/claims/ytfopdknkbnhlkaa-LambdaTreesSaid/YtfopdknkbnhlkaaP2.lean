/- P2: what functions of the program return. No conditions beyond those in the theorems. -/
import Derived.Test.YtfopdknkbnhlkaaP1
import Derived.Test.YtfopdknkbnhlkaaE5
set_option linter.all false
set_option linter.deprecated false
set_option linter.unnecessarySimpa false
set_option linter.unusedVariables false
set_option linter.unusedSimpArgs false
set_option linter.defProp false
namespace Go.Proofs.Eng
open Go Go.Proofs
mutual
/-- All nodes are well-formed, and the variables' indices are at most B. -/
def Ex.gd (B : Int) : Ex → Prop
  | .mk k i n s kids => fmB k i n s kids.length = true ∧ (k = 0 → i ≤ B) ∧ gdL B kids
def gdL (B : Int) : List Ex → Prop
  | [] => True
  | e :: es => e.gd B ∧ gdL B es
end
theorem gdL_iff {B : Int} : ∀ l : List Ex, gdL B l ↔ ∀ e ∈ l, e.gd B
  | [] => by simp [gdL]
  | e :: es => by simp [gdL, gdL_iff es]
theorem Ex.gd_iff {B k i : Int} {n : ByteArray} {s : List Int} {kids : List Ex} : (Ex.mk k i n s kids).gd B ↔ fmB k i n s kids.length = true ∧ (k = 0 → i ≤ B) ∧ ∀ e ∈ kids, e.gd B := by
  rw [Ex.gd, gdL_iff]
theorem gd_wf {B : Int} (e : Ex) : e.gd B → e.wf := by
  induction e using Ex.ind with
  | h k i n s kids ih =>
    intro h
    rw [Ex.gd_iff] at h
    rw [Ex.wf_iff]
    exact ⟨h.1, fun x hx => ih x hx (h.2.2 x hx)⟩
theorem gd_mono {B B' : Int} (hB : B ≤ B') (e : Ex) : e.gd B → e.gd B' := by
  induction e using Ex.ind with
  | h k i n s kids ih =>
    intro h
    rw [Ex.gd_iff] at h ⊢
    exact ⟨h.1, fun k0 => by have := h.2.1 k0; omega, fun x hx => ih x hx (h.2.2 x hx)⟩
mutual
def Ex.sz : Ex → Nat
  | .mk _ _ _ _ kids => szL kids + 1
def szL : List Ex → Nat
  | [] => 0
  | e :: es => e.sz + szL es
end
theorem sz_pos (e : Ex) : 1 ≤ e.sz := by cases e; simp [Ex.sz]
theorem sz_kid {l : List Ex} {e : Ex} (h : e ∈ l) : e.sz ≤ szL l := by
  induction l with
  | nil => simp at h
  | cons x l ih =>
    simp only [szL]
    rcases List.mem_cons.1 h with rfl | h
    · omega
    · have := ih h; omega
theorem dep_sz (e : Ex) : e.dep ≤ e.sz := by
  induction e using Ex.ind with
  | h k i n s kids ih =>
    simp only [Ex.dep, Ex.sz]
    have key : ∀ l : List Ex, (∀ x ∈ l, x.dep ≤ x.sz) → depL l ≤ szL l := by
      intro l
      induction l with
      | nil => intro _; simp [depL]
      | cons x l ihl =>
        intro h
        have h1 := h x (by simp)
        have h2 := ihl fun y hy => h y (by simp [hy])
        simp only [depL, szL]; omega
    have := key kids ih
    omega
theorem szL_set {l : List Ex} {j : Nat} {x y : Ex} (h : l[j]? = some x) : szL (l.set j y) + x.sz = szL l + y.sz := by
  induction l generalizing j with
  | nil => simp at h
  | cons z l ih =>
    cases j with
    | zero => simp at h; subst h; simp [szL]; omega
    | succ j => have := ih (j := j) (by simpa using h); simp [szL]; omega
theorem sizes_eq (l : List Ex) (h : ∀ x ∈ l, x.sz ≤ 4611686018427387904 → x.size = x.sz) : ∀ acc : Int, 0 ≤ acc → acc + szL l ≤ 4611686018427387904 → Ex.sizes acc l = acc + szL l := by
  induction l with
  | nil => intro acc _ _; simp [Ex.sizes, szL]
  | cons x l ih =>
    intro acc h0 h1
    simp only [szL] at h1
    rw [Ex.sizes, h x (by simp) (by omega)]
    rw [show IntKind.i64.wrap (acc + (x.sz : Int)) = acc + x.sz from wrap_in (by unfold in64; omega)]
    rw [ih (fun y hy => h y (by simp [hy])) _ (by omega) (by omega)]
    simp only [szL]; omega
theorem size_eq (e : Ex) : e.sz ≤ 4611686018427387904 → e.size = e.sz := by
  induction e using Ex.ind with
  | h k i n s kids ih =>
    intro h
    simp only [Ex.sz] at h
    rw [Ex.size, sizes_eq kids ih 1 (by omega) (by omega)]
    simp only [Ex.sz]; omega
/-- What becomes of a well-formed expression whose variables are replaced. -/
theorem mv_gd {g : Int → Int → Ex} {B B' D : Int} (hD : D ≤ B62) (hg : ∀ i d, 0 ≤ i → i ≤ B → 0 ≤ d → d ≤ D → (g i d).gd B') (e : Ex) : ∀ {d : Int}, e.gd B → 0 ≤ d → d + 64 * e.dep ≤ D → (e.mv g d).gd B' := by
  induction e using Ex.ind with
  | h k i n s kids ih =>
    intro d h h0 h1
    rw [Ex.gd_iff] at h
    obtain ⟨f1, f2, f3⟩ := h
    have hf := fm_facts f1
    simp only [Ex.dep] at h1
    rw [Ex.mv]
    by_cases k0 : k = 0
    · rw [if_pos k0]; exact hg i d (by omega) (f2 k0) h0 (by omega)
    · rw [if_neg k0, Ex.gd_iff, mvL_len]
      refine ⟨f1, fun h => absurd h k0, ?_⟩
      have key : ∀ (l : List Ex) (j : Nat), (∀ x ∈ l, x ∈ kids) → ∀ y ∈ mvL g k s d j l, y.gd B' := by
        intro l
        induction l with
        | nil => intro j _ y hy; simp [mvL] at hy
        | cons x l ihl =>
          intro j hl y hy
          have hx := hl x (by simp)
          have hdx := dep_kid hx
          have hr := under_range (k := k) hf.2.2.2.2.2.1 j
          simp only [mvL, List.mem_cons] at hy
          rcases hy with rfl | hy
          · rw [show w64 (d + under k s j) = d + under k s j from wrap_in (by unfold in64; unfold B62 at hD; omega)]
            exact ih x hx (f3 x hx) (by omega) (by omega)
          · exact ihl (j + 1) (fun z hz => hl z (by simp [hz])) y hy
      exact key kids 0 fun x hx => hx
theorem mv_sz {g : Int → Int → Ex} {M : Nat} (hM : 1 ≤ M) (hg : ∀ i d, (g i d).sz ≤ M) (e : Ex) : ∀ {d : Int}, (e.mv g d).sz ≤ M * e.sz := by
  induction e using Ex.ind with
  | h k i n s kids ih =>
    intro d
    rw [Ex.mv]
    by_cases k0 : k = 0
    · rw [if_pos k0]
      have := hg i d
      have h2 : M * 1 ≤ M * (Ex.mk k i n s kids).sz := Nat.mul_le_mul_left _ (sz_pos _)
      omega
    · rw [if_neg k0]
      simp only [Ex.sz]
      have key : ∀ (l : List Ex) (j : Nat), (∀ x ∈ l, x ∈ kids) → szL (mvL g k s d j l) ≤ M * szL l := by
        intro l
        induction l with
        | nil => intro j _; simp [mvL, szL]
        | cons x l ihl =>
          intro j hl
          simp only [mvL, szL]
          have h1 := ih x (hl x (by simp)) (d := w64 (d + under k s j))
          have h2 := ihl (j + 1) fun z hz => hl z (by simp [hz])
          rw [Nat.mul_add]; omega
      have := key kids 0 fun x hx => hx
      rw [Nat.mul_add]; omega
theorem var_gd {i B : Int} (h0 : 0 ≤ i) (h1 : i ≤ B) : (Ex.var i).gd B := by
  rw [Ex.var, Ex.gd_iff]
  refine ⟨?_, fun _ => h1, by simp⟩
  simp [fmB, tabB, kidsB, kn, h0]
  exact .inl rfl
theorem lift_gd {B D : Int} (hB : 0 ≤ B) (hBD : B + D ≤ B62) {b : Int} (hb0 : 0 ≤ b) (hb : b ≤ D) {e : Ex} (h : e.gd B) (hd : 64 * (e.dep : Int) ≤ D) : (e.lift b).gd (B + D) := by
  unfold Ex.lift
  split
  · exact gd_mono (by omega) e h
  · refine mv_gd (B := B) (D := D) (by omega) ?_ e h (by omega) (by omega)
    intro i d i0 i1 d0 d1
    unfold liftG
    split
    · rw [show w64 (i + b) = i + b from wrap_in (by unfold in64; unfold B62 at hBD; omega)]
      exact var_gd (by omega) (by omega)
    · exact var_gd i0 (by omega)
theorem lift_sz {b : Int} (e : Ex) : (e.lift b).sz ≤ e.sz := by
  unfold Ex.lift
  split
  · exact Nat.le_refl _
  · have := mv_sz (g := liftG b) (M := 1) (by omega) (fun i d => by unfold liftG; split <;> simp [Ex.var, Ex.sz, szL]) e (d := 0)
    omega
theorem subst_gd {B D : Int} (hB : 0 ≤ B) (hBD : B + D ≤ B62) {e : Ex} (h : e.gd B) (hd : 64 * (e.dep : Int) ≤ D) {vs : List Ex} (hv : ∀ v ∈ vs, v.gd B ∧ 64 * (v.dep : Int) ≤ D) : (e.subst vs).gd (B + D) := by
  unfold Ex.subst
  refine mv_gd (B := B) (D := D) (by omega) ?_ e h (by omega) (by omega)
  intro i d i0 i1 d0 d1
  unfold substG
  split
  · exact var_gd i0 (by omega)
  · have hw : w64 (i - d) = i - d := wrap_in (by unfold in64; unfold B62 at hBD; omega)
    rw [hw]
    split
    · rename_i h1 h2
      obtain ⟨x, hx⟩ : ∃ x, vs[(i - d).toNat]? = some x := ⟨_, List.getElem?_eq_getElem (by omega)⟩
      rw [List.getD, hx]
      have hm := hv x (List.mem_of_getElem? hx)
      exact lift_gd hB hBD (by omega) d1 hm.1 hm.2
    · rename_i h1 h2
      rw [show w64 (i - (vs.length : Int)) = i - vs.length from wrap_in (by unfold in64; unfold B62 at hBD; omega)]
      exact var_gd (by omega) (by omega)
theorem subst_sz {e : Ex} {vs : List Ex} {M : Nat} (hM : 1 ≤ M) (hv : ∀ v ∈ vs, v.sz ≤ M) : (e.subst vs).sz ≤ M * e.sz := by
  refine mv_sz hM (fun i d => ?_) e
  unfold substG
  split
  · simpa [Ex.var, Ex.sz, szL] using hM
  · split
    · cases hx : vs[(w64 (i - d)).toNat]? with
      | none =>
        simp only [List.getD, hx, Option.getD_none]
        have := lift_sz (b := d) Ex.zero
        have h2 : Ex.zero.sz = 1 := by simp [Ex.zero, Ex.sz, szL]
        omega
      | some x =>
        simp only [List.getD, hx, Option.getD_some]
        have h1 := hv x (List.mem_of_getElem? hx)
        have := lift_sz (b := d) x
        omega
    · simpa [Ex.var, Ex.sz, szL] using hM
theorem getD_kid {l : List Ex} {j : Nat} (h : j < l.length) : l.getD j .zero ∈ l := by
  rw [List.getD, List.getElem?_eq_getElem h]
  exact List.getElem_mem h
theorem red_gd {B D : Int} (hB : 0 ≤ B) (hBD : B + D ≤ B62) {e x : Ex} (h : e.gd B) (hd : 64 * (e.dep : Int) ≤ D) (hk : e.k = 2 ∨ e.k = 4 ∨ e.k = 7 ∨ e.k = 9 ∨ e.k = 10) (hr : e.red = .ok x) : x.gd (B + D) ∧ x.sz ≤ e.sz * e.sz := by
  obtain ⟨k, i, n, s, kids⟩ := e
  rw [Ex.gd_iff] at h
  obtain ⟨f1, f2, f3⟩ := h
  have hf := fm_facts f1
  simp only [Ex.k] at hk
  have hpos : 0 < kids.length := by omega
  have hm0 := getD_kid (l := kids) hpos
  have hD0 : 0 ≤ D := by simp only [Ex.dep] at hd; omega
  have hkid : ∀ y ∈ kids, y.gd B ∧ 64 * (y.dep : Int) ≤ D ∧ y.sz ≤ szL kids := fun y hy => ⟨f3 y hy, by have := dep_kid hy; simp only [Ex.dep] at hd; omega, sz_kid hy⟩
  have hmul : ∀ a b : Nat, a ≤ szL kids → b ≤ szL kids → a * b ≤ (szL kids + 1) * (szL kids + 1) := fun a b ha hb => Nat.mul_le_mul (by omega) (by omega)
  have hself : szL kids + 1 ≤ (szL kids + 1) * (szL kids + 1) := Nat.le_mul_self _
  have h0 := hkid _ hm0
  have hsub : ∀ y ∈ (kids.getD 0 .zero).kids, y.gd B ∧ 64 * (y.dep : Int) ≤ D ∧ y.sz ≤ szL kids := by
    intro y hy
    generalize kids.getD 0 .zero = z at h0 hy
    obtain ⟨zk, zi, zn, zs, zkids⟩ := z
    simp only [Ex.kids] at hy
    have g := h0.1
    rw [Ex.gd_iff] at g
    refine ⟨g.2.2 y hy, ?_, ?_⟩
    · have := dep_kid hy; have := h0.2.1; simp only [Ex.dep] at this; omega
    · have := sz_kid hy; have := h0.2.2; simp only [Ex.sz] at this; omega
  have hz0 : ∀ j, j < (kids.getD 0 .zero).kids.length → (kids.getD 0 .zero).kids.getD j .zero ∈ (kids.getD 0 .zero).kids := fun j hj => getD_kid hj
  have hlen0 : (kids.getD 0 .zero).k = 1 → (kids.getD 0 .zero).kids.length = 1 := by
    intro hk1
    generalize kids.getD 0 .zero = z at h0 hk1
    obtain ⟨zk, zi, zn, zs, zkids⟩ := z
    have g := h0.1
    rw [Ex.gd_iff] at g
    have := fm_facts g.1
    simp only [Ex.k] at hk1
    simp only [Ex.kids]; omega
  have hlen8 : (kids.getD 0 .zero).k = 8 → (kids.getD 0 .zero).kids.length = 2 := by
    intro hk1
    generalize kids.getD 0 .zero = z at h0 hk1
    obtain ⟨zk, zi, zn, zs, zkids⟩ := z
    have g := h0.1
    rw [Ex.gd_iff] at g
    have := fm_facts g.1
    simp only [Ex.k] at hk1
    simp only [Ex.kids]; omega
  have hi0 : 0 ≤ (kids.getD 0 .zero).i := by
    generalize kids.getD 0 .zero = z at h0
    obtain ⟨zk, zi, zn, zs, zkids⟩ := z
    have g := h0.1
    rw [Ex.gd_iff] at g
    have := fm_facts g.1
    simp only [Ex.i]; omega
  have hsb : ∀ {y : Ex} {vs : List Ex}, (y.gd B ∧ 64 * (y.dep : Int) ≤ D ∧ y.sz ≤ szL kids) → (∀ v ∈ vs, v.gd B ∧ 64 * (v.dep : Int) ≤ D ∧ v.sz ≤ szL kids) → (y.subst vs).gd (B + D) ∧ (y.subst vs).sz ≤ (szL kids + 1) * (szL kids + 1) := by
    intro y vs hy hvs
    refine ⟨subst_gd hB hBD hy.1 hy.2.1 fun v hv => ⟨(hvs v hv).1, (hvs v hv).2.1⟩, ?_⟩
    have h1 := subst_sz (e := y) (vs := vs) (M := szL kids + 1) (by omega) fun v hv => by have := (hvs v hv).2.2; omega
    have h2 : (szL kids + 1) * y.sz ≤ (szL kids + 1) * (szL kids + 1) := Nat.mul_le_mul_left _ (by omega)
    omega
  have hpl : ∀ {y : Ex}, (y.gd B ∧ 64 * (y.dep : Int) ≤ D ∧ y.sz ≤ szL kids) → y.gd (B + D) ∧ y.sz ≤ (szL kids + 1) * (szL kids + 1) := fun hy => ⟨gd_mono (by omega) _ hy.1, by omega⟩
  simp only [Ex.sz]
  simp only [Ex.red] at hr
  by_cases k7 : k = 7
  · rw [if_pos k7] at hr; cases hr
    exact hsb (hkid _ (getD_kid (by omega))) fun v hv => hkid v (List.mem_of_mem_take hv)
  rw [if_neg k7] at hr
  by_cases k4 : k = 4
  · rw [if_pos k4] at hr
    split at hr
    · rename_i hc; cases hr
      exact hsb (hkid _ (getD_kid (by omega))) fun v hv => hsub v (by simpa using hv)
    · cases hr
  rw [if_neg k4] at hr
  split at hr
  · rename_i hc; cases hr
    exact hsb (hsub _ (hz0 0 (by rw [hlen0 hc.2]; decide))) fun v hv => hkid v (List.mem_of_mem_drop hv)
  · split at hr
    · rename_i hc; cases hr
      exact hpl (hsub _ (hz0 _ (by rw [hlen8 hc.2]; omega)))
    · split at hr
      · cases hr; exact hpl h0
      · cases hr
/-- A step keeps what is well-formed. -/
theorem step_gd {gs : List Gl} {B D : Int} {G : Nat} (hB : 0 ≤ B) (hBD : B + D ≤ B62) (hgs : ∀ n b, gfind gs n = some b → b.gd (B + D) ∧ b.sz ≤ G) (e : Ex) : ∀ {x}, e.gd B → 64 * (e.dep : Int) ≤ D → e.val = false → e.step gs = .ok x → x.gd (B + D) ∧ x.sz ≤ e.sz * e.sz + e.sz + G := by
  induction e using Ex.ind with
  | h k i n s kids ih =>
    intro x h hd hv hs
    have hg := h
    rw [Ex.gd_iff] at h
    obtain ⟨f1, f2, f3⟩ := h
    have hf := fm_facts f1
    simp only [Ex.step] at hs
    by_cases k0 : k = 0
    · rw [if_pos k0] at hs; cases hs
    rw [if_neg k0] at hs
    by_cases k11 : k = 11
    · rw [if_pos k11] at hs; cases hs
    rw [if_neg k11] at hs
    by_cases k5 : k = 5
    · rw [if_pos k5] at hs
      cases hgf : gfind gs n with
      | none => rw [hgf] at hs; cases hs
      | some b =>
        rw [hgf] at hs; cases hs
        have := hgs n x hgf
        exact ⟨this.1, by omega⟩
    rw [if_neg k5] at hs
    have hv2 := val_kids hv
    have hD0 : 0 ≤ D := by simp only [Ex.dep] at hd; omega
    have hsl : (∀ y ∈ kids.take (if k = 4 ∨ k = 7 then 1 else kids.length), y.val = true) ∨ ∃ j y, j < (if k = 4 ∨ k = 7 then 1 else kids.length) ∧ kids[j]? = some y ∧ y.val = false ∧ ∀ z ∈ kids.take j, z.val = true := by
      generalize (if k = 4 ∨ k = 7 then 1 else kids.length) = m
      clear hs hv hv2 hf f1 f2 f3 hg ih hd
      induction m with
      | zero => left; simp
      | succ m ihm =>
        rcases ihm with h | ⟨j, y, h1, h2, h3, h4⟩
        · by_cases hm : m < kids.length
          · cases hy : kids[m].val
            · exact .inr ⟨m, kids[m], by omega, List.getElem?_eq_getElem hm, hy, h⟩
            · left
              intro z hz
              rw [List.take_add_one, List.getElem?_eq_getElem hm, Option.toList_some, List.mem_append, List.mem_singleton] at hz
              rcases hz with hz | rfl
              · exact h z hz
              · exact hy
          · left
            intro z hz
            rw [List.take_of_length_le (by omega)] at hz
            exact h z (by rw [List.take_of_length_le (by omega)]; exact hz)
        · exact .inr ⟨j, y, by omega, h2, h3, h4⟩
    rcases hsl with hall | ⟨j, y, j1, j2, j3, j4⟩
    · rw [stepL_none _ _ _ hall] at hs
      have hk : k = 2 ∨ k = 4 ∨ k = 7 ∨ k = 9 ∨ k = 10 := by
        by_cases h47 : k = 4 ∨ k = 7
        · omega
        · rw [if_neg h47, List.take_length] at hall
          have h38 : ¬ (k = 3 ∨ k = 8) := fun h => by
            obtain ⟨z, hz, hzv⟩ := hv2.2 h
            rw [hall z hz] at hzv; cases hzv
          omega
      have := red_gd hB hBD hg hd hk hs
      exact ⟨this.1, by omega⟩
    · rw [stepL_hit gs _ j kids y j1 j2 j3 j4] at hs
      have hy := List.mem_of_getElem? j2
      cases hst : y.step gs with
      | error c => rw [hst] at hs; cases hs
      | ok x' =>
        rw [hst] at hs
        cases hs
        have h1 := ih y hy (f3 y hy) (by have := dep_kid hy; simp only [Ex.dep] at hd; omega) j3 hst
        constructor
        · rw [Ex.gd_iff]
          refine ⟨by rw [List.length_set]; exact f1, fun h => absurd h k0, fun z hz => ?_⟩
          rcases List.mem_or_eq_of_mem_set hz with hz | rfl
          · exact gd_mono (by omega) _ (f3 z hz)
          · exact h1.1
        · have h2 := szL_set (y := x') j2
          have h3 := sz_kid hy
          have h4 : y.sz * y.sz ≤ (szL kids + 1) * (szL kids + 1) := Nat.mul_le_mul (by omega) (by omega)
          simp only [Ex.sz]
          omega
end Go.Proofs.Eng
