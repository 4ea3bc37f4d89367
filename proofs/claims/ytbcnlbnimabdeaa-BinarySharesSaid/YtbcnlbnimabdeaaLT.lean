/- BinaryTerms holds of all arguments. No conditions beyond those in the theorems. -/
import Derived.Test.YtbcnlbnimabdeaaT14
import Derived.Test.YtbcnlbnimabdeaaL2
set_option linter.all false
set_option linter.deprecated false
set_option linter.unnecessarySimpa false
set_option linter.unusedVariables false
set_option linter.unusedSimpArgs false
set_option linter.defProp false
namespace Go.Proofs.Eng
open Go Go.Proofs
set_option maxRecDepth 100000
set_option maxHeartbeats 16000000
theorem flat_bound {α : Type} {f : α → List UInt8} {N : Nat} : ∀ {l : List α}, (∀ x ∈ l, (f x).length ≤ N) → (l.flatMap f).length ≤ N * l.length
  | [], _ => by simp
  | x :: l, h => by
    have h1 := h x (by simp)
    have h2 := flat_bound (l := l) fun y hy => h y (by simp [hy])
    rw [List.flatMap_cons, List.length_append, List.length_cons, Nat.mul_add]; omega
theorem enterL_len_of {l : List Tm} (ih : ∀ t ∈ l, ∀ T, (Tm.enter T t).length ≤ T.length + t.sz) : ∀ T, (enterL T l).length ≤ T.length + tszL l := by
  induction l with
  | nil => intro T; rw [enterL, tszL]; omega
  | cons t l ihl =>
    intro T
    have h1 := ih t (by simp) T
    have h2 := ihl (fun u hu => ih u (by simp [hu])) (Tm.enter T t)
    rw [enterL, tszL]; omega
theorem enter_size1 (t : Tm) : ∀ T, (Tm.enter T t).length ≤ T.length + t.sz := by
  induction t using Tm.ind with
  | h k i n ls kids ih =>
    intro T
    have h1 := enterL_len_of ih T
    rw [Tm.enter, Tm.sz]
    split
    · omega
    · split
      · omega
      · rw [List.length_append, List.length_singleton]; omega
theorem enterL_size (l T : List Tm) : (enterL T l).length ≤ T.length + tszL l := enterL_len_of (fun t _ => enter_size1 t) T
theorem slim_subs (t : Tm) : t.slim → ∀ x ∈ t.subs, x.slim := by
  induction t using Tm.ind with
  | h k i n ls kids ih =>
    intro h x hx
    rw [Tm.subs] at hx
    rcases List.mem_cons.1 hx with rfl | hx
    · exact h
    · obtain ⟨y, hy, hxy⟩ := mem_subsL.1 hx
      rw [Tm.slim, slimL_iff] at h
      exact ih y hy (h.2.2.2.2 y hy) x hxy
theorem encL_len {l : Lv} (hv : validB l = true) (h10 : l.vs.length ≤ 10) : (encL l).length ≤ 198 := by
  obtain ⟨c, hc, hc2, hvl, hvs⟩ := valid_nat hv
  have h1 := encN_big (n := c) (by unfold bigN; omega)
  have h2 := encN_big (n := l.vs.length) (by unfold bigN; omega)
  have h3 := flat_bound (f := encV) (N := 18) (l := l.vs) fun v hx => by
    obtain ⟨a, b, rfl, ha, hb⟩ := hvs v hx
    rw [encV_nat, List.length_append]
    have := encN_big (n := a) (by unfold bigN; omega)
    have := encN_big (n := b) (by unfold bigN; omega)
    omega
  have : encL l = encN c ++ (encN l.vs.length ++ l.vs.flatMap encV) := by unfold encL; rw [hc]; rfl
  rw [this, List.length_append, List.length_append]; omega
theorem entry_len {t : Tm} {pos : Tm → Nat} (hr : t.right = true) (hs : t.slim) (hp : ∀ x ∈ t.kids, pos x < bigN) : (entryT pos t).length ≤ 2300 := by
  obtain ⟨hf, hv, hl8, hn6, hi⟩ := right_facts hr
  obtain ⟨k, i, n, ls, kids⟩ := t
  obtain ⟨_, hrk, r3, r4, r5, r6, r7, r8⟩ := (right_iff k i n ls kids).1 hr
  obtain ⟨hk0, hk12⟩ := kidsN_range (k := k) (by omega)
  rw [Tm.slim, slimL_iff] at hs
  obtain ⟨s1, s2, s3, s4, _⟩ := hs
  have h1 := encN_big (n := k.toNat) (by unfold bigN; omega)
  have h2 := flat_bound (f := fun x => encN (pos x)) (N := 9) (l := kids) fun x hx => encN_big (hp x hx)
  have h3 : (Tm.mk k i n ls kids).pay.length ≤ 2198 := by
    show (if k = 0 ∨ k = 12 then encN i.toNat else if k = 2 then encL (ls.headD ⟨0, []⟩) else if k = 3 then encN n.size ++ (n.toList ++ (encN ls.length ++ ls.flatMap encL)) else []).length ≤ 2198
    split
    · rename_i h0
      have := r7 h0
      have := encN_big (n := i.toNat) (by unfold bigN; omega)
      omega
    · split
      · rename_i h2
        have hls := r3 h2
        obtain ⟨lv, rfl⟩ : ∃ lv, ls = [lv] := by
          match ls, hls with
          | [lv], _ => exact ⟨lv, rfl⟩
        have := encL_len (hv lv (List.mem_cons_self)) (s3 lv (List.mem_cons_self))
        show (encL lv).length ≤ _
        omega
      · split
        · have a1 := encN_big (n := n.size) (by unfold bigN; omega)
          have a2 := encN_big (n := ls.length) (by unfold bigN; omega)
          have a3 := flat_bound (f := encL) (N := 198) (l := ls) fun x hx => encL_len (hv x hx) (s3 x hx)
          simp only [List.length_append, toList_len]; omega
        · simp
  show (encN k.toNat ++ ((Tm.mk k i n ls kids).pay ++ kids.flatMap fun x => encN (pos x))).length ≤ 2300
  rw [List.length_append, List.length_append]; omega
theorem few_sizes {l : List Tm} (h : FewP l) : (∀ e ∈ l, e.sz ≤ 4096 ∧ e.dp ≤ 200) ∧ (allRL l = true → (putT l).length ≤ 500000) ∧ (enterL [] l).length ≤ 200 := by
  obtain ⟨h1, h2, h3⟩ := h
  have hE := enterL_size l []
  rw [List.length_nil] at hE
  refine ⟨fun e he => ?_, fun har => ?_, by omega⟩
  · have := tsz_kid he
    have := dp_sz e
    omega
  · obtain ⟨ok, _⟩ := table_ok har
    have a1 := encN_big (n := (enterL [] l).length) (by unfold bigN; omega)
    have a2 := encN_big (n := l.length) (by unfold bigN; omega)
    have a3 := flat_bound (f := entryT fun x => (enterL [] l).idxOf x) (N := 2300) (l := enterL [] l) fun x hx => by
      have hx2 : x ∈ subsL l := by
        rcases (ok.mem x).1 hx with h | h
        · cases h
        · exact h
      obtain ⟨y, hy, hxy⟩ := mem_subsL.1 hx2
      refine entry_len (allRL_subs har x hx2) (slim_subs y (h3 y hy) x hxy) fun z hz => ?_
      have := List.idxOf_lt_length_of_mem ((ok.good.all x hx).2 z hz)
      unfold bigN; omega
    have a4 := flat_bound (f := fun t => encN ((enterL [] l).idxOf t)) (N := 9) (l := l) fun x hx => encN_big (by
      have hxm : x ∈ enterL [] l := (ok.mem x).2 (.inr (mem_subsL.2 ⟨x, hx, subs_self x⟩))
      have := List.idxOf_lt_length_of_mem hxm
      unfold bigN; omega)
    have hflat : (textT (enterL [] l)).flatten = (enterL [] l).flatMap (entryT fun x => (enterL [] l).idxOf x) := by unfold textT; rw [List.flatMap_def]
    unfold putT
    rw [hflat]
    simp only [List.length_append]
    omega
end Go.Proofs.Eng
