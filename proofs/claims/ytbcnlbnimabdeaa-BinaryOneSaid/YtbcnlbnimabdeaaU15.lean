/- How long what was read can be, encoded. No conditions beyond those in the theorems. -/
import Derived.Test.YtbcnlbnimabdeaaU7
import Derived.Test.YtbcnlbnimabdeaaLT
set_option linter.all false
set_option linter.deprecated false
set_option linter.unnecessarySimpa false
set_option linter.unusedVariables false
set_option linter.unusedSimpArgs false
set_option linter.defProp false
namespace Go.Proofs.Eng
open Go Go.Proofs
set_option maxRecDepth 100000
set_option maxHeartbeats 8000000
theorem rN_lt {s r : By} {n : Nat} (h : rN s = some (n, r)) : r.length < s.length ∧ n ≤ mostN := by
  unfold rN at h
  obtain ⟨⟨m, k⟩, h1, h2⟩ := Option.map_eq_some_iff.1 h
  simp only [Prod.mk.injEq] at h2
  obtain ⟨rfl, rfl⟩ := h2
  obtain ⟨g1, g2, g3⟩ := getN_one h1
  have h2 : 0 < k := by
    rcases Nat.eq_zero_or_pos k with h0 | h0
    · exfalso
      subst h0
      rw [List.take_zero] at g3
      have := encN_pos m
      rw [← g3] at this
      simp at this
    · exact h0
  rw [List.length_drop]
  exact ⟨by omega, g1⟩
theorem rVars_len : ∀ (n : Nat) {s r : By} {l : List (Int × Int)}, rVars n s = some (l, r) → l.length + r.length ≤ s.length
  | 0, s, r, l, h => by simp only [rVars, Option.some.injEq, Prod.mk.injEq] at h; rw [← h.1, ← h.2]; simp
  | n + 1, s, r, l, h => by
    rw [rVars] at h
    obtain ⟨a, ha, h⟩ := Option.bind_eq_some_iff.1 h
    obtain ⟨b, hb, h⟩ := Option.bind_eq_some_iff.1 h
    obtain ⟨z, hz, h⟩ := Option.map_eq_some_iff.1 h
    simp only [Prod.mk.injEq] at h
    have h1 := (rN_lt (r := a.2) (n := a.1) ha).1
    have h2 := (rN_lt (r := b.2) (n := b.1) hb).1
    have h3 := rVars_len n (l := z.1) (r := z.2) hz
    rw [← h.1, ← h.2, List.length_cons]; omega
theorem rLv_len {s r : By} {l : Lv} (h : rLv s = some (l, r)) : l.vs.length ≤ s.length ∧ r.length < s.length := by
  rw [rLv] at h
  obtain ⟨a, ha, h⟩ := Option.bind_eq_some_iff.1 h
  obtain ⟨b, hb, h⟩ := Option.bind_eq_some_iff.1 h
  obtain ⟨z, hz, h⟩ := Option.map_eq_some_iff.1 h
  simp only [Prod.mk.injEq] at h
  have h1 := (rN_lt (r := a.2) (n := a.1) ha).1
  have h2 := (rN_lt (r := b.2) (n := b.1) hb).1
  have h3 := rVars_len _ (l := z.1) (r := z.2) hz
  rw [← h.1, ← h.2]
  simp only
  omega
theorem rLvs_len : ∀ (n : Nat) {s r : By} {l : List Lv}, rLvs n s = some (l, r) → (∀ x ∈ l, x.vs.length ≤ s.length) ∧ r.length ≤ s.length
  | 0, s, r, l, h => by simp only [rLvs, Option.some.injEq, Prod.mk.injEq] at h; rw [← h.1, ← h.2]; simp
  | n + 1, s, r, l, h => by
    rw [rLvs] at h
    obtain ⟨a, ha, h⟩ := Option.bind_eq_some_iff.1 h
    obtain ⟨z, hz, h⟩ := Option.map_eq_some_iff.1 h
    simp only [Prod.mk.injEq] at h
    obtain ⟨h1, h2⟩ := rLv_len (l := a.1) (r := a.2) ha
    obtain ⟨h3, h4⟩ := rLvs_len n (l := z.1) (r := z.2) hz
    rw [← h.1, ← h.2]
    refine ⟨fun x hx => ?_, by omega⟩
    rcases List.mem_cons.1 hx with rfl | hx
    · exact h1
    · have := h3 x hx; omega
theorem rText_len {s r a : By} (h : rText s = some (a, r)) : a.length ≤ s.length ∧ r.length ≤ s.length := by
  rw [rText] at h
  obtain ⟨x, hx, h⟩ := Option.bind_eq_some_iff.1 h
  have h1 := (rN_lt (r := x.2) (n := x.1) hx).1
  split at h
  · cases h
  · simp only [Option.some.injEq, Prod.mk.injEq] at h
    rw [← h.1, ← h.2, List.length_take, List.length_drop]; omega
theorem rPay_len {k : Nat} {s r : By} {i : Int} {n : ByteArray} {ls : List Lv} (h : rPay k s = some ((i, n, ls), r)) : n.size ≤ s.length ∧ (∀ x ∈ ls, x.vs.length ≤ s.length) ∧ r.length ≤ s.length := by
  rw [rPay] at h
  split at h
  · obtain ⟨x, hx, h⟩ := Option.map_eq_some_iff.1 h
    simp only [Prod.mk.injEq] at h
    have h1 := (rN_lt (r := x.2) (n := x.1) hx).1
    obtain ⟨⟨_, h2, h3⟩, h4⟩ := h
    rw [← h2, ← h3, ← h4]
    exact ⟨Nat.zero_le _, fun x hx => by simp at hx, by omega⟩
  · split at h
    · obtain ⟨x, hx, h⟩ := Option.map_eq_some_iff.1 h
      simp only [Prod.mk.injEq] at h
      have h1 := rLv_len (l := x.1) (r := x.2) hx
      obtain ⟨⟨_, h2, h3⟩, h4⟩ := h
      rw [← h2, ← h3, ← h4]
      exact ⟨Nat.zero_le _, fun y hy => (by simp only [List.mem_singleton] at hy; subst hy; exact h1.1), by omega⟩
    · split at h
      · obtain ⟨x, hx, h⟩ := Option.bind_eq_some_iff.1 h
        obtain ⟨m, hm, h⟩ := Option.bind_eq_some_iff.1 h
        obtain ⟨z, hz, h⟩ := Option.map_eq_some_iff.1 h
        simp only [Prod.mk.injEq] at h
        obtain ⟨h5, h6⟩ := rText_len (a := x.1) (r := x.2) hx
        have h7 := (rN_lt (r := m.2) (n := m.1) hm).1
        obtain ⟨h8, h9⟩ := rLvs_len _ (l := z.1) (r := z.2) hz
        obtain ⟨⟨_, h2, h3⟩, h4⟩ := h
        rw [← h2, ← h3, ← h4]
        refine ⟨?_, fun y hy => ?_, by omega⟩
        · show x.1.toArray.size ≤ _
          rw [List.size_toArray]; exact h5
        · have := h8 y hy; omega
      · simp only [Option.some.injEq, Prod.mk.injEq] at h
        obtain ⟨⟨_, h2, h3⟩, h4⟩ := h
        rw [← h2, ← h3, ← h4]
        exact ⟨Nat.zero_le _, fun x hx => by simp at hx, Nat.le_refl _⟩
theorem rKids_len {T : List Tm} : ∀ (n : Nat) {s r : By} {l : List Tm}, rKids T n s = some (l, r) → l.length + r.length ≤ s.length
  | 0, s, r, l, h => by simp only [rKids, Option.some.injEq, Prod.mk.injEq] at h; rw [← h.1, ← h.2]; simp
  | n + 1, s, r, l, h => by
    rw [rKids] at h
    obtain ⟨a, ha, h⟩ := Option.bind_eq_some_iff.1 h
    have h1 := (rN_lt (r := a.2) (n := a.1) ha).1
    split at h
    · cases h
    · obtain ⟨z, hz, h⟩ := Option.map_eq_some_iff.1 h
      simp only [Prod.mk.injEq] at h
      have h3 := rKids_len n (l := z.1) (r := z.2) hz
      rw [← h.1, ← h.2, List.length_cons]; omega
/-- Names and levels are not longer than N. -/
def Tm.thin (N : Nat) (t : Tm) : Prop := t.n.size ≤ N ∧ ∀ l ∈ t.ls, l.vs.length ≤ N
theorem rEntry_len {T : List Tm} {s r : By} {t : Tm} (h : rEntry T s = some (t, r)) : t.thin s.length ∧ r.length < s.length := by
  unfold rEntry at h
  obtain ⟨k, hk, h⟩ := Option.bind_eq_some_iff.1 h
  obtain ⟨p, hp, h⟩ := Option.bind_eq_some_iff.1 h
  obtain ⟨l, hl, h⟩ := Option.bind_eq_some_iff.1 h
  split at h
  · simp only [Option.some.injEq, Prod.mk.injEq] at h
    have h1 := (rN_lt (r := k.2) (n := k.1) hk).1
    obtain ⟨h2, h3, h4⟩ := rPay_len (i := p.1.1) (n := p.1.2.1) (ls := p.1.2.2) (r := p.2) hp
    have h5 := rKids_len _ (l := l.1) (r := l.2) hl
    rw [← h.1, ← h.2]
    refine ⟨⟨?_, fun x hx => ?_⟩, by omega⟩
    · show p.1.2.1.size ≤ _; omega
    · have := h3 x hx; omega
  · cases h
theorem rTab_len {N : Nat} : ∀ (n : Nat) {T U : List Tm} {s r : By}, rTab n T s = some (U, r) → s.length ≤ N → (∀ t ∈ T, t.thin N) → (U.length + r.length ≤ T.length + s.length) ∧ ∀ t ∈ U, t.thin N
  | 0, T, U, s, r, h, _, hT => by simp only [rTab, Option.some.injEq, Prod.mk.injEq] at h; rw [← h.1, ← h.2]; exact ⟨Nat.le_refl _, hT⟩
  | n + 1, T, U, s, r, h, hN, hT => by
    rw [rTab] at h
    obtain ⟨⟨t, s2⟩, he, h⟩ := Option.bind_eq_some_iff.1 h
    obtain ⟨h1, h2⟩ := rEntry_len he
    simp only at h
    obtain ⟨h3, h4⟩ := rTab_len n h (Nat.le_trans (Nat.le_of_lt h2) hN) fun x hx => by
      rcases List.mem_append.1 hx with hx | hx
      · exact hT x hx
      · simp only [List.mem_singleton] at hx; subst hx
        exact ⟨Nat.le_trans h1.1 hN, fun l hl => Nat.le_trans (h1.2 l hl) hN⟩
    rw [List.length_append, List.length_cons, List.length_nil] at h3
    exact ⟨by omega, h4⟩
theorem encL_len2 {l : Lv} (hv : validB l = true) (h10 : l.vs.length ≤ 300) : (encL l).length ≤ 5418 := by
  obtain ⟨c, hc, hc2, hvl, hvs⟩ := valid_nat hv
  have h1 := encN_big (n := c) (by unfold bigN; omega)
  have h2 := encN_big (n := l.vs.length) (by unfold bigN; omega)
  have h3 := flat_bound (f := encV) (N := 18) (l := l.vs) fun v hx => by
    obtain ⟨a, b, rfl, ha, hb⟩ := hvs v hx
    rw [encV_nat, List.length_append]
    have := encN_big (n := a) (by unfold bigN; omega)
    have := encN_big (n := b) (by unfold bigN; omega)
    omega
  have : encL l = encN c ++ (encN l.vs.length ++ l.vs.flatMap encV) := by unfold encL; rw [hc]; rfl
  rw [this, List.length_append, List.length_append]; omega
theorem entry_len2 {t : Tm} {pos : Tm → Nat} (hr : t.right = true) (hs : t.thin 300) (hp : ∀ x ∈ t.kids, pos x < bigN) : (entryT pos t).length ≤ 44000 := by
  obtain ⟨hf, hv, hl8, hn6, hi⟩ := right_facts hr
  obtain ⟨k, i, n, ls, kids⟩ := t
  obtain ⟨_, hrk, r3, r4, r5, r6, r7, r8⟩ := (right_iff k i n ls kids).1 hr
  obtain ⟨hk0, hk12⟩ := kidsN_range (k := k) (by omega)
  have hk3 : kids.length ≤ 3 := by have := kids3 k; omega
  obtain ⟨s1, s3⟩ := hs
  simp only [Tm.n, Tm.ls] at s1 s3
  have h1 := encN_big (n := k.toNat) (by unfold bigN; omega)
  have h2 := flat_bound (f := fun x => encN (pos x)) (N := 9) (l := kids) fun x hx => encN_big (hp x hx)
  have h3 : (Tm.mk k i n ls kids).pay.length ≤ 43900 := by
    show (if k = 0 ∨ k = 12 then encN i.toNat else if k = 2 then encL (ls.headD ⟨0, []⟩) else if k = 3 then encN n.size ++ (n.toList ++ (encN ls.length ++ ls.flatMap encL)) else []).length ≤ 43900
    split
    · rename_i h0
      have := r7 h0
      have := encN_big (n := i.toNat) (by unfold bigN; omega)
      omega
    · split
      · rename_i h2
        have hls := r3 h2
        obtain ⟨lv, rfl⟩ : ∃ lv, ls = [lv] := by
          match ls, hls with
          | [lv], _ => exact ⟨lv, rfl⟩
        have := encL_len2 (hv lv (List.mem_cons_self)) (s3 lv (List.mem_cons_self))
        show (encL lv).length ≤ _
        omega
      · split
        · have a1 := encN_big (n := n.size) (by unfold bigN; omega)
          have a2 := encN_big (n := ls.length) (by unfold bigN; simp only [Tm.ls] at hl8; omega)
          have a3 := flat_bound (f := encL) (N := 5418) (l := ls) fun x hx => encL_len2 (hv x hx) (s3 x hx)
          simp only [Tm.ls] at hl8
          simp only [List.length_append, toList_len]; omega
        · simp
  show (encN k.toNat ++ ((Tm.mk k i n ls kids).pay ++ kids.flatMap fun x => encN (pos x))).length ≤ 44000
  rw [List.length_append, List.length_append]; omega
theorem put_bound {s : ByteArray} (hs : s.size ≤ 300) : PutB s := by
  intro l r h
  obtain ⟨har, _⟩ := getT_allR h
  obtain ⟨T, hT, hl, n, s1, s2, h0, h1⟩ := getT_ok h
  have hs1 := (rN_lt h0).1
  rw [toList_len] at hs1
  obtain ⟨hTl, hth⟩ := rTab_len (N := 300) n h1 (by omega) (fun t ht => by simp at ht)
  simp only [List.length_nil] at hTl
  obtain ⟨ok, _⟩ := table_ok har
  have hin : ∀ x ∈ enterL [] l, x ∈ T := fun x hx => by
    rcases (ok.mem x).1 hx with h | h
    · cases h
    · obtain ⟨y, hy, hxy⟩ := mem_subsL.1 h
      exact (hT y (hl y hy)).2.2.2 x hxy
  have hE : (enterL [] l).length ≤ T.length := nodup_len ok.good.nodup hin
  have hll : l.length ≤ 300 := by
    unfold getT at h
    obtain ⟨a, ha, h⟩ := Option.bind_eq_some_iff.1 h
    obtain ⟨b, hb, h⟩ := Option.bind_eq_some_iff.1 h
    obtain ⟨c, hc, h⟩ := Option.bind_eq_some_iff.1 h
    split at h
    · cases h
    · have q1 := (rN_lt (r := a.2) (n := a.1) ha).1
      have q2 := (rTab_len (N := 300) _ (U := b.1) (r := b.2) hb (by rw [toList_len] at q1; omega) (fun t ht => by simp at ht)).1
      have q3 := (rN_lt (r := c.2) (n := c.1) hc).1
      have q4 := rKids_len _ h
      rw [toList_len] at q1
      simp only [List.length_nil] at q2
      omega
  have a1 := encN_big (n := (enterL [] l).length) (by unfold bigN; omega)
  have a2 := encN_big (n := l.length) (by unfold bigN; omega)
  have a3 := flat_bound (f := entryT fun x => (enterL [] l).idxOf x) (N := 44000) (l := enterL [] l) fun x hx => by
    have hx2 : x ∈ subsL l := by
      rcases (ok.mem x).1 hx with h | h
      · cases h
      · exact h
    refine entry_len2 (allRL_subs har x hx2) (hth x (hin x hx)) fun z hz => ?_
    have := List.idxOf_lt_length_of_mem ((ok.good.all x hx).2 z hz)
    unfold bigN; omega
  have a4 := flat_bound (f := fun t => encN ((enterL [] l).idxOf t)) (N := 9) (l := l) fun x hx => encN_big (by
    have hxm : x ∈ enterL [] l := (ok.mem x).2 (.inr (mem_subsL.2 ⟨x, hx, subs_self x⟩))
    have := List.idxOf_lt_length_of_mem hxm
    unfold bigN; omega)
  have hflat : (textT (enterL [] l)).flatten = (enterL [] l).flatMap (entryT fun x => (enterL [] l).idxOf x) := by unfold textT; rw [List.flatMap_def]
  refine ⟨?_, by unfold entB; omega⟩
  unfold putT
  rw [hflat]
  simp only [List.length_append]
  unfold entB; omega
end Go.Proofs.Eng
