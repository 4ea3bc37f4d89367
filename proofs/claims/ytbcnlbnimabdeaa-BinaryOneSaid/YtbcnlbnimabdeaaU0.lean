/- Readers: the caller's store beside the reader's block; slices that are made. No conditions beyond those in the theorems. -/
import Derived.Test.YtbcnlbnimabdeaaQ5
import Derived.Test.YtbcnlbnimabdeaaP7
set_option linter.all false
set_option linter.deprecated false
set_option linter.unnecessarySimpa false
set_option linter.unusedVariables false
set_option linter.unusedSimpArgs false
set_option linter.defProp false
namespace Go.Proofs.Eng
open Go Go.Proofs
set_option maxRecDepth 100000
/-- A slice that is appended to, and is newer than the first n. -/
def AppF (n : Nat) (T : List Nat) (l : List AV) (t : Tl) : Prop := (l = [] ∧ t = .nil) ∨ (l ≠ [] ∧ ∃ id ver, t = .tl id ver ∧ n ≤ id ∧ T[id]? = some ver)
theorem AppF.app {n : Nat} {T : List Nat} {l : List AV} {t : Tl} (h : AppF n T l t) : App T l t := by
  rcases h with h | ⟨h, id, ver, h1, _, h2⟩
  · exact .inl h
  · exact .inr ⟨h, id, ver, h1, h2⟩
/-- The first n are as they were. -/
def Keep (n : Nat) (T T' : List Nat) : Prop := n ≤ T'.length ∧ ∀ i, i < n → T'[i]? = T[i]?
theorem app_oneF {n : Nat} {T : List Nat} {es : Nat} {l : List AV} {t : Tl} {x : AV} (hn : n ≤ T.length) (h : AppF n T l t) (hl : l.length < capB) (ha : (l.all fun x => x.cells.length == es) = true) (hx : x.cells.length = es) (ho : x.cells.all oneCell = true) :
    ∃ t' T', (∀ H, appA ⟨H, T⟩ es none l t [x] = some (.sl (l ++ [x]) t', ⟨H, T'⟩)) ∧ AppF n T' (l ++ [x]) t' ∧ Keep n T T' := by
  have hn' : l.length + 1 ≤ 1073741824 := by unfold capB at hl; omega
  rcases h with ⟨rfl, rfl⟩ | ⟨hne, id, ver, rfl, hid, hT⟩
  · refine ⟨.tl T.length 0, T ++ [0], fun H => ?_, .inr ⟨by simp, _, _, rfl, hn, by simp⟩, by simp; omega, fun i hi => by rw [List.getElem?_append_left (by omega)]⟩
    simp [appA, hx]
    simpa using ho
  · refine ⟨.tl id (ver + 1), T.set id (ver + 1), fun H => ?_, .inr ⟨by simp, _, _, rfl, hid, ?_⟩, by simp; omega, fun i hi => by rw [List.getElem?_set_ne (by omega)]⟩
    · simp only [appA, List.length_cons, List.length_nil, hT, ha, hx, List.all_cons, List.all_nil, ho, beq_self_eq_true, Bool.and_self]
      simp [hn', hne]
    · have : id < T.length := by
        rcases Nat.lt_or_ge id T.length with h | h
        · exact h
        · rw [List.getElem?_eq_none h] at hT; cases hT
      simp [List.getElem?_set, this]
theorem Keep.refl (n : Nat) (T : List Nat) (h : n ≤ T.length) : Keep n T T := ⟨h, fun _ _ => rfl⟩
theorem Keep.trans {n : Nat} {T T' T'' : List Nat} (h : Keep n T T') (k : Keep n T' T'') : Keep n T T'' := ⟨k.1, fun i hi => (k.2 i hi).trans (h.2 i hi)⟩
theorem Keep.le {n m : Nat} {T T' : List Nat} (h : Keep n T T') (hm : m ≤ n) : Keep m T T' := ⟨Nat.le_trans hm h.1, fun i hi => h.2 i (by omega)⟩
theorem AppF.keep {n : Nat} {T T' : List Nat} {l : List AV} {t : Tl} (h : AppF n T l t) (k : Keep T.length T T') : AppF n T' l t := by
  rcases h with h | ⟨h1, id, ver, h2, h3, h4⟩
  · exact .inl h
  · exact .inr ⟨h1, id, ver, h2, h3, by rw [k.2 id (List.getElem?_eq_some_iff.1 h4).1]; exact h4⟩
theorem AppF.le {n m : Nat} {T : List Nat} {l : List AV} {t : Tl} (h : AppF n T l t) (hm : m ≤ n) : AppF m T l t := by
  rcases h with h | ⟨h1, id, ver, h2, h3, h4⟩
  · exact .inl h
  · exact .inr ⟨h1, id, ver, h2, by omega, h4⟩
/-- B is H, but for the block i, which is o. -/
structure BR (B H : List AObj) (i : Nat) (o : AObj) : Prop where
  len : B.length = H.length
  get : B[i]? = some o
  set : ∀ x, B.set i x = H.set i x
theorem BR.start {H : List AObj} {i : Nat} {o : AObj} (h : H[i]? = some o) : BR H H i o := ⟨rfl, h, fun _ => rfl⟩
theorem BR.eq {B H : List AObj} {i : Nat} {o : AObj} (h : BR B H i o) : B = H.set i o := by rw [← h.set, set_self h.get]
theorem BR.lt {B H : List AObj} {i : Nat} {o : AObj} (h : BR B H i o) : i < H.length := by rw [← h.len]; exact lt_of_get h.get
theorem BR.up {B H : List AObj} {i : Nat} {o : AObj} (h : BR B H i o) (o' : AObj) : BR (B.set i o') H i o' := ⟨by rw [List.length_set, h.len], get_set h.get, fun x => by rw [List.set_set, h.set]⟩
theorem BR.app {B H : List AObj} {i : Nat} {o : AObj} (h : BR B H i o) (Z : List AObj) (o' : AObj) : (B ++ Z).set i o' = B.set i o' ++ Z := List.set_append_left _ _ (lt_of_get h.get)
/-- How the blocks behind B are found. -/
theorem BR.f {B H : List AObj} {i : Nat} {o : AObj} (h : BR B H i o) : B.length = H.length ∧ (∀ l, (B ++ l)[H.length]? = l[0]?) ∧ (∀ l k, (B ++ l)[H.length + k]? = l[k]?) ∧ (∀ l y, (B ++ l).set H.length y = B ++ l.set 0 y) ∧ (∀ l k y, (B ++ l).set (H.length + k) y = B ++ l.set k y) ∧ (∀ l, (B ++ l)[i]? = some o) := by
  rw [← h.len]
  exact ⟨rfl, fun _ => app_get_len, fun _ _ => app_get_add, fun _ _ => app_set_len, fun _ _ _ => app_set_add, fun _ => app_get_of h.get _⟩
/-- A number, read beside other blocks. -/
theorem number_b {i : Nat} {s : ByteArray} {p : Nat} {B H : List AObj} (hB : BR B H i (rdr s p)) (hp : p ≤ s.size) (hs : s.size ≤ capB) (Z : List AObj) (T : List Nat) :
    (∃ n B' q, rN (s.toList.drop p) = some (n, s.toList.drop q) ∧ n ≤ mostN ∧ p < q ∧ q ≤ s.size ∧ BR B' H i (rdr s q) ∧ ∀ K KP, CW (run md pfs) md false ⟨B ++ Z, T⟩ 34 [.ptr i 0] K KP () = K (.int (n : Nat)) ⟨B' ++ Z, T⟩) ∨
    (∃ B' q, rN (s.toList.drop p) = none ∧ BR B' H i (rdr s q) ∧ ∀ K KP, CW (run md pfs) md false ⟨B ++ Z, T⟩ 34 [.ptr i 0] K KP () = KP failV ⟨B' ++ Z, T⟩) := by
  rcases (number_sh (T := T) (app_get_of hB.get Z) hp hs).call rfl with ⟨_, _, ⟨n, k, h1, rfl, rfl⟩, hc⟩ | ⟨_, _, ⟨h1, rfl, k, rfl, hk⟩, hc⟩
  · obtain ⟨hn, hpk⟩ := getN_le h1 hp
    rw [hB.app] at hc
    refine Or.inl ⟨n, _, p + k, by rw [rN, h1]; simp, hn, ?_, hpk, hB.up _, hc⟩
    have h2 : 0 < k := by
      rcases Nat.eq_zero_or_pos k with h0 | h0
      · exfalso
        have h3 := (getN_one h1).2.2
        rw [h0, List.take_zero] at h3
        have := encN_pos n
        rw [← h3] at this
        simp at this
      · exact h0
    omega
  · rw [hB.app] at hc
    exact Or.inr ⟨_, k, by rw [rN, h1]; rfl, hB.up _, hc⟩
end Go.Proofs.Eng
