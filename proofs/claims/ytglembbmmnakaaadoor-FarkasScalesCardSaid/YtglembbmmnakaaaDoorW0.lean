/- Contracts of functions that are called on the caller's store. No conditions. -/
import Derived.Test.YtglembbmmnakaaaDoorF8
set_option linter.all false
set_option linter.deprecated false
set_option linter.unnecessarySimpa false
set_option linter.unusedVariables false
set_option linter.unusedSimpArgs false
set_option linter.defProp false
namespace Go.Proofs.Eng
open Go Go.Proofs
set_option maxRecDepth 100000
set_option maxHeartbeats 16000000
/-- A raw call's end. -/
def Rwc (f : FuncId) (args : List AV) (s : ASt) (PR : AV → ASt → Prop) : Prop := ∃ v s1, run md pfs f args s = some (.ret v, s1) ∧ PR v s1
def AQ (res : List PR) (PR : AV → ASt → Prop) : AExit → St → Prop
  | .pan _, _ => False
  | .exit _, _ => False
  | _, st => st.df = [] ∧ ∃ l, resA st.tm st.s res = some l ∧ PR (oneA l) st.s
theorem AQ_ret {res : List PR} {PR : AV → ASt → Prop} {st : St} : AQ res PR .ret st = (st.df = [] ∧ ∃ l, resA st.tm st.s res = some l ∧ PR (oneA l) st.s) := rfl
theorem AQ_normal {res : List PR} {PR : AV → ASt → Prop} {st : St} : AQ res PR .normal st = (st.df = [] ∧ ∃ l, resA st.tm st.s res = some l ∧ PR (oneA l) st.s) := rfl
theorem rw_of {f : FuncId} {pf : PF} (hp : pfs f = some pf) {args : List AV} {s : ASt} {PR : AV → ASt → Prop} (hn : args.length ≤ pf.nt) (h : W (run md pfs) md pf.body ⟨tmE pf.nt (argsE args), [], s⟩ (AQ pf.res PR) ()) : Rwc f args s PR := by
  unfold Rwc
  rw [run_eq hp (W_ora h)]
  unfold bodyI
  rw [args_tm args pf.nt hn]
  unfold W at h
  cases hx : execL (run md pfs) md (loopI (run md pfs) md) pf.body ⟨tmE pf.nt (argsE args), [], s⟩ with
  | none => rw [hx] at h; exact h.elim
  | some x =>
    obtain ⟨r, st⟩ := x
    obtain ⟨tm, df, s⟩ := st
    rw [hx] at h
    cases r with
    | exit i => exact h.elim
    | pan v => exact h.elim
    | normal =>
      obtain ⟨h1, l, h2, h3⟩ := h
      simp only at h1; subst h1
      refine ⟨oneA l, s, ?_, h3⟩
      show (resA tm s pf.res).map _ = _
      simp only at h2
      rw [h2]; rfl
    | ret =>
      obtain ⟨h1, l, h2, h3⟩ := h
      simp only at h1; subst h1
      refine ⟨oneA l, s, ?_, h3⟩
      show (resA tm s pf.res).map _ = _
      simp only at h2
      rw [h2]; rfl
theorem Rwc.call {f : FuncId} {args : List AV} {s : ASt} {PR : AV → ASt → Prop} (h : Rwc f args s PR) (hm : md f = .raw) : ∃ v s', PR v s' ∧ ∀ K KP, CW (run md pfs) md false s f args K KP () = K v s' := by
  obtain ⟨v, s1, h1, h2⟩ := h
  exact ⟨v, s1, h2, fun K KP => by simp [CW, callA, hm, h1]⟩
theorem Rwc.mono {f : FuncId} {args : List AV} {s : ASt} {PR PR' : AV → ASt → Prop} (h : Rwc f args s PR) (h1 : ∀ v s, PR v s → PR' v s) : Rwc f args s PR' := by
  obtain ⟨v, s1, e1, e2⟩ := h
  exact ⟨v, s1, e1, h1 _ _ e2⟩

/-- Other owners are as they were; the owner is the same, or a new one. -/
def Oth (T : List Nat) (t : Tl) (T' : List Nat) (t' : Tl) : Prop :=
  T.length ≤ T'.length ∧ (∀ i v, T[i]? = some v → (∀ ver, t ≠ .tl i ver) → T'[i]? = some v) ∧ ∀ i ver', t' = .tl i ver' → (∃ ver, t = .tl i ver) ∨ T.length ≤ i
theorem Oth.refl (T : List Nat) (t : Tl) : Oth T t T t := ⟨Nat.le_refl _, fun _ _ h _ => h, fun i v h => .inl ⟨v, h⟩⟩
theorem Oth.trans {T T' T'' : List Nat} {t t' t'' : Tl} (h : Oth T t T' t') (k : Oth T' t' T'' t'') : Oth T t T'' t'' := by
  refine ⟨Nat.le_trans h.1 k.1, fun i v e n => k.2.1 i v (h.2.1 i v e n) fun ver e' => ?_, fun i ver e => ?_⟩
  · have hlt := (List.getElem?_eq_some_iff.1 e).1
    rcases h.2.2 i ver e' with ⟨v0, e0⟩ | hle
    · exact n v0 e0
    · omega
  · rcases k.2.2 i ver e with ⟨v0, e0⟩ | hle
    · exact h.2.2 i v0 e0
    · exact .inr (Nat.le_trans h.1 hle)
/-- An append of many elements. -/
theorem app_many {T : List Nat} {es : Nat} {l : List AV} {t : Tl} {xs : List AV} (h : App T l t) (hl : l.length + xs.length ≤ capB) (ha : (l.all fun x => x.cells.length == es) = true) (hx : (xs.all fun x => x.cells.length == es && x.cells.all oneCell) = true) :
    ∃ t' T', (∀ H, appA ⟨H, T⟩ es none l t xs = some (.sl (l ++ xs) t', ⟨H, T'⟩)) ∧ App T' (l ++ xs) t' ∧ Oth T t T' t' := by
  cases xs with
  | nil => exact ⟨t, T, fun H => by simp [appA], by simpa using h, .refl _ _⟩
  | cons x xs =>
  have hn : l.length + (x :: xs).length ≤ 1073741824 := hl
  rcases h with ⟨rfl, rfl⟩ | ⟨hne, id, ver, rfl, hT⟩
  · refine ⟨.tl T.length 0, T ++ [0], fun H => ?_, .inr ⟨by simp, _, _, rfl, by simp⟩, by simp, fun i v e _ => by rw [List.getElem?_append_left (List.getElem?_eq_some_iff.1 e).1]; exact e, fun i ver' e => .inr ?_⟩
    · simp only [appA]
      rw [if_pos ⟨hn, ha, hx⟩]
    · cases e; exact Nat.le_refl _
  · have hlt := (List.getElem?_eq_some_iff.1 hT).1
    refine ⟨.tl id (ver + 1), T.set id (ver + 1), fun H => ?_, .inr ⟨by simp, _, _, rfl, by simp [hlt]⟩, by simp, fun i v e n => ?_, fun i ver' e => .inl ?_⟩
    · simp only [appA]
      rw [if_pos ⟨hn, ha, hx⟩]
      simp [hT, hne]
    · have : id ≠ i := by rintro rfl; exact n ver rfl
      rw [List.getElem?_set, if_neg this]; exact e
    · cases e; exact ⟨ver, rfl⟩

/-- A raw call on a store of its own makes a block. -/
theorem Rwc.make {f : FuncId} {args : List AV} {len es : Nat} {ag : Bool} {c : List AV} (h : Rwc f args ⟨[], []⟩ (fun v s => v = .bs 0 0 len es ag ∧ s.H[0]? = some (.cells false c))) (hm : md f = .raw) (hp : pureAVs args = true) (hc : c.all isSc = true) (idx : Nat) : makeC (run md pfs) md idx f (some args) = some (.bs idx 0 len es ag, .cells false c) := by
  obtain ⟨v, s1, h1, rfl, h2⟩ := h
  simp only [makeC, makeA, evX, mapO_c, hm, hp, if_true, h1, h2, hc]
theorem ints_sc (l : List Int) : (ints l).all isSc = true := by
  induction l with
  | nil => rfl
  | cons x l ih => simp only [ints] at ih ⊢; simp only [List.map_cons, List.all_cons, ih]; rfl
theorem flat_rep (w : Nat) : flat (List.replicate w (AV.v (.int .i64 0))) = ints (List.replicate w 0) := by
  have := flat_ints (List.replicate w 0)
  simpa [ints] using this
end Go.Proofs.Eng
