/- Contracts of functions that are called on the caller's store, whose results keep their owners. No conditions. -/
import Derived.Test.YtbcnlbnimabdeaaPf48
import Derived.Test.YtbcnlbnimabdeaaN1
import Derived.Test.YtbcnlbnimabdeaaP1
set_option linter.all false
set_option linter.deprecated false
set_option linter.unnecessarySimpa false
set_option linter.unusedVariables false
set_option linter.unusedSimpArgs false
set_option linter.defProp false
namespace Go.Proofs.Eng
open Go Go.Proofs
set_option maxRecDepth 100000
/-- A raw call's end. -/
def Rw (f : FuncId) (args : List AV) (s : ASt) (PR : AV → ASt → Prop) : Prop := ∃ v s1, run md pfs f args s = some (.ret v, s1) ∧ PR v s1
def AQ (res : List PR) (PR : AV → ASt → Prop) : AExit → St → Prop
  | .pan _, _ => False
  | .exit _, _ => False
  | _, st => st.df = [] ∧ ∃ l, resA st.tm st.s res = some l ∧ PR (oneA l) st.s
theorem AQ_ret {res : List PR} {PR : AV → ASt → Prop} {st : St} : AQ res PR .ret st = (st.df = [] ∧ ∃ l, resA st.tm st.s res = some l ∧ PR (oneA l) st.s) := rfl
theorem AQ_normal {res : List PR} {PR : AV → ASt → Prop} {st : St} : AQ res PR .normal st = (st.df = [] ∧ ∃ l, resA st.tm st.s res = some l ∧ PR (oneA l) st.s) := rfl
theorem rw_of {f : FuncId} {pf : PF} (hp : pfs f = some pf) {args : List AV} {s : ASt} {PR : AV → ASt → Prop} (hn : args.length ≤ pf.nt) (h : W (run md pfs) md pf.body ⟨tmE pf.nt (argsE args), [], s⟩ (AQ pf.res PR) ()) : Rw f args s PR := by
  unfold Rw
  rw [run_eq hp]
  unfold bodyI
  rw [args_tm args pf.nt hn]
  unfold W at h
  cases hx : execL (run md pfs) md (loopI (run md pfs) md) pf.body ⟨tmE pf.nt (argsE args), [], s⟩ with
  | none => rw [hx] at h; exact h.elim
  | some x =>
    obtain ⟨r, st⟩ := x
    obtain ⟨tm, df, s⟩ := st
    rw [hx] at h
    cases r with
    | exit i => exact h.elim
    | pan v => exact h.elim
    | normal =>
      obtain ⟨h1, l, h2, h3⟩ := h
      simp only at h1; subst h1
      refine ⟨oneA l, s, ?_, h3⟩
      show (resA tm s pf.res).map _ = _
      simp only at h2
      rw [h2]; rfl
    | ret =>
      obtain ⟨h1, l, h2, h3⟩ := h
      simp only at h1; subst h1
      refine ⟨oneA l, s, ?_, h3⟩
      show (resA tm s pf.res).map _ = _
      simp only at h2
      rw [h2]; rfl
theorem Rw.call {f : FuncId} {args : List AV} {s : ASt} {PR : AV → ASt → Prop} (h : Rw f args s PR) (hm : md f = .raw) : ∃ v s', PR v s' ∧ ∀ K KP, CW (run md pfs) md false s f args K KP () = K v s' := by
  obtain ⟨v, s1, h1, h2⟩ := h
  exact ⟨v, s1, h2, fun K KP => by simp [CW, callA, hm, h1]⟩
theorem Rw.mono {f : FuncId} {args : List AV} {s : ASt} {PR PR' : AV → ASt → Prop} (h : Rw f args s PR) (h1 : ∀ v s, PR v s → PR' v s) : Rw f args s PR' := by
  obtain ⟨v, s1, e1, e2⟩ := h
  exact ⟨v, s1, e1, h1 _ _ e2⟩

/-- Bytes as they lie in a slice. -/
def byteA (b : UInt8) : AV := .v (.int .u8 b.toNat)
def bytes (l : List UInt8) : List AV := l.map byteA
theorem bytes_len (l : List UInt8) : (bytes l).length = l.length := by simp [bytes]
theorem bytes_app (l m : List UInt8) : bytes (l ++ m) = bytes l ++ bytes m := by simp [bytes]
theorem bytes_all (l : List UInt8) : ((bytes l).all fun x => x.cells.length == 1) = true := by
  rw [List.all_eq_true]; intro x hx
  obtain ⟨b, _, rfl⟩ := List.mem_map.1 hx; rfl
theorem bytes_all2 (l : List UInt8) : ((bytes l).all fun x => x.cells.length == 1 && x.cells.all oneCell) = true := by
  rw [List.all_eq_true]; intro x hx
  obtain ⟨b, _, rfl⟩ := List.mem_map.1 hx; rfl
theorem u8wrap {n : Nat} (h : n < 256) : IntKind.u8.wrap (n : Int) = n := by
  simp [IntKind.wrap, IntKind.bits, IntKind.signed]; omega
theorem bytesA_bytes : ∀ l : List UInt8, bytesA (bytes l) = some l
  | [] => rfl
  | b :: l => by
    have hb := b.toNat_lt
    show bytesA (.v (.int .u8 (b.toNat : Int)) :: bytes l) = _
    rw [bytesA, bytesA_bytes l]
    simp
/-- Other owners are as they were; the owner is the same, or a new one. -/
def Oth (T : List Nat) (t : Tl) (T' : List Nat) (t' : Tl) : Prop :=
  T.length ≤ T'.length ∧ (∀ i v, T[i]? = some v → (∀ ver, t ≠ .tl i ver) → T'[i]? = some v) ∧ ∀ i ver', t' = .tl i ver' → (∃ ver, t = .tl i ver) ∨ T.length ≤ i
theorem Oth.refl (T : List Nat) (t : Tl) : Oth T t T t := ⟨Nat.le_refl _, fun _ _ h _ => h, fun i v h => .inl ⟨v, h⟩⟩
theorem Oth.trans {T T' T'' : List Nat} {t t' t'' : Tl} (h : Oth T t T' t') (k : Oth T' t' T'' t'') : Oth T t T'' t'' := by
  refine ⟨Nat.le_trans h.1 k.1, fun i v e n => k.2.1 i v (h.2.1 i v e n) fun ver e' => ?_, fun i ver e => ?_⟩
  · have hlt := (List.getElem?_eq_some_iff.1 e).1
    rcases h.2.2 i ver e' with ⟨v0, e0⟩ | hle
    · exact n v0 e0
    · omega
  · rcases k.2.2 i ver e with ⟨v0, e0⟩ | hle
    · exact h.2.2 i v0 e0
    · exact .inr (Nat.le_trans h.1 hle)
/-- An append of many elements. -/
theorem app_many {T : List Nat} {es : Nat} {l : List AV} {t : Tl} {xs : List AV} (h : App T l t) (hl : l.length + xs.length ≤ capB) (ha : (l.all fun x => x.cells.length == es) = true) (hx : (xs.all fun x => x.cells.length == es && x.cells.all oneCell) = true) :
    ∃ t' T', (∀ H, appA ⟨H, T⟩ es none l t xs = some (.sl (l ++ xs) t', ⟨H, T'⟩)) ∧ App T' (l ++ xs) t' ∧ Oth T t T' t' := by
  cases xs with
  | nil => exact ⟨t, T, fun H => by simp [appA], by simpa using h, .refl _ _⟩
  | cons x xs =>
  have hn : l.length + (x :: xs).length ≤ 1073741824 := hl
  rcases h with ⟨rfl, rfl⟩ | ⟨hne, id, ver, rfl, hT⟩
  · refine ⟨.tl T.length 0, T ++ [0], fun H => ?_, .inr ⟨by simp, _, _, rfl, by simp⟩, by simp, fun i v e _ => by rw [List.getElem?_append_left (List.getElem?_eq_some_iff.1 e).1]; exact e, fun i ver' e => .inr ?_⟩
    · simp only [appA]
      rw [if_pos ⟨hn, ha, hx⟩]
    · cases e; exact Nat.le_refl _
  · have hlt := (List.getElem?_eq_some_iff.1 hT).1
    refine ⟨.tl id (ver + 1), T.set id (ver + 1), fun H => ?_, .inr ⟨by simp, _, _, rfl, by simp [hlt]⟩, by simp, fun i v e n => ?_, fun i ver' e => .inl ?_⟩
    · simp only [appA]
      rw [if_pos ⟨hn, ha, hx⟩]
      simp [hT, hne]
    · have : id ≠ i := by rintro rfl; exact n ver rfl
      rw [List.getElem?_set, if_neg this]; exact e
    · cases e; exact ⟨ver, rfl⟩
theorem encN_len : ∀ (k n : Nat), n < 128 ^ (k + 1) → (encN n).length ≤ k + 1
  | 0, n, h => by rw [encN_lt (by simpa using h)]; simp
  | k + 1, n, h => by
    rcases Nat.lt_or_ge n 128 with hlt | hge
    · rw [encN_lt hlt]; simp
    · rw [encN_ge hge, List.length_cons]
      have := encN_len k (n / 128) (by rw [Nat.pow_succ] at h; omega)
      omega
theorem i_rem (m : Nat) : (m : Int).tmod 128 = ((m % 128 : Nat) : Int) := by
  rw [Int.tmod_eq_emod_of_nonneg (by omega)]; omega
theorem i_div {m : Nat} (h : m < 4611686018427387904) : IntKind.i64.wrap ((m : Int).tdiv 128) = ((m / 128 : Nat) : Int) := by
  rw [Int.tdiv_eq_ediv_of_nonneg (by omega), wrap_in (by unfold in64; omega)]; omega
theorem u8_or {m : Nat} (h : m < 128) : IntKind.u8.wrap ((BitVec.ofInt IntKind.u8.bits (m : Int) ||| BitVec.ofInt IntKind.u8.bits 128).toNat : Int) = ((m + 128 : Nat) : Int) := by
  have h1 : (BitVec.ofInt IntKind.u8.bits (m : Int) ||| BitVec.ofInt IntKind.u8.bits (128 : Int)).toNat = m + 128 := by
    have := or_nat (w := 8) (a := m) (b := 128) (by omega) (by omega)
    rw [show IntKind.u8.bits = 8 from rfl, show ((128 : Int)) = ((128 : Nat) : Int) from rfl, this]
    have := or_add (a := m) (c := 1) (k := 7) (by omega)
    simpa using this
  rw [h1, u8wrap (by omega)]
end Go.Proofs.Eng
