/- P6: what functions of the program return. No conditions beyond those in the theorems. -/
import Derived.Test.YtjiheebhmokfbaaDoorG5
import Derived.Test.YtjiheebhmokfbaaDoorPf50
set_option linter.all false
set_option linter.deprecated false
set_option linter.unnecessarySimpa false
set_option linter.unusedVariables false
set_option linter.unusedSimpArgs false
set_option linter.defProp false
namespace Go.Proofs.Eng
open Go Go.Proofs
def encN (n : Nat) : List UInt8 := if n < 128 then [UInt8.ofNat n] else UInt8.ofNat (n % 128 + 128) :: encN (n / 128)
termination_by n
decreasing_by omega
theorem encN_lt {n : Nat} (h : n < 128) : encN n = [UInt8.ofNat n] := by rw [encN, if_pos h]
theorem encN_ge {n : Nat} (h : 128 ≤ n) : encN n = UInt8.ofNat (n % 128 + 128) :: encN (n / 128) := by rw [encN, if_neg (by omega)]
theorem u8_nat {n : Nat} (h : n < 256) : (UInt8.ofNat n).toNat = n := by simp [UInt8.toNat_ofNat']; omega
set_option maxRecDepth 100000
def Rw (f : FuncId) (args : List AV) (s : ASt) (PR : AV → ASt → Prop) : Prop := ∃ v s1, run md pfs f args s = some (.ret v, s1) ∧ PR v s1
def AQ (res : List PR) (PR : AV → ASt → Prop) : AExit → St → Prop
  | .pan _, _ => False
  | .exit _, _ => False
  | _, st => st.df = [] ∧ ∃ l, resA st.tm st.s res = some l ∧ PR (oneA l) st.s
theorem AQ_ret {res : List PR} {PR : AV → ASt → Prop} {st : St} : AQ res PR .ret st = (st.df = [] ∧ ∃ l, resA st.tm st.s res = some l ∧ PR (oneA l) st.s) := rfl
theorem AQ_normal {res : List PR} {PR : AV → ASt → Prop} {st : St} : AQ res PR .normal st = (st.df = [] ∧ ∃ l, resA st.tm st.s res = some l ∧ PR (oneA l) st.s) := rfl
theorem AQ_exit {res : List PR} {PR : AV → ASt → Prop} {v : Nat} {st : St} : AQ res PR (.exit v) st = False := rfl
theorem rw_of {f : FuncId} {pf : PF} (hp : pfs f = some pf) {args : List AV} {s : ASt} {PR : AV → ASt → Prop} (hn : args.length ≤ pf.nt) (h : W (run md pfs) md pf.body ⟨tmE pf.nt (argsE args), [], s⟩ (AQ pf.res PR) ()) : Rw f args s PR := by
  unfold Rw
  rw [run_eq hp (W_ora h)]
  unfold bodyI
  rw [args_tm args pf.nt hn]
  unfold W at h
  cases hx : execL (run md pfs) md (loopI (run md pfs) md) pf.body ⟨tmE pf.nt (argsE args), [], s⟩ with
  | none => rw [hx] at h; exact h.elim
  | some x =>
    obtain ⟨r, st⟩ := x
    obtain ⟨tm, df, s⟩ := st
    rw [hx] at h
    cases r with
    | exit i => exact h.elim
    | pan v => exact h.elim
    | normal =>
      obtain ⟨h1, l, h2, h3⟩ := h
      simp only at h1; subst h1
      refine ⟨oneA l, s, ?_, h3⟩
      simp only at h2
      simp only [List.isEmpty_nil, Bool.not_true, Bool.and_false, Bool.false_eq_true, if_false, leaveA, h2]; rfl
    | ret =>
      obtain ⟨h1, l, h2, h3⟩ := h
      simp only at h1; subst h1
      refine ⟨oneA l, s, ?_, h3⟩
      simp only at h2
      simp only [List.isEmpty_nil, Bool.not_true, Bool.and_false, Bool.false_eq_true, if_false, leaveA, h2]; rfl
theorem Rw.call {f : FuncId} {args : List AV} {s : ASt} {PR : AV → ASt → Prop} (h : Rw f args s PR) (hm : md f = .raw) : ∃ v s', PR v s' ∧ ∀ K KP, CW (run md pfs) md false s f args K KP () = K v s' := by
  obtain ⟨v, s1, h1, h2⟩ := h
  exact ⟨v, s1, h2, fun K KP => by simp [CW, callA, hm, h1]⟩
theorem Rw.mono {f : FuncId} {args : List AV} {s : ASt} {PR PR' : AV → ASt → Prop} (h : Rw f args s PR) (h1 : ∀ v s, PR v s → PR' v s) : Rw f args s PR' := by
  obtain ⟨v, s1, e1, e2⟩ := h
  exact ⟨v, s1, e1, h1 _ _ e2⟩
theorem bytes_len (l : List UInt8) : (bytes l).length = l.length := by simp [bytes]
theorem bytes_app (l m : List UInt8) : bytes (l ++ m) = bytes l ++ bytes m := by simp [bytes]
theorem bytes_all (l : List UInt8) : ((bytes l).all fun x => x.cells.length == 1) = true := by
  rw [List.all_eq_true]; intro x hx
  obtain ⟨b, _, rfl⟩ := List.mem_map.1 hx; rfl
theorem bytes_all2 (l : List UInt8) : ((bytes l).all fun x => x.cells.length == 1 && x.cells.all oneCell) = true := by
  rw [List.all_eq_true]; intro x hx
  obtain ⟨b, _, rfl⟩ := List.mem_map.1 hx; rfl
theorem bytesA_bytes : ∀ l : List UInt8, bytesA (bytes l) = some l
  | [] => rfl
  | b :: l => by
    have hb := b.toNat_lt
    show bytesA (.v (.int .u8 (b.toNat : Int)) :: bytes l) = _
    rw [bytesA, bytesA_bytes l]
    simp
def Oth (T : List Nat) (t : Tl) (T' : List Nat) (t' : Tl) : Prop :=
  T.length ≤ T'.length ∧ (∀ i v, T[i]? = some v → (∀ ver, t ≠ .tl i ver) → T'[i]? = some v) ∧ ∀ i ver', t' = .tl i ver' → (∃ ver, t = .tl i ver) ∨ T.length ≤ i
theorem Oth.refl (T : List Nat) (t : Tl) : Oth T t T t := ⟨Nat.le_refl _, fun _ _ h _ => h, fun i v h => .inl ⟨v, h⟩⟩
theorem Oth.trans {T T' T'' : List Nat} {t t' t'' : Tl} (h : Oth T t T' t') (k : Oth T' t' T'' t'') : Oth T t T'' t'' := by
  refine ⟨Nat.le_trans h.1 k.1, fun i v e n => k.2.1 i v (h.2.1 i v e n) fun ver e' => ?_, fun i ver e => ?_⟩
  · have hlt := (List.getElem?_eq_some_iff.1 e).1
    rcases h.2.2 i ver e' with ⟨v0, e0⟩ | hle
    · exact n v0 e0
    · omega
  · rcases k.2.2 i ver e with ⟨v0, e0⟩ | hle
    · exact h.2.2 i v0 e0
    · exact .inr (Nat.le_trans h.1 hle)
theorem app_many {T : List Nat} {es : Nat} {l : List AV} {t : Tl} {xs : List AV} (h : App T l t) (hl : l.length + xs.length ≤ capB) (ha : (l.all fun x => x.cells.length == es) = true) (hx : (xs.all fun x => x.cells.length == es && x.cells.all oneCell) = true) :
    ∃ t' T', (∀ H, appA ⟨H, T⟩ es none l t xs = some (.sl (l ++ xs) t', ⟨H, T'⟩)) ∧ App T' (l ++ xs) t' ∧ Oth T t T' t' := by
  cases xs with
  | nil => exact ⟨t, T, fun H => by simp [appA], by simpa using h, .refl _ _⟩
  | cons x xs =>
  have hn : l.length + (x :: xs).length ≤ 1073741824 := hl
  rcases h with ⟨rfl, rfl⟩ | ⟨hne, id, ver, rfl, hT⟩
  · refine ⟨.tl T.length 0, T ++ [0], fun H => ?_, .inr ⟨by simp, _, _, rfl, by simp⟩, by simp, fun i v e _ => by rw [List.getElem?_append_left (List.getElem?_eq_some_iff.1 e).1]; exact e, fun i ver' e => .inr ?_⟩
    · simp only [appA]
      rw [if_pos ⟨.inl hn, ha, hx⟩]
    · cases e; exact Nat.le_refl _
  · have hlt := (List.getElem?_eq_some_iff.1 hT).1
    refine ⟨.tl id (ver + 1), T.set id (ver + 1), fun H => ?_, .inr ⟨by simp, _, _, rfl, by simp [hlt]⟩, by simp, fun i v e n => ?_, fun i ver' e => .inl ?_⟩
    · simp only [appA]
      rw [if_pos ⟨.inl hn, ha, hx⟩]
      simp [hT, hne]
    · have : id ≠ i := by rintro rfl; exact n ver rfl
      rw [List.getElem?_set, if_neg this]; exact e
    · cases e; exact ⟨ver, rfl⟩
structure Lv where
  c : Int
  vs : List (Int × Int)
  deriving DecidableEq
inductive Tm where
  | mk (k i : Int) (n : ByteArray) (ls : List Lv) (kids : List Tm)
theorem Tm.ind {P : Tm → Prop} (h : ∀ k i n ls kids, (∀ x ∈ kids, P x) → P (.mk k i n ls kids)) (e : Tm) : P e := by
  have key : ∀ n e, SizeOf.sizeOf e ≤ n → P e := by
    intro n
    induction n with
    | zero => intro e he; cases e; simp at he
    | succ n ih =>
      intro e he
      cases e with
      | mk k i nm s kids =>
        refine h k i nm s kids fun x hx => ih x ?_
        have := List.sizeOf_lt_of_mem hx
        simp at he
        omega
  exact key _ e (Nat.le_refl _)
def Tm.k : Tm → Int | .mk k _ _ _ _ => k
def Tm.i : Tm → Int | .mk _ i _ _ _ => i
def Tm.n : Tm → ByteArray | .mk _ _ n _ _ => n
def Tm.ls : Tm → List Lv | .mk _ _ _ ls _ => ls
def Tm.kids : Tm → List Tm | .mk _ _ _ _ l => l
mutual
def Tm.same : Tm → Tm → Bool
  | .mk k i n ls kids, .mk k' i' n' ls' kids' => decide (k = k') && decide (i = i') && decide (n = n') && decide (ls = ls') && sameL kids kids'
def sameL : List Tm → List Tm → Bool
  | [], [] => true
  | a :: l, b :: m => a.same b && sameL l m
  | _, _ => false
end
theorem same_iff (a : Tm) : ∀ b, a.same b = true ↔ a = b := by
  induction a using Tm.ind with
  | h k i n ls kids ih =>
    rintro ⟨k', i', n', ls', kids'⟩
    have key : ∀ l m : List Tm, (∀ x ∈ l, x ∈ kids) → (sameL l m = true ↔ l = m) := by
      intro l
      induction l with
      | nil => intro m _; cases m <;> simp [sameL]
      | cons x l ihl =>
        intro m hl
        cases m with
        | nil => simp [sameL]
        | cons y m =>
          rw [sameL, Bool.and_eq_true, ih x (hl x (by simp)) y, ihl m fun z hz => hl z (by simp [hz])]
          simp
    rw [Tm.same]
    simp only [Bool.and_eq_true, decide_eq_true_eq, key kids kids' fun _ h => h, Tm.mk.injEq, and_assoc]
instance : DecidableEq Tm := fun a b => decidable_of_iff _ (same_iff a b)
theorem encN_inj : ∀ (a b : Nat) (x y : List UInt8), encN a ++ x = encN b ++ y → a = b ∧ x = y := by
  intro a
  induction a using Nat.strongRecOn with
  | ind a ih =>
    intro b x y h
    rcases Nat.lt_or_ge a 128 with ha | ha <;> rcases Nat.lt_or_ge b 128 with hb | hb
    · rw [encN_lt ha, encN_lt hb] at h
      simp only [List.cons_append, List.nil_append, List.cons.injEq] at h
      have := congrArg UInt8.toNat h.1
      rw [u8_nat (by omega), u8_nat (by omega)] at this
      exact ⟨this, h.2⟩
    · rw [encN_lt ha, encN_ge hb] at h
      simp only [List.cons_append, List.nil_append, List.cons.injEq] at h
      have := congrArg UInt8.toNat h.1
      rw [u8_nat (by omega), u8_nat (by omega)] at this
      omega
    · rw [encN_ge ha, encN_lt hb] at h
      simp only [List.cons_append, List.nil_append, List.cons.injEq] at h
      have := congrArg UInt8.toNat h.1
      rw [u8_nat (by omega), u8_nat (by omega)] at this
      omega
    · rw [encN_ge ha, encN_ge hb] at h
      simp only [List.cons_append, List.cons.injEq] at h
      have h1 := congrArg UInt8.toNat h.1
      rw [u8_nat (by omega), u8_nat (by omega)] at h1
      have h2 := ih (a / 128) (by omega) (b / 128) x y h.2
      exact ⟨by omega, h2.2⟩
def encV (v : Int × Int) : List UInt8 := encN (v.1 + 65536).toNat ++ encN v.2.toNat
def encL (l : Lv) : List UInt8 := encN l.c.toNat ++ (encN l.vs.length ++ l.vs.flatMap encV)
def Lv.fine (l : Lv) : Prop := 0 ≤ l.c ∧ ∀ v ∈ l.vs, -65536 ≤ v.1 ∧ 0 ≤ v.2
theorem flat_inj {α : Type} {f : α → List UInt8} {ok : α → Prop} (hf : ∀ a b x y, ok a → ok b → f a ++ x = f b ++ y → a = b ∧ x = y) : ∀ (l m : List α) (x y : List UInt8), l.length = m.length → (∀ a ∈ l, ok a) → (∀ a ∈ m, ok a) → l.flatMap f ++ x = m.flatMap f ++ y → l = m ∧ x = y
  | [], [], x, y, _, _, _, h => ⟨rfl, h⟩
  | a :: l, b :: m, x, y, hl, h1, h2, h => by
    simp only [List.flatMap_cons, List.append_assoc] at h
    have h3 := hf a b _ _ (h1 a (by simp)) (h2 b (by simp)) h
    have h4 := flat_inj hf l m x y (by simpa using hl) (fun a ha => h1 a (by simp [ha])) (fun a ha => h2 a (by simp [ha])) h3.2
    exact ⟨by rw [h3.1, h4.1], h4.2⟩
  | [], _ :: _, _, _, hl, _, _, _ => by simp at hl
  | _ :: _, [], _, _, hl, _, _, _ => by simp at hl
theorem encV_inj (a b : Int × Int) (x y : List UInt8) (ha : -65536 ≤ a.1 ∧ 0 ≤ a.2) (hb : -65536 ≤ b.1 ∧ 0 ≤ b.2) (h : encV a ++ x = encV b ++ y) : a = b ∧ x = y := by
  simp only [encV, List.append_assoc] at h
  obtain ⟨h1, h⟩ := encN_inj _ _ _ _ h
  obtain ⟨h2, h⟩ := encN_inj _ _ _ _ h
  refine ⟨Prod.ext ?_ ?_, h⟩ <;> omega
theorem encL_inj (a b : Lv) (x y : List UInt8) (ha : a.fine) (hb : b.fine) (h : encL a ++ x = encL b ++ y) : a = b ∧ x = y := by
  obtain ⟨c, vs⟩ := a
  obtain ⟨c', vs'⟩ := b
  simp only [encL, List.append_assoc] at h
  obtain ⟨h1, h⟩ := encN_inj _ _ _ _ h
  obtain ⟨h2, h⟩ := encN_inj _ _ _ _ h
  obtain ⟨h3, h6⟩ := flat_inj (ok := fun v => -65536 ≤ v.1 ∧ 0 ≤ v.2) encV_inj vs vs' x y h2 ha.2 hb.2 h
  have h4 := ha.1
  have h5 := hb.1
  simp only at h1 h4 h5 h3
  subst h3
  exact ⟨by congr 1; omega, h6⟩
def Tm.pay : Tm → List UInt8
  | .mk k i n ls _ => if k = 0 ∨ k = 12 then encN i.toNat else if k = 2 then encL (ls.headD ⟨0, []⟩) else if k = 3 then encN n.size ++ (n.toList ++ (encN ls.length ++ ls.flatMap encL)) else []
def entryT (pos : Tm → Nat) (t : Tm) : List UInt8 := encN t.k.toNat ++ (t.pay ++ t.kids.flatMap fun x => encN (pos x))
def kidsN (k : Int) : Int := if k = 0 ∨ k = 1 ∨ k = 2 ∨ k = 3 ∨ k = 12 then 0 else if k = 9 ∨ k = 10 then 1 else if k = 4 ∨ k = 5 ∨ k = 6 ∨ k = 7 then 2 else if k = 8 ∨ k = 11 then 3 else -1
structure Tm.fine (t : Tm) : Prop where
  kids : kidsN t.k = t.kids.length
  lv : ∀ l ∈ t.ls, l.fine
  ls : (t.k = 2 → t.ls.length = 1) ∧ (t.k ≠ 2 → t.k ≠ 3 → t.ls = [])
  ix : (t.k = 0 ∨ t.k = 12 → 0 ≤ t.i) ∧ (t.k ≠ 0 → t.k ≠ 12 → t.i = 0)
  nm : t.k ≠ 3 → t.n = ⟨#[]⟩
theorem toList_inj {a b : ByteArray} (h : a.toList = b.toList) : a = b := by
  have h1 := str_eq a b
  rw [h, beq_self_eq_true] at h1
  simpa using h1.symm
def varIs (v : Int × Int) (a : AV) : Prop := a = .agg [.int v.1, .int v.2] ∧ in64 v.1 ∧ in64 v.2
theorem varPure {v : Int × Int} {a : AV} (h : varIs v a) : pureAV a = true := by obtain ⟨rfl, _⟩ := h; rfl
theorem varAgg : AggR varIs 2 := ⟨fun {x a} h => by obtain ⟨rfl, _⟩ := h; exact ⟨_, rfl, rfl, rfl⟩, fun {x a} h => varPure h⟩
def Lv.Is (l : Lv) (a : AV) : Prop := ∃ t al, a = .agg [.int l.c, .sl al t] ∧ t.pure = true ∧ in64 l.c ∧ al.length ≤ lenB ∧ LIs varIs l.vs al
theorem lvPure {l : Lv} {a : AV} (h : l.Is a) : pureAV a = true := by
  obtain ⟨t, al, rfl, h1, _, _, h2⟩ := h
  have := h2.pure fun _ _ h => varPure h
  simp [pv_agg, pv_v, pv_sl, pvs_cons, pvs_nil, h1, this]
theorem lvAgg : AggR Lv.Is 2 := ⟨fun {x a} h => by obtain ⟨t, al, rfl, _⟩ := h; exact ⟨_, rfl, rfl, rfl⟩, fun {x a} h => lvPure h⟩
mutual
def Tm.Is : Tm → AV → Prop
  | .mk k i n ls kids, a => ∃ t1 t2 las kas, a = .agg [.int k, .int i, .str n, .sl las t1, .sl kas t2] ∧ t1.pure = true ∧ t2.pure = true ∧ in64 k ∧ in64 i ∧ n.size ≤ lenB ∧ las.length ≤ lenB ∧ kas.length ≤ lenB ∧ LIs Lv.Is ls las ∧ Tm.IsL kids kas
def Tm.IsL : List Tm → List AV → Prop
  | [], [] => True
  | e :: es, a :: al => e.Is a ∧ Tm.IsL es al
  | _, _ => False
end
theorem tmsL_iff : ∀ {l : List Tm} {al : List AV}, Tm.IsL l al ↔ LIs Tm.Is l al
  | [], [] => by simp [Tm.IsL, LIs]
  | e :: es, a :: al => by simp only [Tm.IsL, LIs, tmsL_iff (l := es)]
  | [], _ :: _ => by simp [Tm.IsL, LIs]
  | _ :: _, [] => by simp [Tm.IsL, LIs]
theorem Tm.Is.opn {k i : Int} {n : ByteArray} {ls : List Lv} {kids : List Tm} {a : AV} (h : (Tm.mk k i n ls kids).Is a) : ∃ t1 t2 las kas, a = .agg [.int k, .int i, .str n, .sl las t1, .sl kas t2] ∧ t1.pure = true ∧ t2.pure = true ∧ in64 k ∧ in64 i ∧ n.size ≤ lenB ∧ las.length ≤ lenB ∧ kas.length ≤ lenB ∧ LIs Lv.Is ls las ∧ LIs Tm.Is kids kas := by
  simp only [Tm.Is, tmsL_iff] at h; exact h
theorem Tm.Is.mk {k i : Int} {n : ByteArray} {ls : List Lv} {kids : List Tm} {t1 t2 : Tl} {las kas : List AV} (h1 : t1.pure = true) (h2 : t2.pure = true) (h3 : in64 k) (h4 : in64 i) (h5 : n.size ≤ lenB) (h6 : las.length ≤ lenB) (h7 : kas.length ≤ lenB) (h8 : LIs Lv.Is ls las) (h9 : LIs Tm.Is kids kas) : (Tm.mk k i n ls kids).Is (.agg [.int k, .int i, .str n, .sl las t1, .sl kas t2]) := by
  simp only [Tm.Is, tmsL_iff]; exact ⟨t1, t2, las, kas, rfl, h1, h2, h3, h4, h5, h6, h7, h8, h9⟩
theorem lvsPure {l : List Lv} {al : List AV} (h : LIs Lv.Is l al) : pureAVs al = true := h.pure fun _ _ h => lvPure h
theorem tmPure (e : Tm) : ∀ {a}, e.Is a → pureAV a = true := by
  induction e using Tm.ind with
  | h k i n ls kids ih =>
    intro a h
    obtain ⟨t1, t2, las, kas, rfl, h1, h2, _, _, _, _, _, h8, h9⟩ := h.opn
    have := LIs.pure (R := fun x a => pureAV a = true) (fun _ _ h => h) (h9.mono fun x hx a h => ih x hx h)
    simp [pv_agg, pv_v, pv_sl, pvs_cons, pvs_nil, lvsPure h8, h1, h2, this]
theorem tmAgg : AggR Tm.Is 5 := ⟨fun {x a} h => by
    cases x
    obtain ⟨t1, t2, las, kas, rfl, _⟩ := h.opn
    exact ⟨_, rfl, rfl, rfl⟩, fun {x a} h => tmPure x h⟩
theorem tmsPure {l : List Tm} {al : List AV} (h : LIs Tm.Is l al) : pureAVs al = true := h.pure fun x _ h => tmPure x h
def Tm.zero : Tm := .mk 0 0 ⟨#[]⟩ [] []
theorem zeroTm : Tm.zero.Is (.agg [.int 0, .int 0, .str ⟨#[]⟩, .sl [] .nil, .sl [] .nil]) := Tm.Is.mk rfl rfl (by unfold in64; omega) (by unfold in64; omega) (Nat.zero_le _) (by simp) (by simp) trivial trivial
theorem tmCells {e : Tm} {a : AV} (h : e.Is a) : ∃ c, a = .agg c ∧ c.length = 5 ∧ c.take 5 = c ∧ c.all oneCell = true := by
  obtain ⟨c, rfl, h1, h2⟩ := tmAgg.cells h
  exact ⟨c, rfl, h1, List.take_of_length_le (by omega), h2⟩
theorem lvCells {e : Lv} {a : AV} (h : e.Is a) : ∃ c, a = .agg c ∧ c.length = 2 ∧ c.take 2 = c ∧ c.all oneCell = true := by
  obtain ⟨c, rfl, h1, h2⟩ := lvAgg.cells h
  exact ⟨c, rfl, h1, List.take_of_length_le (by omega), h2⟩
set_option maxHeartbeats 4000000
theorem eqg_var (a b c d : Int) : eqgA [false, false] [.int a, .int b] [.int c, .int d] = some (decide ((a, b) = (c, d))) := by
  simp only [eqgA, keyOK, keyEq, if_true, Bool.and_true]
  by_cases h1 : a = c <;> by_cases h2 : b = d <;> simp [h1, h2]
theorem take_step {α : Type} {l m : List α} {j : Nat} {x : α} (h : l.take j = m.take j) (h1 : l[j]? = some x) (h2 : m[j]? = some x) : l.take (j + 1) = m.take (j + 1) := by
  rw [List.take_add_one, List.take_add_one, h, h1, h2]
theorem list_ne {α : Type} {l m : List α} {j : Nat} {x y : α} (h1 : l[j]? = some x) (h2 : m[j]? = some y) (h : x ≠ y) : l ≠ m := by
  rintro rfl; rw [h1] at h2; cases h2; exact h rfl
theorem lsame_ret {l m : Lv} {a b : AV} (h : l.Is a) (h' : m.Is b) : Out md pfs 80 [a, b] (· = .bool (decide (l = m))) fun _ => False := by
  obtain ⟨t, al, rfl, g1, g2, g3, g4⟩ := h
  obtain ⟨u, bl, rfl, q1, q2, q3, q4⟩ := h'
  obtain ⟨c, vs⟩ := l
  obtain ⟨d, ws⟩ := m
  have hl1 := g4.len
  have hl2 := q4.len
  simp only at hl1 hl2 g4 q4 g2 q2
  refine out_of pf80_is (Nat.le_of_ble_eq_true rfl) ?_
  cases b1 : (c != d)
  · have hcd : c = d := by simpa using b1
    subst hcd
    cases b2 : ((al.length : Int) != bl.length)
    · have hlen : bl.length = al.length := by simp at b2; omega
      simp only [pf80, ↓wpre, wset, wcore, wext, ne_eq, if_true, if_false, exists_eq_left', true_implies, false_implies, exists_const, exists_eq_right, binA, intA, loadA, storeA, pickC, setAt, mapO, argsE, X.isC, resA, oneA, unA, boundA, eqiA, eqsA, fillA, fillE, ASt.fz, strA, simprocAttr, b1, b2]
      refine W_loopE (fun j => al.length - j) (fun j E H T => H = [.cells false [.int c, .sl al t], .cells false [.int c, .sl bl u]] ∧ E 2 = .ptr 0 0 ∧ E 3 = .ptr 1 0 ∧ E 5 = .int (j : Nat) ∧ j ≤ al.length ∧ vs.take j = ws.take j) ?_ 0 ⟨rfl, rfl, rfl, rfl, Nat.zero_le _, by simp⟩
      rintro j E H T ⟨rfl, e2, e3, e5, hj, ht⟩
      rcases Nat.lt_or_ge j al.length with hlt | hge
      · have hdec : decide ((j : Int) < al.length) = true := by simpa using hlt
        obtain ⟨x, c1, d0, d1, d3, d4, d5, d6, d7, ⟨d8, _, _⟩⟩ := g4.get varAgg hlt
        obtain ⟨y, c2, f0, f1, f3, f4, f5, f6, f7, ⟨f8, _, _⟩⟩ := q4.get varAgg (i := j) (by omega)
        cases d8; cases f8
        have hall := g4.all varAgg
        have hall2 := q4.all varAgg
        have hq := eqg_var x.1 x.2 y.1 y.2
        rw [show ((x.1, x.2) : Int × Int) = x from rfl, show ((y.1, y.2) : Int × Int) = y from rfl] at hq
        cases b3 : decide (x = y)
        · simp only [↓wpre, wset, wcore, wext, ne_eq, if_true, if_false, exists_eq_left', true_implies, false_implies, exists_const, exists_eq_right, binA, intA, loadA, storeA, pickC, setAt, mapO, argsE, X.isC, resA, oneA, unA, boundA, eqiA, eqsA, fillA, fillE, ASt.fz, strA, simprocAttr, e2, e3, e5, hdec, d4, f4, hall, hall2, hq, b3, Bool.true_xor, Bool.not_false]
          have hxy : x ≠ y := by simpa using b3
          have : vs ≠ ws := list_ne d0 f0 hxy
          simp [this]
        · have hxy : x = y := by simpa using b3
          subst hxy
          simp only [↓wpre, wset, wcore, wext, ne_eq, if_true, if_false, exists_eq_left', true_implies, false_implies, exists_const, exists_eq_right, binA, intA, loadA, storeA, pickC, setAt, mapO, argsE, X.isC, resA, oneA, unA, boundA, eqiA, eqsA, fillA, fillE, ASt.fz, strA, simprocAttr, e2, e3, e5, hdec, d4, f4, hall, hall2, hq, b3, Bool.true_xor, Bool.not_true]
          exact EQ_in ⟨j + 1, by omega, rfl, e2, e3, next_ixv (by unfold lenB at *; omega), by omega, take_step ht d0 f0⟩
      · have hdec : decide ((j : Int) < al.length) = false := by simpa using hge
        simp only [↓wpre, wset, wcore, wext, ne_eq, if_true, if_false, exists_eq_left', true_implies, false_implies, exists_const, exists_eq_right, binA, intA, loadA, storeA, pickC, setAt, mapO, argsE, X.isC, resA, oneA, unA, boundA, eqiA, eqsA, fillA, fillE, ASt.fz, strA, simprocAttr, e2, e3, e5, hdec]
        rw [List.take_of_length_le (by omega), List.take_of_length_le (by omega)] at ht
        simp [ht]
    · simp only [pf80, ↓wpre, wset, wcore, wext, ne_eq, if_true, if_false, exists_eq_left', true_implies, false_implies, exists_const, exists_eq_right, binA, intA, loadA, storeA, pickC, setAt, mapO, argsE, X.isC, resA, oneA, unA, boundA, eqiA, eqsA, fillA, fillE, ASt.fz, strA, simprocAttr, b1, b2]
      have : vs ≠ ws := by rintro rfl; simp at b2; omega
      simp [this]
  · simp only [pf80, ↓wpre, wset, wcore, wext, ne_eq, if_true, if_false, exists_eq_left', true_implies, false_implies, exists_const, exists_eq_right, binA, intA, loadA, storeA, pickC, setAt, mapO, argsE, X.isC, resA, oneA, unA, boundA, eqiA, eqsA, fillA, fillE, ASt.fz, strA, simprocAttr, b1]
    have : c ≠ d := by simpa using b1
    simp [this]
theorem lsames_ret {ls ms : List Lv} {al bl : List AV} {t u : Tl} (h : LIs Lv.Is ls al) (h' : LIs Lv.Is ms bl) (ht : t.pure = true) (hu : u.pure = true) (hl : al.length ≤ lenB) : Out md pfs 60 [.sl al t, .sl bl u] (· = .bool (decide (ls = ms))) fun _ => False := by
  have hl1 := h.len
  have hl2 := h'.len
  refine out_of pf60_is (Nat.le_of_ble_eq_true rfl) ?_
  cases b2 : ((al.length : Int) != bl.length)
  · have hlen : bl.length = al.length := by simp at b2; omega
    simp only [pf60, ↓wpre, wset, wcore, wext, ne_eq, if_true, if_false, exists_eq_left', true_implies, false_implies, exists_const, exists_eq_right, binA, intA, loadA, storeA, pickC, setAt, mapO, argsE, X.isC, resA, oneA, unA, boundA, eqiA, eqsA, fillA, fillE, ASt.fz, strA, simprocAttr, b2]
    refine W_loopE (fun j => al.length - j) (fun j E H T => H = [] ∧ E 0 = .sl al t ∧ E 1 = .sl bl u ∧ E 5 = .int (j : Nat) ∧ j ≤ al.length ∧ ls.take j = ms.take j) ?_ 0 ⟨rfl, rfl, rfl, rfl, Nat.zero_le _, by simp⟩
    rintro j E H T ⟨rfl, e0, e1, e5, hj, hq⟩
    rcases Nat.lt_or_ge j al.length with hlt | hge
    · have hdec : decide ((j : Int) < al.length) = true := by simpa using hlt
      obtain ⟨x, c1, d0, d1, d3, d4, d5, d6, d7, d8⟩ := h.get lvAgg hlt
      obtain ⟨y, c2, f0, f1, f3, f4, f5, f6, f7, f8⟩ := h'.get lvAgg (i := j) (by omega)
      have hall := h.all lvAgg
      have hall2 := h'.all lvAgg
      obtain ⟨_, rfl, cr⟩ := (lsame_ret d8 f8).call rfl (by simp [pvs_cons, pvs_nil, lvPure d8, lvPure f8])
      cases b3 : decide (x = y)
      · have hxy : x ≠ y := by simpa using b3
        simp only [↓wpre, wset, wcore, wext, ne_eq, if_true, if_false, exists_eq_left', true_implies, false_implies, exists_const, exists_eq_right, binA, intA, loadA, storeA, pickC, setAt, mapO, argsE, X.isC, resA, oneA, unA, boundA, eqiA, eqsA, fillA, fillE, ASt.fz, strA, simprocAttr, e0, e1, e5, hdec, d4, d5, d6, f4, f5, f6, hall, hall2, cr, b3]
        have : ls ≠ ms := list_ne d0 f0 hxy
        simp [this]
      · have hxy : x = y := by simpa using b3
        subst hxy
        simp only [↓wpre, wset, wcore, wext, ne_eq, if_true, if_false, exists_eq_left', true_implies, false_implies, exists_const, exists_eq_right, binA, intA, loadA, storeA, pickC, setAt, mapO, argsE, X.isC, resA, oneA, unA, boundA, eqiA, eqsA, fillA, fillE, ASt.fz, strA, simprocAttr, e0, e1, e5, hdec, d4, d5, d6, f4, f5, f6, hall, hall2, cr, b3]
        exact EQ_in ⟨j + 1, by omega, rfl, e0, e1, next_ixv (by unfold lenB at *; omega), by omega, take_step hq d0 f0⟩
    · have hdec : decide ((j : Int) < al.length) = false := by simpa using hge
      simp only [↓wpre, wset, wcore, wext, ne_eq, if_true, if_false, exists_eq_left', true_implies, false_implies, exists_const, exists_eq_right, binA, intA, loadA, storeA, pickC, setAt, mapO, argsE, X.isC, resA, oneA, unA, boundA, eqiA, eqsA, fillA, fillE, ASt.fz, strA, simprocAttr, e0, e1, e5, hdec]
      rw [List.take_of_length_le (by omega), List.take_of_length_le (by omega)] at hq
      simp [hq]
  · simp only [pf60, ↓wpre, wset, wcore, wext, ne_eq, if_true, if_false, exists_eq_left', true_implies, false_implies, exists_const, exists_eq_right, binA, intA, loadA, storeA, pickC, setAt, mapO, argsE, X.isC, resA, oneA, unA, boundA, eqiA, eqsA, fillA, fillE, ASt.fz, strA, simprocAttr, b2]
    have : ls ≠ ms := by rintro rfl; simp at b2; omega
    simp [this]
theorem kidsN_range {k : Int} (h : 0 ≤ kidsN k) : 0 ≤ k ∧ k ≤ 12 := by
  unfold kidsN at h
  split at h
  · omega
  split at h
  · omega
  split at h
  · omega
  split at h
  · omega
  · omega
theorem entry_inj {pos : Tm → Nat} {a b : Tm} (fa : a.fine) (fb : b.fine) (hp : ∀ x y, (x ∈ a.kids ∨ x ∈ b.kids) → (y ∈ a.kids ∨ y ∈ b.kids) → pos x = pos y → x = y) (h : entryT pos a = entryT pos b) : a = b := by
  have hka := kidsN_range (k := a.k) (by rw [fa.kids]; omega)
  have hkb := kidsN_range (k := b.k) (by rw [fb.kids]; omega)
  unfold entryT at h
  obtain ⟨h1, h⟩ := encN_inj _ _ _ _ h
  have hk : a.k = b.k := by omega
  have hlen : a.kids.length = b.kids.length := by have := fa.kids; have := fb.kids; rw [hk] at *; omega
  have kids : ∀ x y : List UInt8, (a.kids.flatMap fun x => encN (pos x)) ++ x = (b.kids.flatMap fun x => encN (pos x)) ++ y → a.kids = b.kids := fun x y e =>
    (flat_inj (ok := fun z => z ∈ a.kids ∨ z ∈ b.kids) (f := fun x => encN (pos x)) (fun u v x y hu hv e => by
      have := encN_inj _ _ _ _ e
      exact ⟨hp u v hu hv this.1, this.2⟩) a.kids b.kids x y hlen (fun z hz => .inl hz) (fun z hz => .inr hz) e).1
  obtain ⟨k, i, n, ls, ks⟩ := a
  obtain ⟨k', i', n', ls', ks'⟩ := b
  simp only [Tm.k, Tm.kids] at hk hlen kids h hka hkb h1
  subst hk
  have a1 := fa.lv; have a2 := fa.ls; have a3 := fa.ix; have a4 := fa.nm
  have b1 := fb.lv; have b2 := fb.ls; have b3 := fb.ix; have b4 := fb.nm
  simp only [Tm.k, Tm.ls, Tm.i, Tm.n] at a1 a2 a3 a4 b1 b2 b3 b4
  have same : i = i' → n = n' → ls = ls' → ks = ks' → Tm.mk k i n ls ks = Tm.mk k i' n' ls' ks' := by rintro rfl rfl rfl rfl; rfl
  simp only [Tm.pay] at h
  by_cases k0 : k = 0 ∨ k = 12
  · rw [if_pos k0, if_pos k0] at h
    obtain ⟨h2, h⟩ := encN_inj _ _ _ _ h
    have c1 := a3.1 k0
    have c2 := b3.1 k0
    exact same (by omega) (by rw [a4 (by omega), b4 (by omega)]) (by rw [a2.2 (by omega) (by omega), b2.2 (by omega) (by omega)]) (kids [] [] (by simpa using h))
  rw [if_neg k0, if_neg k0] at h
  have hi : i = i' := by rw [a3.2 (by omega) (by omega), b3.2 (by omega) (by omega)]
  by_cases k2 : k = 2
  · rw [if_pos k2, if_pos k2] at h
    have c1 := a2.1 k2
    have c2 := b2.1 k2
    match ls, ls', c1, c2 with
    | [l], [l'], _, _ =>
      simp only [List.headD_cons] at h
      obtain ⟨h2, h⟩ := encL_inj l l' _ _ (a1 l (by simp)) (b1 l' (by simp)) h
      exact same hi (by rw [a4 (by omega), b4 (by omega)]) (by rw [h2]) (kids [] [] (by simpa using h))
  rw [if_neg k2, if_neg k2] at h
  by_cases k3 : k = 3
  · rw [if_pos k3, if_pos k3] at h
    simp only [List.append_assoc] at h
    obtain ⟨h2, h⟩ := encN_inj _ _ _ _ h
    obtain ⟨h3, h⟩ := List.append_inj h (by rw [toList_len, toList_len, h2])
    obtain ⟨h4, h⟩ := encN_inj _ _ _ _ h
    obtain ⟨h5, h⟩ := flat_inj (ok := Lv.fine) encL_inj ls ls' _ _ h4 a1 b1 h
    exact same hi (toList_inj h3) h5 (kids [] [] (by simpa using h))
  · rw [if_neg k3, if_neg k3] at h
    exact same hi (by rw [a4 k3, b4 k3]) (by rw [a2.2 k2 k3, b2.2 k2 k3]) (kids [] [] (by simpa using h))
mutual
def Tm.subs : Tm → List Tm
  | .mk k i n ls kids => .mk k i n ls kids :: subsL kids
def subsL : List Tm → List Tm
  | [] => []
  | t :: l => t.subs ++ subsL l
end
mutual
def Tm.sz : Tm → Nat
  | .mk _ _ _ _ kids => 1 + tszL kids
def tszL : List Tm → Nat
  | [] => 0
  | t :: l => t.sz + tszL l
end
theorem mem_subsL {x : Tm} : ∀ {l : List Tm}, x ∈ subsL l ↔ ∃ y ∈ l, x ∈ y.subs
  | [] => by simp [subsL]
  | t :: l => by rw [subsL, List.mem_append, mem_subsL (l := l)]; simp
theorem tsz_kid {l : List Tm} {x : Tm} (h : x ∈ l) : x.sz ≤ tszL l := by
  induction l with
  | nil => simp at h
  | cons y l ih =>
    simp only [tszL]
    simp at h
    rcases h with rfl | h
    · omega
    · have := ih h; omega
theorem subs_self (t : Tm) : t ∈ t.subs := by cases t; simp [Tm.subs]
theorem subs_sz (t : Tm) : ∀ x ∈ t.subs, x.sz ≤ t.sz := by
  induction t using Tm.ind with
  | h k i n ls kids ih =>
    intro x hx
    rw [Tm.subs] at hx
    rcases List.mem_cons.1 hx with rfl | hx
    · exact Nat.le_refl _
    · obtain ⟨y, hy, hxy⟩ := mem_subsL.1 hx
      have := ih y hy x hxy
      have := tsz_kid hy
      rw [Tm.sz]; omega
theorem kid_sz {t x : Tm} (h : x ∈ t.kids) : x.sz < t.sz := by
  obtain ⟨k, i, n, ls, kids⟩ := t
  have := tsz_kid (l := kids) h
  rw [Tm.sz]; omega
inductive Good : List Tm → Prop where
  | nil : Good []
  | add {T : List Tm} {t : Tm} (h : Good T) (hn : t ∉ T) (hf : t.fine) (hk : ∀ x ∈ t.kids, x ∈ T) : Good (T ++ [t])
theorem Good.all {T : List Tm} (h : Good T) : ∀ t ∈ T, t.fine ∧ ∀ x ∈ t.kids, x ∈ T := by
  induction h with
  | nil => simp
  | add h hn hf hk ih =>
    intro t ht
    rcases List.mem_append.1 ht with ht | ht
    · have := ih t ht
      exact ⟨this.1, fun x hx => List.mem_append_left _ (this.2 x hx)⟩
    · simp at ht; subst ht
      exact ⟨hf, fun x hx => List.mem_append_left _ (hk x hx)⟩
theorem Good.subs {T : List Tm} (h : Good T) (t : Tm) : t ∈ T → ∀ x ∈ t.subs, x ∈ T := by
  induction t using Tm.ind with
  | h k i n ls kids ih =>
    intro ht x hx
    rw [Tm.subs] at hx
    rcases List.mem_cons.1 hx with rfl | hx
    · exact ht
    · obtain ⟨y, hy, hxy⟩ := mem_subsL.1 hx
      exact ih y hy ((h.all _ ht).2 y hy) x hxy
def textT (T : List Tm) : List (List UInt8) := T.map (entryT fun x => T.idxOf x)
theorem entry_congr {p q : Tm → Nat} {t : Tm} (h : ∀ x ∈ t.kids, p x = q x) : entryT p t = entryT q t := by
  unfold entryT
  have : (t.kids.flatMap fun x => encN (p x)) = t.kids.flatMap fun x => encN (q x) := by
    rw [List.flatMap_def, List.flatMap_def, List.map_congr_left fun x hx => by rw [h x hx]]
  rw [this]
theorem idx_app {T : List Tm} {x : Tm} (h : x ∈ T) (m : List Tm) : (T ++ m).idxOf x = T.idxOf x := by rw [List.idxOf_append, if_pos h]
theorem idx_new {T : List Tm} {t : Tm} (h : t ∉ T) : (T ++ [t]).idxOf t = T.length := by
  rw [List.idxOf_append, if_neg h]; simp
theorem idx_inj {T : List Tm} {x y : Tm} (hx : x ∈ T) (hy : y ∈ T) (h : T.idxOf x = T.idxOf y) : x = y := by
  have h1 := List.getElem_idxOf (List.idxOf_lt_length_of_mem hx)
  have h2 := List.getElem_idxOf (List.idxOf_lt_length_of_mem hy)
  rw [← h1, ← h2]
  congr 1
theorem text_add {T : List Tm} {t : Tm} (hT : Good T) (hk : ∀ x ∈ t.kids, x ∈ T) : textT (T ++ [t]) = textT T ++ [entryT (fun x => T.idxOf x) t] := by
  unfold textT
  rw [List.map_append, List.map_cons, List.map_nil]
  congr 1
  · exact List.map_congr_left fun x hx => entry_congr fun y hy => idx_app ((hT.all x hx).2 y hy) _
  · congr 1
    exact entry_congr fun y hy => idx_app (hk y hy) _
theorem text_mem {T : List Tm} {t : Tm} (hT : Good T) (hf : t.fine) (hk : ∀ x ∈ t.kids, x ∈ T) : entryT (fun x => T.idxOf x) t ∈ textT T ↔ t ∈ T := by
  constructor
  · intro h
    obtain ⟨u, hu, e⟩ := List.mem_map.1 h
    have hu2 := hT.all u hu
    have : u = t := entry_inj hu2.1 hf (fun x y hx hy e => idx_inj (hx.elim (hu2.2 x) (hk x)) (hy.elim (hu2.2 y) (hk y)) e) e
    subst this; exact hu
  · intro h
    exact List.mem_map.2 ⟨t, h, rfl⟩
theorem text_idx {T : List Tm} {t : Tm} (hT : Good T) (ht : t ∈ T) : (textT T).idxOf (entryT (fun x => T.idxOf x) t) = T.idxOf t := by
  have key : ∀ l : List Tm, (∀ x ∈ l, x ∈ T) → t ∈ l → (l.map (entryT fun x => T.idxOf x)).idxOf (entryT (fun x => T.idxOf x) t) = l.idxOf t := by
    intro l
    induction l with
    | nil => intro _ h; simp at h
    | cons u l ih =>
      intro hl h
      rw [List.map_cons, List.idxOf_cons, List.idxOf_cons]
      by_cases hut : u = t
      · subst hut; simp
      · have hne : entryT (fun x => T.idxOf x) u ≠ entryT (fun x => T.idxOf x) t := fun e => hut (by
          have h1 := hT.all u (hl u (by simp))
          have h2 := hT.all t ht
          exact entry_inj h1.1 h2.1 (fun x y hx hy e => idx_inj (hx.elim (h1.2 x) (h2.2 x)) (hy.elim (h1.2 y) (h2.2 y)) e) e)
        simp only [beq_eq_false_iff_ne.2 hut, beq_eq_false_iff_ne.2 hne, cond_false]
        rw [ih (fun x hx => hl x (by simp [hx])) ((List.mem_cons.1 h).resolve_left fun e => hut e.symm)]
  exact key T (fun _ h => h) ht
mutual
def Tm.enter : List Tm → Tm → List Tm
  | T, .mk k i n ls kids => if Tm.mk k i n ls kids ∈ T then T else if Tm.mk k i n ls kids ∈ enterL T kids then enterL T kids else enterL T kids ++ [Tm.mk k i n ls kids]
def enterL : List Tm → List Tm → List Tm
  | T, [] => T
  | T, t :: l => enterL (Tm.enter T t) l
end
mutual
def Tm.ent : List (List UInt8) → Tm → Nat × List (List UInt8)
  | tab, .mk k i n ls kids =>
    if encN k.toNat ++ ((Tm.mk k i n ls kids).pay ++ (entL tab kids).1.flatMap encN) ∈ (entL tab kids).2 then ((entL tab kids).2.idxOf (encN k.toNat ++ ((Tm.mk k i n ls kids).pay ++ (entL tab kids).1.flatMap encN)), (entL tab kids).2)
    else ((entL tab kids).2.length, (entL tab kids).2 ++ [encN k.toNat ++ ((Tm.mk k i n ls kids).pay ++ (entL tab kids).1.flatMap encN)])
def entL : List (List UInt8) → List Tm → List Nat × List (List UInt8)
  | tab, [] => ([], tab)
  | tab, t :: l => ((Tm.ent tab t).1 :: (entL (Tm.ent tab t).2 l).1, (entL (Tm.ent tab t).2 l).2)
end
theorem enter_mem {T : List Tm} {t : Tm} (h : t ∈ T) : t.enter T = T := by
  cases t; rw [Tm.enter, if_pos h]
theorem enterL_mem {T : List Tm} : ∀ {l : List Tm}, (∀ x ∈ l, x ∈ T) → enterL T l = T
  | [], _ => by rw [enterL]
  | t :: l, h => by rw [enterL, enter_mem (h t (by simp)), enterL_mem fun x hx => h x (by simp [hx])]
structure EnterOK (T T' : List Tm) (sub : Tm → Prop) : Prop where
  good : Good T'
  pre : ∃ m, T' = T ++ m
  mem : ∀ x, x ∈ T' ↔ x ∈ T ∨ sub x
theorem enterL_ok {T : List Tm} {l : List Tm} (ih : ∀ t ∈ l, ∀ T, Good T → (∀ x ∈ t.subs, x.fine) → EnterOK T (t.enter T) (· ∈ t.subs) ∧ t.ent (textT T) = ((t.enter T).idxOf t, textT (t.enter T))) (hT : Good T) (hf : ∀ x ∈ subsL l, x.fine) : EnterOK T (enterL T l) (· ∈ subsL l) ∧ entL (textT T) l = (l.map fun x => (enterL T l).idxOf x, textT (enterL T l)) := by
  induction l generalizing T with
  | nil =>
    rw [enterL, entL]
    exact ⟨⟨hT, ⟨[], by simp⟩, by simp [subsL]⟩, rfl⟩
  | cons t l ihl =>
    obtain ⟨a, b⟩ := ih t (by simp) T hT fun x hx => hf x (by rw [subsL]; simp [hx])
    obtain ⟨c, d⟩ := ihl (T := t.enter T) (fun u hu => ih u (by simp [hu])) a.good fun x hx => hf x (by rw [subsL]; simp [hx])
    obtain ⟨m, hm⟩ := a.pre
    obtain ⟨m', hm'⟩ := c.pre
    rw [enterL, entL, b]
    simp only [d]
    refine ⟨⟨c.good, ⟨m ++ m', by rw [hm', hm, List.append_assoc]⟩, fun x => ?_⟩, ?_⟩
    · rw [c.mem, a.mem, subsL, List.mem_append, or_assoc]
    · have : (enterL (t.enter T) l).idxOf t = (t.enter T).idxOf t := by
        rw [hm']
        exact idx_app ((a.mem t).2 (.inr (subs_self t))) _
      rw [List.map_cons, this]
theorem enter_ok (t : Tm) : ∀ T, Good T → (∀ x ∈ t.subs, x.fine) → EnterOK T (t.enter T) (· ∈ t.subs) ∧ t.ent (textT T) = ((t.enter T).idxOf t, textT (t.enter T)) := by
  induction t using Tm.ind with
  | h k i n ls kids ih =>
    intro T hT hf
    obtain ⟨a, b⟩ := enterL_ok ih hT fun x hx => hf x (by rw [Tm.subs]; simp [hx])
    have hb : ∀ T1 : List Tm, encN k.toNat ++ ((Tm.mk k i n ls kids).pay ++ (kids.map fun x => T1.idxOf x).flatMap encN) = entryT (fun x => T1.idxOf x) (Tm.mk k i n ls kids) := by
      intro T1
      unfold entryT
      rw [List.flatMap_map]; rfl
    by_cases ht : Tm.mk k i n ls kids ∈ T
    · rw [Tm.enter, if_pos ht]
      refine ⟨⟨hT, ⟨[], by simp⟩, fun x => ⟨.inl, fun h => h.elim id (hT.subs _ ht x)⟩⟩, ?_⟩
      have hk := (hT.all _ ht).2
      rw [enterL_mem (l := kids) hk] at b
      have hfm := (hT.all _ ht).1
      rw [Tm.ent, b]
      simp only [hb]
      rw [if_pos ((text_mem hT hfm hk).2 ht), text_idx hT ht]
    · have hn : Tm.mk k i n ls kids ∉ enterL T kids := by
        rw [a.mem]
        rintro (h | h)
        · exact ht h
        · obtain ⟨y, hy, hxy⟩ := mem_subsL.1 h
          have := subs_sz y _ hxy
          have := kid_sz (t := Tm.mk k i n ls kids) hy
          omega
      have hk : ∀ x ∈ (Tm.mk k i n ls kids).kids, x ∈ enterL T kids := fun x hx => (a.mem x).2 (.inr (mem_subsL.2 ⟨x, hx, subs_self x⟩))
      have hfm := hf _ (subs_self _)
      obtain ⟨m, hm⟩ := a.pre
      rw [Tm.enter, if_neg ht, if_neg hn]
      refine ⟨⟨.add a.good hn hfm hk, ⟨m ++ [Tm.mk k i n ls kids], by rw [hm, List.append_assoc]⟩, fun x => ?_⟩, ?_⟩
      · rw [List.mem_append, a.mem, Tm.subs]
        simp only [List.mem_cons, List.not_mem_nil, or_false]
        constructor
        · rintro ((h | h) | h)
          · exact .inl h
          · exact .inr (.inr h)
          · exact .inr (.inl h)
        · rintro (h | h | h)
          · exact .inl (.inl h)
          · exact .inr h
          · exact .inl (.inr h)
      · rw [Tm.ent, b]
        simp only [hb]
        rw [if_neg fun h => hn ((text_mem a.good hfm hk).1 h), idx_new hn, text_add a.good hk]
        simp [textT]
def ascB : List (Int × Int) → Bool
  | [] => true
  | [_] => true
  | a :: b :: l => decide (a.1 < b.1) && ascB (b :: l)
def varB (v : Int × Int) : Bool := decide (-65536 ≤ v.1) && decide (v.1 < 8) && decide (0 ≤ v.2) && decide (v.2 ≤ 100)
def validB (l : Lv) : Bool := decide (0 ≤ l.c) && decide (l.c ≤ 100) && l.vs.all varB && ascB l.vs && (decide (l.c ≤ 0) || l.vs.all fun v => decide (v.2 < l.c))
def Tm.right (t : Tm) : Bool :=
  t.ls.all validB && decide (kidsN t.k = t.kids.length) && (if t.k = 2 then decide (t.ls.length = 1) else if t.k = 3 then decide (t.ls.length ≤ 8) else decide (t.ls.length = 0)) && decide (t.n.size ≤ 65536) &&
  (if t.k = 0 ∨ t.k = 12 then decide (0 ≤ t.i) && decide (t.i ≤ 2147483647) && decide (t.n.size = 0) else decide (t.i = 0) && (decide (t.k = 3) || decide (t.n.size = 0)))
theorem valid_fine {l : Lv} (h : validB l = true) : l.fine ∧ l.c ≤ 100 ∧ ∀ v ∈ l.vs, v.1 < 8 ∧ v.2 ≤ 100 := by
  simp only [validB, varB, Bool.and_eq_true, decide_eq_true_eq, List.all_eq_true] at h
  obtain ⟨⟨⟨⟨h1, h2⟩, h3⟩, _⟩, _⟩ := h
  exact ⟨⟨h1, fun v hv => by have := h3 v hv; omega⟩, h2, fun v hv => by have := h3 v hv; omega⟩
theorem right_facts {t : Tm} (h : t.right = true) : t.fine ∧ (∀ l ∈ t.ls, validB l = true) ∧ t.ls.length ≤ 8 ∧ t.n.size ≤ 65536 ∧ t.i ≤ 2147483647 := by
  simp only [Tm.right, Bool.and_eq_true, List.all_eq_true, decide_eq_true_eq] at h
  obtain ⟨⟨⟨⟨h1, h2⟩, h3⟩, h4⟩, h5⟩ := h
  have h6 : t.ls.length ≤ 8 := by
    split at h3
    · simp at h3; omega
    split at h3
    · simpa using h3
    · simp at h3; simp [h3]
  refine ⟨⟨h2, fun l hl => (valid_fine (h1 l hl)).1, ⟨fun k => by rw [if_pos k] at h3; simpa using h3, fun k2 k3 => by rw [if_neg k2, if_neg k3] at h3; simpa using h3⟩, ⟨fun k => by rw [if_pos k] at h5; simp at h5; omega, fun k0 k12 => by rw [if_neg (by omega)] at h5; simp at h5; omega⟩, fun k3 => ?_⟩, h1, h6, h4, ?_⟩
  · split at h5
    · simp at h5; rw [h5.2]; rfl
    · simp at h5; rw [h5.2.resolve_left k3]; rfl
  · split at h5
    · simp at h5; omega
    · simp at h5; omega
theorem asc_len : ∀ (l : List (Int × Int)), ascB l = true → (∀ v ∈ l, v.1 < 8) → ∀ a ∈ l.head?, (l.length : Int) ≤ 8 - a.1
  | [], _, _, a, h => by simp at h
  | [x], _, h, a, ha => by simp at ha; subst ha; have := h x (by simp); simp; omega
  | x :: y :: l, h1, h, a, ha => by
    simp at ha; subst ha
    simp only [ascB, Bool.and_eq_true, decide_eq_true_eq] at h1
    have := asc_len (y :: l) h1.2 (fun v hv => h v (by simp [hv])) y (by simp)
    simp only [List.length_cons] at this ⊢
    omega
mutual
def Tm.dp : Tm → Nat
  | .mk _ _ _ _ kids => tdpL kids + 1
def tdpL : List Tm → Nat
  | [] => 0
  | t :: l => max t.dp (tdpL l)
end
end Go.Proofs.Eng
