/- Validity of levels, by the program; kinds. No conditions beyond those in the theorems. -/
import Derived.Test.YtjiheebhmokfbaaDoorPf50
import Derived.Test.YtjiheebhmokfbaaDoorWX
import Derived.Test.YtjiheebhmokfbaaDoorG5
set_option linter.all false
set_option linter.deprecated false
set_option linter.unnecessarySimpa false
set_option linter.unusedVariables false
set_option linter.unusedSimpArgs false
set_option linter.defProp false
namespace Go.Proofs.Eng
open Go Go.Proofs
set_option maxRecDepth 100000
def Rw (f : FuncId) (args : List AV) (s : ASt) (PR : AV → ASt → Prop) : Prop := ∃ v s1, run md pfs f args s = some (.ret v, s1) ∧ PR v s1
def AQ (res : List PR) (PR : AV → ASt → Prop) : AExit → St → Prop
 | .pan _, _ => False
 | .exit _, _ => False
 | _, st => st.df = [] ∧ ∃ l, resA st.tm st.s res = some l ∧ PR (oneA l) st.s
theorem AQ_ret {res : List PR} {PR : AV → ASt → Prop} {st : St} : AQ res PR .ret st = (st.df = [] ∧ ∃ l, resA st.tm st.s res = some l ∧ PR (oneA l) st.s) := rfl
theorem AQ_normal {res : List PR} {PR : AV → ASt → Prop} {st : St} : AQ res PR .normal st = (st.df = [] ∧ ∃ l, resA st.tm st.s res = some l ∧ PR (oneA l) st.s) := rfl
theorem AQ_exit {res : List PR} {PR : AV → ASt → Prop} {v : Nat} {st : St} : AQ res PR (.exit v) st = False := rfl
theorem rw_of {f : FuncId} {pf : PF} (hp : pfs f = some pf) {args : List AV} {s : ASt} {PR : AV → ASt → Prop} (hn : args.length ≤ pf.nt) (h : W (run md pfs) md pf.body ⟨tmE pf.nt (argsE args), [], s⟩ (AQ pf.res PR) ()) : Rw f args s PR := by
 unfold Rw
 rw [run_eq hp (W_ora h)]
 unfold bodyI
 rw [args_tm args pf.nt hn]
 unfold W at h
 cases hx : execL (run md pfs) md (loopI (run md pfs) md) pf.body ⟨tmE pf.nt (argsE args), [], s⟩ with
 | none => rw [hx] at h; exact h.elim
 | some x =>
  obtain ⟨r, st⟩ := x
  obtain ⟨tm, df, s⟩ := st
  rw [hx] at h
  cases r with
  | exit i => exact h.elim
  | pan v => exact h.elim
  | normal =>
   obtain ⟨h1, l, h2, h3⟩ := h
   simp only at h1; subst h1
   refine ⟨oneA l, s, ?_, h3⟩
   simp only at h2
   simp only [List.isEmpty_nil, Bool.not_true, Bool.and_false, Bool.false_eq_true, if_false, leaveA, h2]; rfl
  | ret =>
   obtain ⟨h1, l, h2, h3⟩ := h
   simp only at h1; subst h1
   refine ⟨oneA l, s, ?_, h3⟩
   simp only at h2
   simp only [List.isEmpty_nil, Bool.not_true, Bool.and_false, Bool.false_eq_true, if_false, leaveA, h2]; rfl
theorem Rw.call {f : FuncId} {args : List AV} {s : ASt} {PR : AV → ASt → Prop} (h : Rw f args s PR) (hm : md f = .raw) : ∃ v s', PR v s' ∧ ∀ K KP, CW (run md pfs) md false s f args K KP () = K v s' := by
 obtain ⟨v, s1, h1, h2⟩ := h
 exact ⟨v, s1, h2, fun K KP => by simp [CW, callA, hm, h1]⟩
theorem Rw.mono {f : FuncId} {args : List AV} {s : ASt} {PR PR' : AV → ASt → Prop} (h : Rw f args s PR) (h1 : ∀ v s, PR v s → PR' v s) : Rw f args s PR' := by
 obtain ⟨v, s1, e1, e2⟩ := h
 exact ⟨v, s1, e1, h1 _ _ e2⟩
theorem bytes_len (l : List UInt8) : (bytes l).length = l.length := by simp [bytes]
theorem bytes_app (l m : List UInt8) : bytes (l ++ m) = bytes l ++ bytes m := by simp [bytes]
theorem bytes_all (l : List UInt8) : ((bytes l).all fun x => x.cells.length == 1) = true := by
 rw [List.all_eq_true]; intro x hx
 obtain ⟨b, _, rfl⟩ := List.mem_map.1 hx; rfl
theorem bytes_all2 (l : List UInt8) : ((bytes l).all fun x => x.cells.length == 1 && x.cells.all oneCell) = true := by
 rw [List.all_eq_true]; intro x hx
 obtain ⟨b, _, rfl⟩ := List.mem_map.1 hx; rfl
theorem bytesA_bytes : ∀ l : List UInt8, bytesA (bytes l) = some l
 | [] => rfl
 | b :: l => by
  have hb := b.toNat_lt
  show bytesA (.v (.int .u8 (b.toNat : Int)) :: bytes l) = _
  rw [bytesA, bytesA_bytes l]
  simp
def Oth (T : List Nat) (t : Tl) (T' : List Nat) (t' : Tl) : Prop :=
 T.length ≤ T'.length ∧ (∀ i v, T[i]? = some v → (∀ ver, t ≠ .tl i ver) → T'[i]? = some v) ∧ ∀ i ver', t' = .tl i ver' → (∃ ver, t = .tl i ver) ∨ T.length ≤ i
theorem Oth.refl (T : List Nat) (t : Tl) : Oth T t T t := ⟨Nat.le_refl _, fun _ _ h _ => h, fun i v h => .inl ⟨v, h⟩⟩
theorem Oth.trans {T T' T'' : List Nat} {t t' t'' : Tl} (h : Oth T t T' t') (k : Oth T' t' T'' t'') : Oth T t T'' t'' := by
 refine ⟨Nat.le_trans h.1 k.1, fun i v e n => k.2.1 i v (h.2.1 i v e n) fun ver e' => ?_, fun i ver e => ?_⟩
 ·have hlt := (List.getElem?_eq_some_iff.1 e).1
  rcases h.2.2 i ver e' with ⟨v0, e0⟩ | hle
  ·exact n v0 e0
  ·omega
 ·rcases k.2.2 i ver e with ⟨v0, e0⟩ | hle
  ·exact h.2.2 i v0 e0
  ·exact .inr (Nat.le_trans h.1 hle)
theorem app_many {T : List Nat} {es : Nat} {l : List AV} {t : Tl} {xs : List AV} (h : App T l t) (hl : l.length + xs.length ≤ capB) (ha : (l.all fun x => x.cells.length == es) = true) (hx : (xs.all fun x => x.cells.length == es && x.cells.all oneCell) = true) :
  ∃ t' T', (∀ H, appA ⟨H, T⟩ es none l t xs = some (.sl (l ++ xs) t', ⟨H, T'⟩)) ∧ App T' (l ++ xs) t' ∧ Oth T t T' t' := by
 cases xs with
 | nil => exact ⟨t, T, fun H => by simp [appA], by simpa using h, .refl _ _⟩
 | cons x xs =>
 have hn : l.length + (x :: xs).length ≤ 1073741824 := hl
 rcases h with ⟨rfl, rfl⟩ | ⟨hne, id, ver, rfl, hT⟩
 ·refine ⟨.tl T.length 0, T ++ [0], fun H => ?_, .inr ⟨by simp, _, _, rfl, by simp⟩, by simp, fun i v e _ => by rw [List.getElem?_append_left (List.getElem?_eq_some_iff.1 e).1]; exact e, fun i ver' e => .inr ?_⟩
  ·simp only [appA]
   rw [if_pos ⟨.inl hn, ha, hx⟩]
  ·cases e; exact Nat.le_refl _
 ·have hlt := (List.getElem?_eq_some_iff.1 hT).1
  refine ⟨.tl id (ver + 1), T.set id (ver + 1), fun H => ?_, .inr ⟨by simp, _, _, rfl, by simp [hlt]⟩, by simp, fun i v e n => ?_, fun i ver' e => .inl ?_⟩
  ·simp only [appA]
   rw [if_pos ⟨.inl hn, ha, hx⟩]
   simp [hT, hne]
  ·have : id ≠ i := by rintro rfl; exact n ver rfl
   rw [List.getElem?_set, if_neg this]; exact e
  ·cases e; exact ⟨ver, rfl⟩
def varIs (v : Int × Int) (a : AV) : Prop := a = .agg [.int v.1, .int v.2] ∧ in64 v.1 ∧ in64 v.2
theorem varPure {v : Int × Int} {a : AV} (h : varIs v a) : pureAV a = true := by obtain ⟨rfl, _⟩ := h; rfl
theorem varAgg : AggR varIs 2 := ⟨fun {x a} h => by obtain ⟨rfl, _⟩ := h; exact ⟨_, rfl, rfl, rfl⟩, fun {x a} h => varPure h⟩
def Lv.Is (l : Lv) (a : AV) : Prop := ∃ t al, a = .agg [.int l.c, .sl al t] ∧ t.pure = true ∧ in64 l.c ∧ al.length ≤ lenB ∧ LIs varIs l.vs al
theorem lvPure {l : Lv} {a : AV} (h : l.Is a) : pureAV a = true := by
 obtain ⟨t, al, rfl, h1, _, _, h2⟩ := h
 have := h2.pure fun _ _ h => varPure h
 simp [pv_agg, pv_v, pv_sl, pvs_cons, pvs_nil, h1, this]
theorem lvAgg : AggR Lv.Is 2 := ⟨fun {x a} h => by obtain ⟨t, al, rfl, _⟩ := h; exact ⟨_, rfl, rfl, rfl⟩, fun {x a} h => lvPure h⟩
mutual
def Tm.Is : Tm → AV → Prop
 | .mk k i n ls kids, a => ∃ t1 t2 las kas, a = .agg [.int k, .int i, .str n, .sl las t1, .sl kas t2] ∧ t1.pure = true ∧ t2.pure = true ∧ in64 k ∧ in64 i ∧ n.size ≤ lenB ∧ las.length ≤ lenB ∧ kas.length ≤ lenB ∧ LIs Lv.Is ls las ∧ Tm.IsL kids kas
def Tm.IsL : List Tm → List AV → Prop
 | [], [] => True
 | e :: es, a :: al => e.Is a ∧ Tm.IsL es al
 | _, _ => False
end
theorem tmsL_iff : ∀ {l : List Tm} {al : List AV}, Tm.IsL l al ↔ LIs Tm.Is l al
 | [], [] => by simp [Tm.IsL, LIs]
 | e :: es, a :: al => by simp only [Tm.IsL, LIs, tmsL_iff (l := es)]
 | [], _ :: _ => by simp [Tm.IsL, LIs]
 | _ :: _, [] => by simp [Tm.IsL, LIs]
theorem Tm.Is.mk {k i : Int} {n : ByteArray} {ls : List Lv} {kids : List Tm} {t1 t2 : Tl} {las kas : List AV} (h1 : t1.pure = true) (h2 : t2.pure = true) (h3 : in64 k) (h4 : in64 i) (h5 : n.size ≤ lenB) (h6 : las.length ≤ lenB) (h7 : kas.length ≤ lenB) (h8 : LIs Lv.Is ls las) (h9 : LIs Tm.Is kids kas) : (Tm.mk k i n ls kids).Is (.agg [.int k, .int i, .str n, .sl las t1, .sl kas t2]) := by
 simp only [Tm.Is, tmsL_iff]; exact ⟨t1, t2, las, kas, rfl, h1, h2, h3, h4, h5, h6, h7, h8, h9⟩
theorem lvsPure {l : List Lv} {al : List AV} (h : LIs Lv.Is l al) : pureAVs al = true := h.pure fun _ _ h => lvPure h
def Tm.zero : Tm := .mk 0 0 ⟨#[]⟩ [] []
set_option maxHeartbeats 4000000
end Go.Proofs.Eng
