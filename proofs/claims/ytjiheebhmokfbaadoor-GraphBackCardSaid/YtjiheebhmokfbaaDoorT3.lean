/- Validity of levels, by the program; kinds. No conditions beyond those in the theorems. -/
import Derived.Test.YtjiheebhmokfbaaDoorPf50
import Derived.Test.YtjiheebhmokfbaaDoorWX
import Derived.Test.YtjiheebhmokfbaaDoorG5
set_option linter.all false
set_option linter.deprecated false
set_option linter.unnecessarySimpa false
set_option linter.unusedVariables false
set_option linter.unusedSimpArgs false
set_option linter.defProp false
namespace Go.Proofs.Eng
open Go Go.Proofs
set_option maxRecDepth 100000
def Rw (f : FuncId) (args : List AV) (s : ASt) (PR : AV → ASt → Prop) : Prop := ∃ v s1, run md pfs f args s = some (.ret v, s1) ∧ PR v s1
def AQ (res : List PR) (PR : AV → ASt → Prop) : AExit → St → Prop
 | .pan _, _ => False
 | .exit _, _ => False
 | _, st => st.df = [] ∧ ∃ l, resA st.tm st.s res = some l ∧ PR (oneA l) st.s
theorem AQ_ret {res : List PR} {PR : AV → ASt → Prop} {st : St} : AQ res PR .ret st = (st.df = [] ∧ ∃ l, resA st.tm st.s res = some l ∧ PR (oneA l) st.s) := rfl
theorem AQ_normal {res : List PR} {PR : AV → ASt → Prop} {st : St} : AQ res PR .normal st = (st.df = [] ∧ ∃ l, resA st.tm st.s res = some l ∧ PR (oneA l) st.s) := rfl
theorem AQ_exit {res : List PR} {PR : AV → ASt → Prop} {v : Nat} {st : St} : AQ res PR (.exit v) st = False := rfl
theorem rw_of {f : FuncId} {pf : PF} (hp : pfs f = some pf) {args : List AV} {s : ASt} {PR : AV → ASt → Prop} (hn : args.length ≤ pf.nt) (h : W (run md pfs) md pf.body ⟨tmE pf.nt (argsE args), [], s⟩ (AQ pf.res PR) ()) : Rw f args s PR := by
 unfold Rw
 rw [run_eq hp (W_ora h)]
 unfold bodyI
 rw [args_tm args pf.nt hn]
 unfold W at h
 cases hx : execL (run md pfs) md (loopI (run md pfs) md) pf.body ⟨tmE pf.nt (argsE args), [], s⟩ with
 | none => rw [hx] at h; exact h.elim
 | some x =>
  obtain ⟨r, st⟩ := x
  obtain ⟨tm, df, s⟩ := st
  rw [hx] at h
  cases r with
  | exit i => exact h.elim
  | pan v => exact h.elim
  | normal =>
   obtain ⟨h1, l, h2, h3⟩ := h
   simp only at h1; subst h1
   refine ⟨oneA l, s, ?_, h3⟩
   simp only at h2
   simp only [List.isEmpty_nil, Bool.not_true, Bool.and_false, Bool.false_eq_true, if_false, leaveA, h2]; rfl
  | ret =>
   obtain ⟨h1, l, h2, h3⟩ := h
   simp only at h1; subst h1
   refine ⟨oneA l, s, ?_, h3⟩
   simp only at h2
   simp only [List.isEmpty_nil, Bool.not_true, Bool.and_false, Bool.false_eq_true, if_false, leaveA, h2]; rfl
theorem Rw.call {f : FuncId} {args : List AV} {s : ASt} {PR : AV → ASt → Prop} (h : Rw f args s PR) (hm : md f = .raw) : ∃ v s', PR v s' ∧ ∀ K KP, CW (run md pfs) md false s f args K KP () = K v s' := by
 obtain ⟨v, s1, h1, h2⟩ := h
 exact ⟨v, s1, h2, fun K KP => by simp [CW, callA, hm, h1]⟩
theorem Rw.mono {f : FuncId} {args : List AV} {s : ASt} {PR PR' : AV → ASt → Prop} (h : Rw f args s PR) (h1 : ∀ v s, PR v s → PR' v s) : Rw f args s PR' := by
 obtain ⟨v, s1, e1, e2⟩ := h
 exact ⟨v, s1, e1, h1 _ _ e2⟩
theorem bytes_len (l : List UInt8) : (bytes l).length = l.length := by simp [bytes]
theorem bytes_app (l m : List UInt8) : bytes (l ++ m) = bytes l ++ bytes m := by simp [bytes]
theorem bytes_all (l : List UInt8) : ((bytes l).all fun x => x.cells.length == 1) = true := by
 rw [List.all_eq_true]; intro x hx
 obtain ⟨b, _, rfl⟩ := List.mem_map.1 hx; rfl
theorem bytes_all2 (l : List UInt8) : ((bytes l).all fun x => x.cells.length == 1 && x.cells.all oneCell) = true := by
 rw [List.all_eq_true]; intro x hx
 obtain ⟨b, _, rfl⟩ := List.mem_map.1 hx; rfl
theorem u8wrap {n : Nat} (h : n < 256) : IntKind.u8.wrap (n : Int) = n := by
 simp [IntKind.wrap, IntKind.bits, IntKind.signed]; omega
theorem bytesA_bytes : ∀ l : List UInt8, bytesA (bytes l) = some l
 | [] => rfl
 | b :: l => by
  have hb := b.toNat_lt
  show bytesA (.v (.int .u8 (b.toNat : Int)) :: bytes l) = _
  rw [bytesA, bytesA_bytes l]
  simp
def Oth (T : List Nat) (t : Tl) (T' : List Nat) (t' : Tl) : Prop :=
 T.length ≤ T'.length ∧ (∀ i v, T[i]? = some v → (∀ ver, t ≠ .tl i ver) → T'[i]? = some v) ∧ ∀ i ver', t' = .tl i ver' → (∃ ver, t = .tl i ver) ∨ T.length ≤ i
theorem Oth.refl (T : List Nat) (t : Tl) : Oth T t T t := ⟨Nat.le_refl _, fun _ _ h _ => h, fun i v h => .inl ⟨v, h⟩⟩
theorem Oth.trans {T T' T'' : List Nat} {t t' t'' : Tl} (h : Oth T t T' t') (k : Oth T' t' T'' t'') : Oth T t T'' t'' := by
 refine ⟨Nat.le_trans h.1 k.1, fun i v e n => k.2.1 i v (h.2.1 i v e n) fun ver e' => ?_, fun i ver e => ?_⟩
 ·have hlt := (List.getElem?_eq_some_iff.1 e).1
  rcases h.2.2 i ver e' with ⟨v0, e0⟩ | hle
  ·exact n v0 e0
  ·omega
 ·rcases k.2.2 i ver e with ⟨v0, e0⟩ | hle
  ·exact h.2.2 i v0 e0
  ·exact .inr (Nat.le_trans h.1 hle)
theorem app_many {T : List Nat} {es : Nat} {l : List AV} {t : Tl} {xs : List AV} (h : App T l t) (hl : l.length + xs.length ≤ capB) (ha : (l.all fun x => x.cells.length == es) = true) (hx : (xs.all fun x => x.cells.length == es && x.cells.all oneCell) = true) :
  ∃ t' T', (∀ H, appA ⟨H, T⟩ es none l t xs = some (.sl (l ++ xs) t', ⟨H, T'⟩)) ∧ App T' (l ++ xs) t' ∧ Oth T t T' t' := by
 cases xs with
 | nil => exact ⟨t, T, fun H => by simp [appA], by simpa using h, .refl _ _⟩
 | cons x xs =>
 have hn : l.length + (x :: xs).length ≤ 1073741824 := hl
 rcases h with ⟨rfl, rfl⟩ | ⟨hne, id, ver, rfl, hT⟩
 ·refine ⟨.tl T.length 0, T ++ [0], fun H => ?_, .inr ⟨by simp, _, _, rfl, by simp⟩, by simp, fun i v e _ => by rw [List.getElem?_append_left (List.getElem?_eq_some_iff.1 e).1]; exact e, fun i ver' e => .inr ?_⟩
  ·simp only [appA]
   rw [if_pos ⟨.inl hn, ha, hx⟩]
  ·cases e; exact Nat.le_refl _
 ·have hlt := (List.getElem?_eq_some_iff.1 hT).1
  refine ⟨.tl id (ver + 1), T.set id (ver + 1), fun H => ?_, .inr ⟨by simp, _, _, rfl, by simp [hlt]⟩, by simp, fun i v e n => ?_, fun i ver' e => .inl ?_⟩
  ·simp only [appA]
   rw [if_pos ⟨.inl hn, ha, hx⟩]
   simp [hT, hne]
  ·have : id ≠ i := by rintro rfl; exact n ver rfl
   rw [List.getElem?_set, if_neg this]; exact e
  ·cases e; exact ⟨ver, rfl⟩
theorem encN_len : ∀ (k n : Nat), n < 128 ^ (k + 1) → (encN n).length ≤ k + 1
 | 0, n, h => by rw [encN_lt (by simpa using h)]; simp
 | k + 1, n, h => by
  rcases Nat.lt_or_ge n 128 with hlt | hge
  ·rw [encN_lt hlt]; simp
  ·rw [encN_ge hge, List.length_cons]
   have := encN_len k (n / 128) (by rw [Nat.pow_succ] at h; omega)
   omega
theorem i_rem (m : Nat) : (m : Int).tmod 128 = ((m % 128 : Nat) : Int) := by
 rw [Int.tmod_eq_emod_of_nonneg (by omega)]; omega
theorem i_div {m : Nat} (h : m < 4611686018427387904) : IntKind.i64.wrap ((m : Int).tdiv 128) = ((m / 128 : Nat) : Int) := by
 rw [Int.tdiv_eq_ediv_of_nonneg (by omega), wrap_in (by unfold in64; omega)]; omega
theorem u8_or {m : Nat} (h : m < 128) : IntKind.u8.wrap ((BitVec.ofInt IntKind.u8.bits (m : Int) ||| BitVec.ofInt IntKind.u8.bits 128).toNat : Int) = ((m + 128 : Nat) : Int) := by
 have h1 : (BitVec.ofInt IntKind.u8.bits (m : Int) ||| BitVec.ofInt IntKind.u8.bits (128 : Int)).toNat = m + 128 := by
  have := or_nat (w := 8) (a := m) (b := 128) (by omega) (by omega)
  rw [show IntKind.u8.bits = 8 from rfl, show ((128 : Int)) = ((128 : Nat) : Int) from rfl, this]
  have := or_add (a := m) (c := 1) (k := 7) (by omega)
  simpa using this
 rw [h1, u8wrap (by omega)]
def varIs (v : Int × Int) (a : AV) : Prop := a = .agg [.int v.1, .int v.2] ∧ in64 v.1 ∧ in64 v.2
theorem varPure {v : Int × Int} {a : AV} (h : varIs v a) : pureAV a = true := by obtain ⟨rfl, _⟩ := h; rfl
theorem varAgg : AggR varIs 2 := ⟨fun {x a} h => by obtain ⟨rfl, _⟩ := h; exact ⟨_, rfl, rfl, rfl⟩, fun {x a} h => varPure h⟩
def Lv.Is (l : Lv) (a : AV) : Prop := ∃ t al, a = .agg [.int l.c, .sl al t] ∧ t.pure = true ∧ in64 l.c ∧ al.length ≤ lenB ∧ LIs varIs l.vs al
theorem lvPure {l : Lv} {a : AV} (h : l.Is a) : pureAV a = true := by
 obtain ⟨t, al, rfl, h1, _, _, h2⟩ := h
 have := h2.pure fun _ _ h => varPure h
 simp [pv_agg, pv_v, pv_sl, pvs_cons, pvs_nil, h1, this]
theorem lvAgg : AggR Lv.Is 2 := ⟨fun {x a} h => by obtain ⟨t, al, rfl, _⟩ := h; exact ⟨_, rfl, rfl, rfl⟩, fun {x a} h => lvPure h⟩
mutual
def Tm.Is : Tm → AV → Prop
 | .mk k i n ls kids, a => ∃ t1 t2 las kas, a = .agg [.int k, .int i, .str n, .sl las t1, .sl kas t2] ∧ t1.pure = true ∧ t2.pure = true ∧ in64 k ∧ in64 i ∧ n.size ≤ lenB ∧ las.length ≤ lenB ∧ kas.length ≤ lenB ∧ LIs Lv.Is ls las ∧ Tm.IsL kids kas
def Tm.IsL : List Tm → List AV → Prop
 | [], [] => True
 | e :: es, a :: al => e.Is a ∧ Tm.IsL es al
 | _, _ => False
end
theorem tmsL_iff : ∀ {l : List Tm} {al : List AV}, Tm.IsL l al ↔ LIs Tm.Is l al
 | [], [] => by simp [Tm.IsL, LIs]
 | e :: es, a :: al => by simp only [Tm.IsL, LIs, tmsL_iff (l := es)]
 | [], _ :: _ => by simp [Tm.IsL, LIs]
 | _ :: _, [] => by simp [Tm.IsL, LIs]
theorem Tm.Is.opn {k i : Int} {n : ByteArray} {ls : List Lv} {kids : List Tm} {a : AV} (h : (Tm.mk k i n ls kids).Is a) : ∃ t1 t2 las kas, a = .agg [.int k, .int i, .str n, .sl las t1, .sl kas t2] ∧ t1.pure = true ∧ t2.pure = true ∧ in64 k ∧ in64 i ∧ n.size ≤ lenB ∧ las.length ≤ lenB ∧ kas.length ≤ lenB ∧ LIs Lv.Is ls las ∧ LIs Tm.Is kids kas := by
 simp only [Tm.Is, tmsL_iff] at h; exact h
theorem Tm.Is.mk {k i : Int} {n : ByteArray} {ls : List Lv} {kids : List Tm} {t1 t2 : Tl} {las kas : List AV} (h1 : t1.pure = true) (h2 : t2.pure = true) (h3 : in64 k) (h4 : in64 i) (h5 : n.size ≤ lenB) (h6 : las.length ≤ lenB) (h7 : kas.length ≤ lenB) (h8 : LIs Lv.Is ls las) (h9 : LIs Tm.Is kids kas) : (Tm.mk k i n ls kids).Is (.agg [.int k, .int i, .str n, .sl las t1, .sl kas t2]) := by
 simp only [Tm.Is, tmsL_iff]; exact ⟨t1, t2, las, kas, rfl, h1, h2, h3, h4, h5, h6, h7, h8, h9⟩
theorem lvsPure {l : List Lv} {al : List AV} (h : LIs Lv.Is l al) : pureAVs al = true := h.pure fun _ _ h => lvPure h
theorem tmPure (e : Tm) : ∀ {a}, e.Is a → pureAV a = true := by
 induction e using Tm.ind with
 | h k i n ls kids ih =>
  intro a h
  obtain ⟨t1, t2, las, kas, rfl, h1, h2, _, _, _, _, _, h8, h9⟩ := h.opn
  have := LIs.pure (R := fun x a => pureAV a = true) (fun _ _ h => h) (h9.mono fun x hx a h => ih x hx h)
  simp [pv_agg, pv_v, pv_sl, pvs_cons, pvs_nil, lvsPure h8, h1, h2, this]
theorem tmAgg : AggR Tm.Is 5 := ⟨fun {x a} h => by
  cases x
  obtain ⟨t1, t2, las, kas, rfl, _⟩ := h.opn
  exact ⟨_, rfl, rfl, rfl⟩, fun {x a} h => tmPure x h⟩
theorem tmsPure {l : List Tm} {al : List AV} (h : LIs Tm.Is l al) : pureAVs al = true := h.pure fun x _ h => tmPure x h
def Tm.zero : Tm := .mk 0 0 ⟨#[]⟩ [] []
theorem tmCells {e : Tm} {a : AV} (h : e.Is a) : ∃ c, a = .agg c ∧ c.length = 5 ∧ c.take 5 = c ∧ c.all oneCell = true := by
 obtain ⟨c, rfl, h1, h2⟩ := tmAgg.cells h
 exact ⟨c, rfl, h1, List.take_of_length_le (by omega), h2⟩
theorem lvCells {e : Lv} {a : AV} (h : e.Is a) : ∃ c, a = .agg c ∧ c.length = 2 ∧ c.take 2 = c ∧ c.all oneCell = true := by
 obtain ⟨c, rfl, h1, h2⟩ := lvAgg.cells h
 exact ⟨c, rfl, h1, List.take_of_length_le (by omega), h2⟩
set_option maxHeartbeats 4000000
theorem eqg_var (a b c d : Int) : eqgA [false, false] [.int a, .int b] [.int c, .int d] = some (decide ((a, b) = (c, d))) := by
 simp only [eqgA, keyOK, keyEq, if_true, Bool.and_true]
 by_cases h1 : a = c <;> by_cases h2 : b = d <;> simp [h1, h2]
theorem take_step {α : Type} {l m : List α} {j : Nat} {x : α} (h : l.take j = m.take j) (h1 : l[j]? = some x) (h2 : m[j]? = some x) : l.take (j + 1) = m.take (j + 1) := by
 rw [List.take_add_one, List.take_add_one, h, h1, h2]
theorem list_ne {α : Type} {l m : List α} {j : Nat} {x y : α} (h1 : l[j]? = some x) (h2 : m[j]? = some y) (h : x ≠ y) : l ≠ m := by
 rintro rfl; rw [h1] at h2; cases h2; exact h rfl
theorem lsame_ret {l m : Lv} {a b : AV} (h : l.Is a) (h' : m.Is b) : Out md pfs 80 [a, b] (· = .bool (decide (l = m))) fun _ => False := by
 obtain ⟨t, al, rfl, g1, g2, g3, g4⟩ := h
 obtain ⟨u, bl, rfl, q1, q2, q3, q4⟩ := h'
 obtain ⟨c, vs⟩ := l
 obtain ⟨d, ws⟩ := m
 have hl1 := g4.len
 have hl2 := q4.len
 simp only at hl1 hl2 g4 q4 g2 q2
 refine out_of pf80_is (Nat.le_of_ble_eq_true rfl) ?_
 cases b1 : (c != d)
 ·have hcd : c = d := by simpa using b1
  subst hcd
  cases b2 : ((al.length : Int) != bl.length)
  ·have hlen : bl.length = al.length := by simp at b2; omega
   simp only [pf80, ↓wpre, wall, simprocAttr, b1, b2]
   refine W_loopE (fun j => al.length - j) (fun j E H T => H = [.cells false [.int c, .sl al t], .cells false [.int c, .sl bl u]] ∧ E 2 = .ptr 0 0 ∧ E 3 = .ptr 1 0 ∧ E 5 = .int (j : Nat) ∧ j ≤ al.length ∧ vs.take j = ws.take j) ?_ 0 ⟨rfl, rfl, rfl, rfl, Nat.zero_le _, by simp⟩
   rintro j E H T ⟨rfl, e2, e3, e5, hj, ht⟩
   rcases Nat.lt_or_ge j al.length with hlt | hge
   ·have hdec : decide ((j : Int) < al.length) = true := by simpa using hlt
    obtain ⟨x, c1, d0, d1, d3, d4, d5, d6, d7, ⟨d8, _, _⟩⟩ := g4.get varAgg hlt
    obtain ⟨y, c2, f0, f1, f3, f4, f5, f6, f7, ⟨f8, _, _⟩⟩ := q4.get varAgg (i := j) (by omega)
    cases d8; cases f8
    have hall := g4.all varAgg
    have hall2 := q4.all varAgg
    have hq := eqg_var x.1 x.2 y.1 y.2
    rw [show ((x.1, x.2) : Int × Int) = x from rfl, show ((y.1, y.2) : Int × Int) = y from rfl] at hq
    cases b3 : decide (x = y)
    ·simp only [↓wpre, wall, simprocAttr, e2, e3, e5, hdec, d4, f4, hall, hall2, hq, b3, Bool.true_xor, Bool.not_false]
     have hxy : x ≠ y := by simpa using b3
     have : vs ≠ ws := list_ne d0 f0 hxy
     simp [this]
    ·have hxy : x = y := by simpa using b3
     subst hxy
     simp only [↓wpre, wall, simprocAttr, e2, e3, e5, hdec, d4, f4, hall, hall2, hq, b3, Bool.true_xor, Bool.not_true]
     exact EQ_in ⟨j + 1, by omega, rfl, e2, e3, next_ixv (by unfold lenB at *; omega), by omega, take_step ht d0 f0⟩
   ·have hdec : decide ((j : Int) < al.length) = false := by simpa using hge
    simp only [↓wpre, wall, simprocAttr, e2, e3, e5, hdec]
    rw [List.take_of_length_le (by omega), List.take_of_length_le (by omega)] at ht
    simp [ht]
  ·simp only [pf80, ↓wpre, wall, simprocAttr, b1, b2]
   have : vs ≠ ws := by rintro rfl; simp at b2; omega
   simp [this]
 ·simp only [pf80, ↓wpre, wall, simprocAttr, b1]
  have : c ≠ d := by simpa using b1
  simp [this]
theorem lsames_ret {ls ms : List Lv} {al bl : List AV} {t u : Tl} (h : LIs Lv.Is ls al) (h' : LIs Lv.Is ms bl) (ht : t.pure = true) (hu : u.pure = true) (hl : al.length ≤ lenB) : Out md pfs 60 [.sl al t, .sl bl u] (· = .bool (decide (ls = ms))) fun _ => False := by
 have hl1 := h.len
 have hl2 := h'.len
 refine out_of pf60_is (Nat.le_of_ble_eq_true rfl) ?_
 cases b2 : ((al.length : Int) != bl.length)
 ·have hlen : bl.length = al.length := by simp at b2; omega
  simp only [pf60, ↓wpre, wall, simprocAttr, b2]
  refine W_loopE (fun j => al.length - j) (fun j E H T => H = [] ∧ E 0 = .sl al t ∧ E 1 = .sl bl u ∧ E 5 = .int (j : Nat) ∧ j ≤ al.length ∧ ls.take j = ms.take j) ?_ 0 ⟨rfl, rfl, rfl, rfl, Nat.zero_le _, by simp⟩
  rintro j E H T ⟨rfl, e0, e1, e5, hj, hq⟩
  rcases Nat.lt_or_ge j al.length with hlt | hge
  ·have hdec : decide ((j : Int) < al.length) = true := by simpa using hlt
   obtain ⟨x, c1, d0, d1, d3, d4, d5, d6, d7, d8⟩ := h.get lvAgg hlt
   obtain ⟨y, c2, f0, f1, f3, f4, f5, f6, f7, f8⟩ := h'.get lvAgg (i := j) (by omega)
   have hall := h.all lvAgg
   have hall2 := h'.all lvAgg
   obtain ⟨_, rfl, cr⟩ := (lsame_ret d8 f8).call rfl (by simp [pvs_cons, pvs_nil, lvPure d8, lvPure f8])
   cases b3 : decide (x = y)
   ·have hxy : x ≠ y := by simpa using b3
    simp only [↓wpre, wall, simprocAttr, e0, e1, e5, hdec, d4, d5, d6, f4, f5, f6, hall, hall2, cr, b3]
    have : ls ≠ ms := list_ne d0 f0 hxy
    simp [this]
   ·have hxy : x = y := by simpa using b3
    subst hxy
    simp only [↓wpre, wall, simprocAttr, e0, e1, e5, hdec, d4, d5, d6, f4, f5, f6, hall, hall2, cr, b3]
    exact EQ_in ⟨j + 1, by omega, rfl, e0, e1, next_ixv (by unfold lenB at *; omega), by omega, take_step hq d0 f0⟩
  ·have hdec : decide ((j : Int) < al.length) = false := by simpa using hge
   simp only [↓wpre, wall, simprocAttr, e0, e1, e5, hdec]
   rw [List.take_of_length_le (by omega), List.take_of_length_le (by omega)] at hq
   simp [hq]
 ·simp only [pf60, ↓wpre, wall, simprocAttr, b2]
  have : ls ≠ ms := by rintro rfl; simp at b2; omega
  simp [this]
theorem tsame_ret (e : Tm) : ∀ {f a b}, e.Is a → Tm.Is f b → Out md pfs 30 [a, b] (· = .bool (decide (e = f))) fun _ => False := by
 induction e using Tm.ind with
 | h k i n ls kids ih =>
 rintro ⟨k', i', n', ls', kids'⟩ a b h h'
 obtain ⟨t1, t2, las, kas, rfl, g1, g2, g3, g4, g5, g6, g7, g8, g9⟩ := h.opn
 obtain ⟨u1, u2, lbs, kbs, rfl, q1, q2, q3, q4, q5, q6, q7, q8, q9⟩ := h'.opn
 have hl1 := g9.len
 have hl2 := q9.len
 obtain ⟨_, rfl, cl⟩ := (lsames_ret g8 q8 g1 q1 g6).call rfl (by simp [pvs_cons, pvs_nil, pv_sl, lvsPure g8, lvsPure q8, g1, q1])
 refine out_of pf30_is (Nat.le_of_ble_eq_true rfl) ?_
 cases b1 : (k != k')
 case true =>
  simp only [pf30, ↓wpre, wall, simprocAttr, b1]
  have : k ≠ k' := by simpa using b1
  simp [this]
 have hk : k = k' := by simpa using b1
 subst hk
 cases b2 : (i != i')
 case true =>
  simp only [pf30, ↓wpre, wall, simprocAttr, b1, b2]
  have : i ≠ i' := by simpa using b2
  simp [this]
 have hi : i = i' := by simpa using b2
 subst hi
 cases b3 : (n.toList == n'.toList)
 case false =>
  simp only [pf30, ↓wpre, wall, simprocAttr, b1, b2, b3]
  have : n ≠ n' := by rintro rfl; simp at b3
  simp [this]
 have hn : n = n' := toList_inj (by simpa using b3)
 subst hn
 cases b4 : decide (ls = ls')
 case false =>
  simp only [pf30, ↓wpre, wall, simprocAttr, b1, b2, b3, cl, b4]
  have : ls ≠ ls' := by simpa using b4
  simp [this]
 have hls : ls = ls' := by simpa using b4
 subst hls
 cases b5 : ((kas.length : Int) != kbs.length)
 case true =>
  simp only [pf30, ↓wpre, wall, simprocAttr, b1, b2, b3, cl, b4, b5]
  have : kids ≠ kids' := by rintro rfl; simp at b5; omega
  simp [this]
 have hlen : kbs.length = kas.length := by simp at b5; omega
 simp only [pf30, ↓wpre, wall, simprocAttr, b1, b2, b3, cl, b4, b5]
 refine W_loopE (fun j => kas.length - j) (fun j E H T => H = [.cells false [.int k, .int i, .str n, .sl las t1, .sl kas t2], .cells false [.int k, .int i, .str n, .sl lbs u1, .sl kbs u2]] ∧ E 2 = .ptr 0 0 ∧ E 3 = .ptr 1 0 ∧ E 5 = .int (j : Nat) ∧ j ≤ kas.length ∧ kids.take j = kids'.take j) ?_ 0 ⟨rfl, rfl, rfl, rfl, Nat.zero_le _, by simp⟩
 rintro j E H T ⟨rfl, e2, e3, e5, hj, hq⟩
 rcases Nat.lt_or_ge j kas.length with hlt | hge
 ·have hdec : decide ((j : Int) < kas.length) = true := by simpa using hlt
  obtain ⟨x, c1, d0, d1, d3, d4, d5, d6, d7, d8⟩ := g9.get tmAgg hlt
  obtain ⟨y, c2, f0, f1, f3, f4, f5, f6, f7, f8⟩ := q9.get tmAgg (i := j) (by omega)
  have hall := g9.all tmAgg
  have hall2 := q9.all tmAgg
  obtain ⟨_, rfl, cr⟩ := (ih x d3 d8 f8).call rfl (by simp [pvs_cons, pvs_nil, tmPure _ d8, tmPure _ f8])
  cases b6 : decide (x = y)
  ·have hxy : x ≠ y := by simpa using b6
   simp only [↓wpre, wall, simprocAttr, e2, e3, e5, hdec, d4, d5, d6, f4, f5, f6, hall, hall2, cr, b6]
   have : kids ≠ kids' := list_ne d0 f0 hxy
   simp [this]
  ·have hxy : x = y := by simpa using b6
   subst hxy
   simp only [↓wpre, wall, simprocAttr, e2, e3, e5, hdec, d4, d5, d6, f4, f5, f6, hall, hall2, cr, b6]
   exact EQ_in ⟨j + 1, by omega, rfl, e2, e3, next_ixv (by unfold lenB at *; omega), by omega, take_step hq d0 f0⟩
 ·have hdec : decide ((j : Int) < kas.length) = false := by simpa using hge
  simp only [↓wpre, wall, simprocAttr, e2, e3, e5, hdec]
  rw [List.take_of_length_le (by omega), List.take_of_length_le (by omega)] at hq
  simp [hq]
theorem index2_ret {α : Type} {R : α → AV → Prop} (hR : AggR R 2) (f : FuncId) (caps : List AV) (hf : md f = .pure) (hcaps : pureAVs caps = true) (p : α → Bool) {l : List α} {al : List AV} {t : Tl} (h : LIs R l al) (hl : al.length ≤ lenB) (hg : ∀ x ∈ l, ∀ a, R x a → Out md pfs f (a :: caps) (· = .bool (p x)) fun _ => False) :
  Out md pfs 101 [.sl al t, .fn f caps] (fun v => ∃ r : Int, v = .int r ∧ ((r = -1 ∧ l.any p = false) ∨ ∃ (j : Nat) (x : α), r = j ∧ l[j]? = some x ∧ p x = true ∧ (l.take j).any p = false)) fun _ => False := by
 refine out_of pf101_is (Nat.le_of_ble_eq_true rfl) ?_
 simp only [pf101, ↓wpre, wall, simprocAttr]
 refine W_loopE (fun j => al.length - j) (fun j E H T => E 0 = .sl al t ∧ E 1 = .fn f caps ∧ E 7 = .int al.length ∧ E 8 = .int j ∧ j ≤ al.length ∧ (l.take j).any p = false) ?_ 0 ?_
 ·rintro j E H T ⟨e0, e1, e7, e8, hj, hn⟩
  rcases Nat.lt_or_ge j al.length with hlt | hge
  ·obtain ⟨x, c, d0, d1, d3, d4, d5, d6, d7, d8⟩ := h.get hR hlt
   have hdec : decide ((j : Int) < al.length) = true := by simpa using hlt
   have hall := h.all hR
   obtain ⟨v, rfl, hc⟩ := (hg x d3 _ d8).call hf (by simp [pvs_cons, hR.pure d8, hcaps])
   cases hp : p x
   ·simp only [↓wpre, wall, simprocAttr, e0, e1, e7, e8, hdec, d4, d5, d6, hall, hc, hp]
    exact EQ_in ⟨j + 1, by omega, e0, e1, e7, next_ixv (by unfold lenB at *; omega), by omega, by rw [List.take_add_one, d0]; simp [List.any_append, hn, hp]⟩
   ·simp only [↓wpre, wall, simprocAttr, e0, e1, e7, e8, hdec, d4, d5, d6, hall, hc, hp]
    exact ⟨_, rfl, .inr ⟨j, x, rfl, d0, hp, hn⟩⟩
  ·have hdec : decide ((j : Int) < al.length) = false := by simpa using hge
   simp only [↓wpre, wall, simprocAttr, e0, e1, e7, e8, hdec]
   rw [List.take_of_length_le (by rw [← h.len]; omega)] at hn
   exact ⟨_, rfl, .inl ⟨rfl, hn⟩⟩
 ·exact ⟨rfl, rfl, rfl, rfl, Nat.zero_le _, rfl⟩
theorem asc_iff : ∀ l : List (Int × Int), ascB l = true ↔ ∀ (i : Nat) (a b : Int × Int), l[i]? = some a → l[i + 1]? = some b → a.1 < b.1
 | [] => by simp [ascB]
 | [x] => by simp [ascB]
 | x :: y :: l => by
  rw [ascB, Bool.and_eq_true, asc_iff (y :: l)]
  constructor
  ·rintro ⟨h1, h2⟩ i a b ha hb
   cases i with
   | zero => simp at ha hb; subst ha; subst hb; simpa using h1
   | succ i => exact h2 i a b (by simpa using ha) (by simpa using hb)
  ·intro h
   exact ⟨by simpa using h 0 x y rfl rfl, fun i a b ha hb => h (i + 1) a b (by simpa using ha) (by simpa using hb)⟩
def vgood (l : Lv) (j : Nat) (v : Int × Int) : Prop := varB v = true ∧ (∀ u, 0 < j → l.vs[j - 1]? = some u → u.1 < v.1) ∧ (l.c ≤ 0 ∨ v.2 < l.c)
theorem valid_iff (l : Lv) : validB l = true ↔ 0 ≤ l.c ∧ l.c ≤ 100 ∧ ∀ (j : Nat) (v : Int × Int), l.vs[j]? = some v → vgood l j v := by
 simp only [validB, Bool.and_eq_true, Bool.or_eq_true, decide_eq_true_eq, List.all_eq_true, asc_iff]
 constructor
 ·rintro ⟨⟨⟨⟨h1, h2⟩, h3⟩, h4⟩, h5⟩
  refine ⟨h1, h2, fun j v hv => ⟨h3 v (List.mem_of_getElem? hv), fun u hj hu => h4 (j - 1) u v hu (by rw [show j - 1 + 1 = j by omega]; exact hv), ?_⟩⟩
  rcases h5 with h5 | h5
  ·exact .inl h5
  ·exact .inr (h5 v (List.mem_of_getElem? hv))
 ·rintro ⟨h1, h2, h3⟩
  refine ⟨⟨⟨⟨h1, h2⟩, fun v hv => ?_⟩, fun i a b ha hb => (h3 (i + 1) b hb).2.1 a (by omega) (by simpa using ha)⟩, ?_⟩
  ·obtain ⟨j, hj⟩ := List.mem_iff_getElem?.1 hv
   exact (h3 j v hj).1
  ·by_cases hc : l.c ≤ 0
   ·exact .inl hc
   ·refine .inr fun v hv => ?_
    obtain ⟨j, hj⟩ := List.mem_iff_getElem?.1 hv
    rcases (h3 j v hj).2.2 with h | h
    ·exact absurd h hc
    ·exact h
theorem valid_bad {l : Lv} {j : Nat} {v : Int × Int} (h : l.vs[j]? = some v) (hb : ¬ vgood l j v) : validB l = false := by
 cases hv : validB l with
 | false => rfl
 | true => exact absurd (((valid_iff l).1 hv).2.2 j v h) hb
theorem rvalid_ret {l : Lv} {a : AV} (h : l.Is a) : Out md pfs 94 [a] (· = .bool (validB l)) fun _ => False := by
 obtain ⟨t, al, rfl, g1, g2, g3, g4⟩ := h
 have hl1 := g4.len
 refine out_of pf94_is (Nat.le_of_ble_eq_true rfl) ?_
 cases b1 : decide (l.c < 0)
 case true =>
  simp only [pf94, ↓wpre, wall, simprocAttr, b1]
  cases hv : validB l with
  | false => rfl
  | true => have := ((valid_iff l).1 hv).1; simp only [decide_eq_true_eq] at b1; omega
 cases b2 : decide (l.c > 100)
 case true =>
  simp only [pf94, ↓wpre, wall, simprocAttr, b1, b2]
  cases hv : validB l with
  | false => rfl
  | true => have := ((valid_iff l).1 hv).2.1; simp only [decide_eq_true_eq] at b2; omega
 simp only [decide_eq_false_iff_not] at b1 b2
 have b1' : decide (l.c < 0) = false := by simpa using b1
 have b2' : decide (l.c > 100) = false := by simpa using b2
 simp only [pf94, ↓wpre, wall, simprocAttr, b1', b2']
 refine W_loopE (fun j => al.length - j) (fun j E H T => (∃ G, H = .cells false [.int l.c, .sl al t] :: G) ∧ E 1 = .ptr 0 0 ∧ E 3 = .int (j : Nat) ∧ j ≤ al.length ∧ ∀ i v, i < j → l.vs[i]? = some v → vgood l i v) ?_ 0 ⟨⟨[], rfl⟩, rfl, rfl, Nat.zero_le _, fun i v h => by omega⟩
 rintro j E H T ⟨⟨G, rfl⟩, e1, e3, hj, hgood⟩
 rcases Nat.lt_or_ge j al.length with hlt | hge
 ·have hdec : decide ((j : Int) < al.length) = true := by simpa using hlt
  obtain ⟨x, c1, d0, d1, d3, d4, d5, d6, d7, ⟨d8, hx1, hx2⟩⟩ := g4.get varAgg hlt
  cases d8
  have hall := g4.all varAgg
  have bad : ¬ vgood l j x → AV.v (.bool false) = .bool (validB l) := fun hb => by rw [valid_bad d0 hb]
  cases c1 : decide (x.1 < -65536)
  case true =>
   simp only [↓wpre, wall, simprocAttr, List.length_append, List.append_assoc, app_get_len, app_get_add, app_set_len, app_set_add, e1, e3, hdec, d4, hall, c1]
   exact bad fun hg => by have := hg.1; simp only [varB, Bool.and_eq_true, decide_eq_true_eq] at this c1; omega
  cases c2 : decide (x.1 ≥ 8)
  case true =>
   simp only [↓wpre, wall, simprocAttr, List.length_append, List.append_assoc, app_get_len, app_get_add, app_set_len, app_set_add, e1, e3, hdec, d4, hall, c1, c2]
   exact bad fun hg => by have := hg.1; simp only [varB, Bool.and_eq_true, decide_eq_true_eq] at this c2; omega
  cases c3 : decide (x.2 < 0)
  case true =>
   simp only [↓wpre, wall, simprocAttr, List.length_append, List.append_assoc, app_get_len, app_get_add, app_set_len, app_set_add, e1, e3, hdec, d4, hall, c1, c2, c3]
   exact bad fun hg => by have := hg.1; simp only [varB, Bool.and_eq_true, decide_eq_true_eq] at this c3; omega
  cases c4 : decide (x.2 > 100)
  case true =>
   simp only [↓wpre, wall, simprocAttr, List.length_append, List.append_assoc, app_get_len, app_get_add, app_set_len, app_set_add, e1, e3, hdec, d4, hall, c1, c2, c3, c4]
   exact bad fun hg => by have := hg.1; simp only [varB, Bool.and_eq_true, decide_eq_true_eq] at this c4; omega
  have hvar : varB x = true := by
   simp only [decide_eq_false_iff_not] at c1 c2 c3 c4
   simp only [varB, Bool.and_eq_true, decide_eq_true_eq]; omega
  have hnext : vgood l j x → ∀ i v, i < j + 1 → l.vs[i]? = some v → vgood l i v := fun hg i v hi hv => by
   rcases Nat.lt_or_ge i j with h | h
   ·exact hgood i v h hv
   ·have : i = j := by omega
    subst this; rw [d0] at hv; cases hv; exact hg
  rcases Nat.eq_zero_or_pos j with hj0 | hj0
  ·have c5 : decide ((j : Int) > 0) = false := by simp; omega
   cases c7 : decide (l.c > 0)
   ·simp only [↓wpre, wall, simprocAttr, List.length_append, List.append_assoc, app_get_len, app_get_add, app_set_len, app_set_add, e1, e3, hdec, d4, hall, c1, c2, c3, c4, c5, c7]
    exact EQ_in ⟨j + 1, by omega, ⟨_, rfl⟩, e1, next_ixv (by unfold lenB at *; omega), by omega, hnext ⟨hvar, fun u h => by omega, .inl (by simp only [decide_eq_false_iff_not] at c7; omega)⟩⟩
   ·cases c8 : decide (x.2 ≥ l.c)
    ·simp only [↓wpre, wall, simprocAttr, List.length_append, List.append_assoc, app_get_len, app_get_add, app_set_len, app_set_add, e1, e3, hdec, d4, hall, c1, c2, c3, c4, c5, c7, c8]
     exact EQ_in ⟨j + 1, by omega, ⟨_, rfl⟩, e1, next_ixv (by unfold lenB at *; omega), by omega, hnext ⟨hvar, fun u h => by omega, .inr (by simp only [decide_eq_false_iff_not] at c8; omega)⟩⟩
    ·simp only [↓wpre, wall, simprocAttr, List.length_append, List.append_assoc, app_get_len, app_get_add, app_set_len, app_set_add, e1, e3, hdec, d4, hall, c1, c2, c3, c4, c5, c7, c8]
     exact bad fun hg => by have := hg.2.2; simp only [decide_eq_true_eq] at c7 c8; omega
  ·have c5 : decide ((j : Int) > 0) = true := by simp; omega
   have hsub : IntKind.i64.wrap ((j : Int) - 1) = ((j - 1 : Nat) : Int) := by rw [wrap_in (by unfold in64; unfold lenB at g3; omega)]; omega
   obtain ⟨y, c2', f0, f1, f3, f4, f5, f6, f7, ⟨f8, hy1, hy2⟩⟩ := g4.get varAgg (i := j - 1) (by omega)
   cases f8
   cases c6 : decide (y.1 ≥ x.1)
   case true =>
    simp only [↓wpre, wall, simprocAttr, List.length_append, List.append_assoc, app_get_len, app_get_add, app_set_len, app_set_add, e1, e3, hdec, d4, f4, hsub, hall, c1, c2, c3, c4, c5, c6]
    exact bad fun hg => by have := hg.2.1 y hj0 f0; simp only [decide_eq_true_eq] at c6; omega
   have hasc : ∀ u, 0 < j → l.vs[j - 1]? = some u → u.1 < x.1 := fun u _ hu => by
    rw [f0] at hu; cases hu
    simp only [decide_eq_false_iff_not] at c6; omega
   cases c7 : decide (l.c > 0)
   ·simp only [↓wpre, wall, simprocAttr, List.length_append, List.append_assoc, app_get_len, app_get_add, app_set_len, app_set_add, e1, e3, hdec, d4, f4, hsub, hall, c1, c2, c3, c4, c5, c6, c7]
    exact EQ_in ⟨j + 1, by omega, ⟨_, rfl⟩, e1, next_ixv (by unfold lenB at *; omega), by omega, hnext ⟨hvar, hasc, .inl (by simp only [decide_eq_false_iff_not] at c7; omega)⟩⟩
   ·cases c8 : decide (x.2 ≥ l.c)
    ·simp only [↓wpre, wall, simprocAttr, List.length_append, List.append_assoc, app_get_len, app_get_add, app_set_len, app_set_add, e1, e3, hdec, d4, f4, hsub, hall, c1, c2, c3, c4, c5, c6, c7, c8]
     exact EQ_in ⟨j + 1, by omega, ⟨_, rfl⟩, e1, next_ixv (by unfold lenB at *; omega), by omega, hnext ⟨hvar, hasc, .inr (by simp only [decide_eq_false_iff_not] at c8; omega)⟩⟩
    ·simp only [↓wpre, wall, simprocAttr, List.length_append, List.append_assoc, app_get_len, app_get_add, app_set_len, app_set_add, e1, e3, hdec, d4, f4, hsub, hall, c1, c2, c3, c4, c5, c6, c7, c8]
     exact bad fun hg => by have := hg.2.2; simp only [decide_eq_true_eq] at c7 c8; omega
 ·have hdec : decide ((j : Int) < al.length) = false := by simpa using hge
  simp only [↓wpre, wall, simprocAttr, List.length_append, List.append_assoc, app_get_len, app_get_add, app_set_len, app_set_add, e1, e3, hdec]
  have : validB l = true := (valid_iff l).2 ⟨by omega, by omega, fun i v hv => hgood i v (by have := (List.getElem?_eq_some_iff.1 hv).1; omega) hv⟩
  rw [this]
theorem covered1_ret {v : Int × Int} {a : AV} (h : varIs v a) {l : Lv} {c : List AV} (hl : l.Is (.agg c)) (fz : Nat) : Out md pfs 97 [a, .ip c 0] (· = .bool (decide (v.2 ≥ l.c))) fun _ => False := by
 obtain ⟨rfl, _, _⟩ := h
 obtain ⟨t, al, e, _⟩ := hl
 cases e
 refine out_of pf97_is (Nat.le_of_ble_eq_true rfl) ?_
 simp only [pf97, ↓wpre, wall, simprocAttr]
theorem covered_ret {l : Lv} {a : AV} (h : l.Is a) : Out md pfs 83 [a] (· = .bool (l.vs.any fun v => decide (v.2 ≥ l.c))) fun _ => False := by
 have h0 := h
 obtain ⟨t, al, rfl, g1, g2, g3, g4⟩ := h
 have hpu := lvPure h0
 have hal := g4.pure fun _ _ h => varPure h
 have hcap : pureAVs [AV.ip [.int l.c, .sl al t] 0] = true := by rw [pv_agg] at hpu; simp [pvs_cons, pvs_nil, pv_ip, hpu]
 have hix := index2_ret varAgg 97 [.ip [.int l.c, .sl al t] 0] rfl hcap (fun v => decide (v.2 ≥ l.c)) (t := t) g4 g3 (fun x _ a hx => covered1_ret hx h0 0)
 have hco : Out md pfs 96 [.sl al t, .fn 97 [.ip [.int l.c, .sl al t] 0]] (· = .bool (l.vs.any fun v => decide (v.2 ≥ l.c))) fun _ => False := by
  obtain ⟨_, ⟨r, rfl, hr⟩, hc⟩ := hix.call rfl (by simp [pvs_cons, pvs_nil, pv_sl, pv_fn, g1, hal, hcap])
  have hd : decide (r ≥ 0) = l.vs.any fun v => decide (v.2 ≥ l.c) := by
   rcases hr with ⟨rfl, h2⟩ | ⟨j, x, rfl, h2, h3, _⟩
   ·rw [h2]; rfl
   ·have : (l.vs.any fun v => decide (v.2 ≥ l.c)) = true := List.any_eq_true.2 ⟨x, List.mem_of_getElem? h2, h3⟩
    rw [this]; simp
  refine out_of pf96_is (Nat.le_of_ble_eq_true rfl) ?_
  simp only [pf96, ↓wpre, wall, simprocAttr, hc, hd]
 obtain ⟨_, rfl, hc⟩ := hco.callP rfl (s := ⟨[.cells false [.int l.c, .sl al t]], []⟩) (args := [.sl al t, .fn 97 [.ptr 0 0]]) (by
  have hpsl : pureAV (.sl al t) = true := by rw [pv_sl, g1, hal]; rfl
  simp only [mapO, purify20 hpsl, pz_fn, pz_ptr, List.getElem?_cons_zero, List.length_cons, List.length_nil, Nat.zero_le, if_true, purify_pure (n := 17) pv_v, purify_pure (n := 17) hpsl, Option.map_some])
 refine out_of pf83_is (Nat.le_of_ble_eq_true rfl) ?_
 simp only [pf83, ↓wpre, wall, simprocAttr, hc]
theorem valid_ret {l : Lv} {a : AV} (h : l.Is a) : Out md pfs 66 [a] (· = .bool (validB l)) fun _ => False := by
 obtain ⟨_, rfl, cc⟩ := (covered_ret h).call rfl (by simp [pvs_cons, pvs_nil, lvPure h])
 obtain ⟨t, al, rfl, g1, g2, g3, g4⟩ := h
 have hl1 := g4.len
 refine out_of pf66_is (Nat.le_of_ble_eq_true rfl) ?_
 cases b1 : decide (l.c < 0)
 case true =>
  simp only [pf66, ↓wpre, wall, simprocAttr, b1]
  cases hv : validB l with
  | false => rfl
  | true => have := ((valid_iff l).1 hv).1; simp only [decide_eq_true_eq] at b1; omega
 cases b2 : decide (l.c > 100)
 case true =>
  simp only [pf66, ↓wpre, wall, simprocAttr, b1, b2]
  cases hv : validB l with
  | false => rfl
  | true => have := ((valid_iff l).1 hv).2.1; simp only [decide_eq_true_eq] at b2; omega
 have b1p : ¬ l.c < 0 := by simpa using b1
 have b2p : ¬ l.c > 100 := by simpa using b2
 cases b3 : decide (l.c > 0)
 case false =>
  have hcov : ∀ v ∈ l.vs, l.c ≤ 0 ∨ v.2 < l.c := fun v _ => .inl (by simp only [decide_eq_false_iff_not] at b3; omega)
  simp only [pf66, ↓wpre, wall, simprocAttr, b1, b2, b3]
  refine W_loopE (fun j => al.length - j) (fun j E H T => (∃ G, H = .cells false [.int l.c, .sl al t] :: G) ∧ E 1 = .ptr 0 0 ∧ E 23 = .sl al t ∧ E 24 = .int al.length ∧ E 25 = .int (j : Nat) ∧ j ≤ al.length ∧ ∀ i v, i < j → l.vs[i]? = some v → vgood l i v) ?_ 0 ⟨⟨[], rfl⟩, rfl, rfl, rfl, rfl, Nat.zero_le _, fun i v h => by omega⟩
  rintro j E H T ⟨⟨G, rfl⟩, e1, e23, e24, e25, hj, hgood⟩
  rcases Nat.lt_or_ge j al.length with hlt | hge
  ·have hdec : decide ((j : Int) < al.length) = true := by simpa using hlt
   obtain ⟨x, c1, d0, d1, d3, d4, d5, d6, d7, ⟨d8, hx1, hx2⟩⟩ := g4.get varAgg hlt
   cases d8
   have hall := g4.all varAgg
   have bad : ¬ vgood l j x → AV.v (.bool false) = .bool (validB l) := fun hb => by rw [valid_bad d0 hb]
   cases c1 : decide (x.1 < -65536)
   case true =>
    simp only [↓wpre, wall, simprocAttr, List.length_append, List.append_assoc, app_get_len, app_get_add, app_set_len, app_set_add, e1, e23, e24, e25, hdec, d4, hall, c1]
    exact bad fun hg => by have := hg.1; simp only [varB, Bool.and_eq_true, decide_eq_true_eq] at this c1; omega
   cases c2 : decide (x.1 > 7)
   case true =>
    simp only [↓wpre, wall, simprocAttr, List.length_append, List.append_assoc, app_get_len, app_get_add, app_set_len, app_set_add, e1, e23, e24, e25, hdec, d4, hall, c1, c2]
    exact bad fun hg => by have := hg.1; simp only [varB, Bool.and_eq_true, decide_eq_true_eq] at this c2; omega
   cases c3 : decide (x.2 < 0)
   case true =>
    simp only [↓wpre, wall, simprocAttr, List.length_append, List.append_assoc, app_get_len, app_get_add, app_set_len, app_set_add, e1, e23, e24, e25, hdec, d4, hall, c1, c2, c3]
    exact bad fun hg => by have := hg.1; simp only [varB, Bool.and_eq_true, decide_eq_true_eq] at this c3; omega
   cases c4 : decide (x.2 > 100)
   case true =>
    simp only [↓wpre, wall, simprocAttr, List.length_append, List.append_assoc, app_get_len, app_get_add, app_set_len, app_set_add, e1, e23, e24, e25, hdec, d4, hall, c1, c2, c3, c4]
    exact bad fun hg => by have := hg.1; simp only [varB, Bool.and_eq_true, decide_eq_true_eq] at this c4; omega
   have hvar : varB x = true := by
    simp only [decide_eq_false_iff_not] at c1 c2 c3 c4
    simp only [varB, Bool.and_eq_true, decide_eq_true_eq]; omega
   have hnext : vgood l j x → ∀ i v, i < j + 1 → l.vs[i]? = some v → vgood l i v := fun hg i v hi hv => by
    rcases Nat.lt_or_ge i j with h | h
    ·exact hgood i v h hv
    ·have : i = j := by omega
     subst this; rw [d0] at hv; cases hv; exact hg
   rcases Nat.eq_zero_or_pos j with hj0 | hj0
   ·have c5 : decide ((j : Int) > 0) = false := by simp; omega
    simp only [↓wpre, wall, simprocAttr, List.length_append, List.append_assoc, app_get_len, app_get_add, app_set_len, app_set_add, e1, e23, e24, e25, hdec, d4, hall, c1, c2, c3, c4, c5]
    exact EQ_in ⟨j + 1, by omega, ⟨_, rfl⟩, e1, e23, e24, next_ixv (by unfold lenB at *; omega), by omega, hnext ⟨hvar, fun u h => by omega, hcov x d3⟩⟩
   ·have c5 : decide ((j : Int) > 0) = true := by simp; omega
    have hsub : IntKind.i64.wrap ((j : Int) - 1) = ((j - 1 : Nat) : Int) := by rw [wrap_in (by unfold in64; unfold lenB at g3; omega)]; omega
    obtain ⟨y, c2', f0, f1, f3, f4, f5, f6, f7, ⟨f8, hy1, hy2⟩⟩ := g4.get varAgg (i := j - 1) (by omega)
    cases f8
    cases c6 : decide (y.1 ≥ x.1)
    case true =>
     simp only [↓wpre, wall, simprocAttr, List.length_append, List.append_assoc, app_get_len, app_get_add, app_set_len, app_set_add, e1, e23, e24, e25, hdec, d4, f4, hsub, hall, c1, c2, c3, c4, c5, c6]
     exact bad fun hg => by have := hg.2.1 y hj0 f0; simp only [decide_eq_true_eq] at c6; omega
    have hasc : ∀ u, 0 < j → l.vs[j - 1]? = some u → u.1 < x.1 := fun u _ hu => by
     rw [f0] at hu; cases hu
     simp only [decide_eq_false_iff_not] at c6; omega
    simp only [↓wpre, wall, simprocAttr, List.length_append, List.append_assoc, app_get_len, app_get_add, app_set_len, app_set_add, e1, e23, e24, e25, hdec, d4, f4, hsub, hall, c1, c2, c3, c4, c5, c6]
    exact EQ_in ⟨j + 1, by omega, ⟨_, rfl⟩, e1, e23, e24, next_ixv (by unfold lenB at *; omega), by omega, hnext ⟨hvar, hasc, hcov x d3⟩⟩
  ·have hdec : decide ((j : Int) < al.length) = false := by simpa using hge
   simp only [↓wpre, wall, simprocAttr, List.length_append, List.append_assoc, app_get_len, app_get_add, app_set_len, app_set_add, e1, e23, e24, e25, hdec]
   have : validB l = true := (valid_iff l).2 ⟨by omega, by omega, fun i v hv => hgood i v (by have := (List.getElem?_eq_some_iff.1 hv).1; omega) hv⟩
   rw [this]
 case true =>
  cases b4 : l.vs.any fun v => decide (v.2 ≥ l.c)
  case true =>
   simp only [pf66, ↓wpre, wall, simprocAttr, b1, b2, b3, cc, b4]
   obtain ⟨v, hv, hb⟩ := List.any_eq_true.1 b4
   obtain ⟨j, hj⟩ := List.mem_iff_getElem?.1 hv
   rw [valid_bad hj fun hg => by have := hg.2.2; simp only [decide_eq_true_eq] at b3 hb; omega]
  have hcov : ∀ v ∈ l.vs, l.c ≤ 0 ∨ v.2 < l.c := fun v hv => .inr (by
   have := List.any_eq_false.1 b4 v hv
   simp only [decide_eq_true_eq] at this; omega)
  simp only [pf66, ↓wpre, wall, simprocAttr, b1, b2, b3, cc, b4]
  refine W_loopE (fun j => al.length - j) (fun j E H T => (∃ G, H = .cells false [.int l.c, .sl al t] :: G) ∧ E 1 = .ptr 0 0 ∧ E 23 = .sl al t ∧ E 24 = .int al.length ∧ E 25 = .int (j : Nat) ∧ j ≤ al.length ∧ ∀ i v, i < j → l.vs[i]? = some v → vgood l i v) ?_ 0 ⟨⟨[], rfl⟩, rfl, rfl, rfl, rfl, Nat.zero_le _, fun i v h => by omega⟩
  rintro j E H T ⟨⟨G, rfl⟩, e1, e23, e24, e25, hj, hgood⟩
  rcases Nat.lt_or_ge j al.length with hlt | hge
  ·have hdec : decide ((j : Int) < al.length) = true := by simpa using hlt
   obtain ⟨x, c1, d0, d1, d3, d4, d5, d6, d7, ⟨d8, hx1, hx2⟩⟩ := g4.get varAgg hlt
   cases d8
   have hall := g4.all varAgg
   have bad : ¬ vgood l j x → AV.v (.bool false) = .bool (validB l) := fun hb => by rw [valid_bad d0 hb]
   cases c1 : decide (x.1 < -65536)
   case true =>
    simp only [↓wpre, wall, simprocAttr, List.length_append, List.append_assoc, app_get_len, app_get_add, app_set_len, app_set_add, e1, e23, e24, e25, hdec, d4, hall, c1]
    exact bad fun hg => by have := hg.1; simp only [varB, Bool.and_eq_true, decide_eq_true_eq] at this c1; omega
   cases c2 : decide (x.1 > 7)
   case true =>
    simp only [↓wpre, wall, simprocAttr, List.length_append, List.append_assoc, app_get_len, app_get_add, app_set_len, app_set_add, e1, e23, e24, e25, hdec, d4, hall, c1, c2]
    exact bad fun hg => by have := hg.1; simp only [varB, Bool.and_eq_true, decide_eq_true_eq] at this c2; omega
   cases c3 : decide (x.2 < 0)
   case true =>
    simp only [↓wpre, wall, simprocAttr, List.length_append, List.append_assoc, app_get_len, app_get_add, app_set_len, app_set_add, e1, e23, e24, e25, hdec, d4, hall, c1, c2, c3]
    exact bad fun hg => by have := hg.1; simp only [varB, Bool.and_eq_true, decide_eq_true_eq] at this c3; omega
   cases c4 : decide (x.2 > 100)
   case true =>
    simp only [↓wpre, wall, simprocAttr, List.length_append, List.append_assoc, app_get_len, app_get_add, app_set_len, app_set_add, e1, e23, e24, e25, hdec, d4, hall, c1, c2, c3, c4]
    exact bad fun hg => by have := hg.1; simp only [varB, Bool.and_eq_true, decide_eq_true_eq] at this c4; omega
   have hvar : varB x = true := by
    simp only [decide_eq_false_iff_not] at c1 c2 c3 c4
    simp only [varB, Bool.and_eq_true, decide_eq_true_eq]; omega
   have hnext : vgood l j x → ∀ i v, i < j + 1 → l.vs[i]? = some v → vgood l i v := fun hg i v hi hv => by
    rcases Nat.lt_or_ge i j with h | h
    ·exact hgood i v h hv
    ·have : i = j := by omega
     subst this; rw [d0] at hv; cases hv; exact hg
   rcases Nat.eq_zero_or_pos j with hj0 | hj0
   ·have c5 : decide ((j : Int) > 0) = false := by simp; omega
    simp only [↓wpre, wall, simprocAttr, List.length_append, List.append_assoc, app_get_len, app_get_add, app_set_len, app_set_add, e1, e23, e24, e25, hdec, d4, hall, c1, c2, c3, c4, c5]
    exact EQ_in ⟨j + 1, by omega, ⟨_, rfl⟩, e1, e23, e24, next_ixv (by unfold lenB at *; omega), by omega, hnext ⟨hvar, fun u h => by omega, hcov x d3⟩⟩
   ·have c5 : decide ((j : Int) > 0) = true := by simp; omega
    have hsub : IntKind.i64.wrap ((j : Int) - 1) = ((j - 1 : Nat) : Int) := by rw [wrap_in (by unfold in64; unfold lenB at g3; omega)]; omega
    obtain ⟨y, c2', f0, f1, f3, f4, f5, f6, f7, ⟨f8, hy1, hy2⟩⟩ := g4.get varAgg (i := j - 1) (by omega)
    cases f8
    cases c6 : decide (y.1 ≥ x.1)
    case true =>
     simp only [↓wpre, wall, simprocAttr, List.length_append, List.append_assoc, app_get_len, app_get_add, app_set_len, app_set_add, e1, e23, e24, e25, hdec, d4, f4, hsub, hall, c1, c2, c3, c4, c5, c6]
     exact bad fun hg => by have := hg.2.1 y hj0 f0; simp only [decide_eq_true_eq] at c6; omega
    have hasc : ∀ u, 0 < j → l.vs[j - 1]? = some u → u.1 < x.1 := fun u _ hu => by
     rw [f0] at hu; cases hu
     simp only [decide_eq_false_iff_not] at c6; omega
    simp only [↓wpre, wall, simprocAttr, List.length_append, List.append_assoc, app_get_len, app_get_add, app_set_len, app_set_add, e1, e23, e24, e25, hdec, d4, f4, hsub, hall, c1, c2, c3, c4, c5, c6]
    exact EQ_in ⟨j + 1, by omega, ⟨_, rfl⟩, e1, e23, e24, next_ixv (by unfold lenB at *; omega), by omega, hnext ⟨hvar, hasc, hcov x d3⟩⟩
  ·have hdec : decide ((j : Int) < al.length) = false := by simpa using hge
   simp only [↓wpre, wall, simprocAttr, List.length_append, List.append_assoc, app_get_len, app_get_add, app_set_len, app_set_add, e1, e23, e24, e25, hdec]
   have : validB l = true := (valid_iff l).2 ⟨by omega, by omega, fun i v hv => hgood i v (by have := (List.getElem?_eq_some_iff.1 hv).1; omega) hv⟩
   rw [this]
theorem keq0 : ((0 : Int) == 0) = true ∧ ((0 : Int) == 1) = false ∧ ((0 : Int) == 2) = false ∧ ((0 : Int) == 3) = false ∧ ((0 : Int) == 4) = false ∧ ((0 : Int) == 5) = false ∧ ((0 : Int) == 6) = false ∧ ((0 : Int) == 7) = false ∧ ((0 : Int) == 8) = false ∧ ((0 : Int) == 9) = false ∧ ((0 : Int) == 10) = false ∧ ((0 : Int) == 11) = false ∧ ((0 : Int) == 12) = false := by decide
theorem keq1 : ((1 : Int) == 0) = false ∧ ((1 : Int) == 1) = true ∧ ((1 : Int) == 2) = false ∧ ((1 : Int) == 3) = false ∧ ((1 : Int) == 4) = false ∧ ((1 : Int) == 5) = false ∧ ((1 : Int) == 6) = false ∧ ((1 : Int) == 7) = false ∧ ((1 : Int) == 8) = false ∧ ((1 : Int) == 9) = false ∧ ((1 : Int) == 10) = false ∧ ((1 : Int) == 11) = false ∧ ((1 : Int) == 12) = false := by decide
theorem keq2 : ((2 : Int) == 0) = false ∧ ((2 : Int) == 1) = false ∧ ((2 : Int) == 2) = true ∧ ((2 : Int) == 3) = false ∧ ((2 : Int) == 4) = false ∧ ((2 : Int) == 5) = false ∧ ((2 : Int) == 6) = false ∧ ((2 : Int) == 7) = false ∧ ((2 : Int) == 8) = false ∧ ((2 : Int) == 9) = false ∧ ((2 : Int) == 10) = false ∧ ((2 : Int) == 11) = false ∧ ((2 : Int) == 12) = false := by decide
theorem keq3 : ((3 : Int) == 0) = false ∧ ((3 : Int) == 1) = false ∧ ((3 : Int) == 2) = false ∧ ((3 : Int) == 3) = true ∧ ((3 : Int) == 4) = false ∧ ((3 : Int) == 5) = false ∧ ((3 : Int) == 6) = false ∧ ((3 : Int) == 7) = false ∧ ((3 : Int) == 8) = false ∧ ((3 : Int) == 9) = false ∧ ((3 : Int) == 10) = false ∧ ((3 : Int) == 11) = false ∧ ((3 : Int) == 12) = false := by decide
theorem keq4 : ((4 : Int) == 0) = false ∧ ((4 : Int) == 1) = false ∧ ((4 : Int) == 2) = false ∧ ((4 : Int) == 3) = false ∧ ((4 : Int) == 4) = true ∧ ((4 : Int) == 5) = false ∧ ((4 : Int) == 6) = false ∧ ((4 : Int) == 7) = false ∧ ((4 : Int) == 8) = false ∧ ((4 : Int) == 9) = false ∧ ((4 : Int) == 10) = false ∧ ((4 : Int) == 11) = false ∧ ((4 : Int) == 12) = false := by decide
theorem keq5 : ((5 : Int) == 0) = false ∧ ((5 : Int) == 1) = false ∧ ((5 : Int) == 2) = false ∧ ((5 : Int) == 3) = false ∧ ((5 : Int) == 4) = false ∧ ((5 : Int) == 5) = true ∧ ((5 : Int) == 6) = false ∧ ((5 : Int) == 7) = false ∧ ((5 : Int) == 8) = false ∧ ((5 : Int) == 9) = false ∧ ((5 : Int) == 10) = false ∧ ((5 : Int) == 11) = false ∧ ((5 : Int) == 12) = false := by decide
theorem keq6 : ((6 : Int) == 0) = false ∧ ((6 : Int) == 1) = false ∧ ((6 : Int) == 2) = false ∧ ((6 : Int) == 3) = false ∧ ((6 : Int) == 4) = false ∧ ((6 : Int) == 5) = false ∧ ((6 : Int) == 6) = true ∧ ((6 : Int) == 7) = false ∧ ((6 : Int) == 8) = false ∧ ((6 : Int) == 9) = false ∧ ((6 : Int) == 10) = false ∧ ((6 : Int) == 11) = false ∧ ((6 : Int) == 12) = false := by decide
theorem keq7 : ((7 : Int) == 0) = false ∧ ((7 : Int) == 1) = false ∧ ((7 : Int) == 2) = false ∧ ((7 : Int) == 3) = false ∧ ((7 : Int) == 4) = false ∧ ((7 : Int) == 5) = false ∧ ((7 : Int) == 6) = false ∧ ((7 : Int) == 7) = true ∧ ((7 : Int) == 8) = false ∧ ((7 : Int) == 9) = false ∧ ((7 : Int) == 10) = false ∧ ((7 : Int) == 11) = false ∧ ((7 : Int) == 12) = false := by decide
theorem keq8 : ((8 : Int) == 0) = false ∧ ((8 : Int) == 1) = false ∧ ((8 : Int) == 2) = false ∧ ((8 : Int) == 3) = false ∧ ((8 : Int) == 4) = false ∧ ((8 : Int) == 5) = false ∧ ((8 : Int) == 6) = false ∧ ((8 : Int) == 7) = false ∧ ((8 : Int) == 8) = true ∧ ((8 : Int) == 9) = false ∧ ((8 : Int) == 10) = false ∧ ((8 : Int) == 11) = false ∧ ((8 : Int) == 12) = false := by decide
theorem keq9 : ((9 : Int) == 0) = false ∧ ((9 : Int) == 1) = false ∧ ((9 : Int) == 2) = false ∧ ((9 : Int) == 3) = false ∧ ((9 : Int) == 4) = false ∧ ((9 : Int) == 5) = false ∧ ((9 : Int) == 6) = false ∧ ((9 : Int) == 7) = false ∧ ((9 : Int) == 8) = false ∧ ((9 : Int) == 9) = true ∧ ((9 : Int) == 10) = false ∧ ((9 : Int) == 11) = false ∧ ((9 : Int) == 12) = false := by decide
theorem keq10 : ((10 : Int) == 0) = false ∧ ((10 : Int) == 1) = false ∧ ((10 : Int) == 2) = false ∧ ((10 : Int) == 3) = false ∧ ((10 : Int) == 4) = false ∧ ((10 : Int) == 5) = false ∧ ((10 : Int) == 6) = false ∧ ((10 : Int) == 7) = false ∧ ((10 : Int) == 8) = false ∧ ((10 : Int) == 9) = false ∧ ((10 : Int) == 10) = true ∧ ((10 : Int) == 11) = false ∧ ((10 : Int) == 12) = false := by decide
theorem keq11 : ((11 : Int) == 0) = false ∧ ((11 : Int) == 1) = false ∧ ((11 : Int) == 2) = false ∧ ((11 : Int) == 3) = false ∧ ((11 : Int) == 4) = false ∧ ((11 : Int) == 5) = false ∧ ((11 : Int) == 6) = false ∧ ((11 : Int) == 7) = false ∧ ((11 : Int) == 8) = false ∧ ((11 : Int) == 9) = false ∧ ((11 : Int) == 10) = false ∧ ((11 : Int) == 11) = true ∧ ((11 : Int) == 12) = false := by decide
theorem keq12 : ((12 : Int) == 0) = false ∧ ((12 : Int) == 1) = false ∧ ((12 : Int) == 2) = false ∧ ((12 : Int) == 3) = false ∧ ((12 : Int) == 4) = false ∧ ((12 : Int) == 5) = false ∧ ((12 : Int) == 6) = false ∧ ((12 : Int) == 7) = false ∧ ((12 : Int) == 8) = false ∧ ((12 : Int) == 9) = false ∧ ((12 : Int) == 10) = false ∧ ((12 : Int) == 11) = false ∧ ((12 : Int) == 12) = true := by decide
theorem kids_ret (k : Int) : Out md pfs 106 [.int k] (· = .int (kidsN k)) fun _ => False := by
 refine out_of pf106_is (Nat.le_of_ble_eq_true rfl) ?_
 by_cases h0 : k = 0
 ·subst h0
  have eqs := keq0
  simp only [pf106, ↓wpre, wall, simprocAttr, eqs]
  rfl
 by_cases h1 : k = 1
 ·subst h1
  have eqs := keq1
  simp only [pf106, ↓wpre, wall, simprocAttr, eqs]
  rfl
 by_cases h2 : k = 2
 ·subst h2
  have eqs := keq2
  simp only [pf106, ↓wpre, wall, simprocAttr, eqs]
  rfl
 by_cases h3 : k = 3
 ·subst h3
  have eqs := keq3
  simp only [pf106, ↓wpre, wall, simprocAttr, eqs]
  rfl
 by_cases h4 : k = 4
 ·subst h4
  have eqs := keq4
  simp only [pf106, ↓wpre, wall, simprocAttr, eqs]
  rfl
 by_cases h5 : k = 5
 ·subst h5
  have eqs := keq5
  simp only [pf106, ↓wpre, wall, simprocAttr, eqs]
  rfl
 by_cases h6 : k = 6
 ·subst h6
  have eqs := keq6
  simp only [pf106, ↓wpre, wall, simprocAttr, eqs]
  rfl
 by_cases h7 : k = 7
 ·subst h7
  have eqs := keq7
  simp only [pf106, ↓wpre, wall, simprocAttr, eqs]
  rfl
 by_cases h8 : k = 8
 ·subst h8
  have eqs := keq8
  simp only [pf106, ↓wpre, wall, simprocAttr, eqs]
  rfl
 by_cases h9 : k = 9
 ·subst h9
  have eqs := keq9
  simp only [pf106, ↓wpre, wall, simprocAttr, eqs]
  rfl
 by_cases h10 : k = 10
 ·subst h10
  have eqs := keq10
  simp only [pf106, ↓wpre, wall, simprocAttr, eqs]
  rfl
 by_cases h11 : k = 11
 ·subst h11
  have eqs := keq11
  simp only [pf106, ↓wpre, wall, simprocAttr, eqs]
  rfl
 by_cases h12 : k = 12
 ·subst h12
  have eqs := keq12
  simp only [pf106, ↓wpre, wall, simprocAttr, eqs]
  rfl
 have g0 : (k == 0) = false := by simpa using h0
 have g1 : (k == 1) = false := by simpa using h1
 have g2 : (k == 2) = false := by simpa using h2
 have g3 : (k == 3) = false := by simpa using h3
 have g4 : (k == 4) = false := by simpa using h4
 have g5 : (k == 5) = false := by simpa using h5
 have g6 : (k == 6) = false := by simpa using h6
 have g7 : (k == 7) = false := by simpa using h7
 have g8 : (k == 8) = false := by simpa using h8
 have g9 : (k == 9) = false := by simpa using h9
 have g10 : (k == 10) = false := by simpa using h10
 have g11 : (k == 11) = false := by simpa using h11
 have g12 : (k == 12) = false := by simpa using h12
 simp only [pf106, ↓wpre, wall, simprocAttr, g0, g1, g2, g3, g4, g5, g6, g7, g8, g9, g10, g11, g12]
 rw [kidsN, if_neg (by omega), if_neg (by omega), if_neg (by omega), if_neg (by omega)]
theorem rkids_ret (k : Int) : Out md pfs 93 [.int k] (· = .int (kidsN k)) fun _ => False := by
 refine out_of pf93_is (Nat.le_of_ble_eq_true rfl) ?_
 by_cases h0 : k = 0
 ·subst h0
  have eqs := keq0
  simp only [pf93, ↓wpre, wall, simprocAttr, eqs]
  rfl
 by_cases h1 : k = 1
 ·subst h1
  have eqs := keq1
  simp only [pf93, ↓wpre, wall, simprocAttr, eqs]
  rfl
 by_cases h2 : k = 2
 ·subst h2
  have eqs := keq2
  simp only [pf93, ↓wpre, wall, simprocAttr, eqs]
  rfl
 by_cases h3 : k = 3
 ·subst h3
  have eqs := keq3
  simp only [pf93, ↓wpre, wall, simprocAttr, eqs]
  rfl
 by_cases h4 : k = 4
 ·subst h4
  have eqs := keq4
  simp only [pf93, ↓wpre, wall, simprocAttr, eqs]
  rfl
 by_cases h5 : k = 5
 ·subst h5
  have eqs := keq5
  simp only [pf93, ↓wpre, wall, simprocAttr, eqs]
  rfl
 by_cases h6 : k = 6
 ·subst h6
  have eqs := keq6
  simp only [pf93, ↓wpre, wall, simprocAttr, eqs]
  rfl
 by_cases h7 : k = 7
 ·subst h7
  have eqs := keq7
  simp only [pf93, ↓wpre, wall, simprocAttr, eqs]
  rfl
 by_cases h8 : k = 8
 ·subst h8
  have eqs := keq8
  simp only [pf93, ↓wpre, wall, simprocAttr, eqs]
  rfl
 by_cases h9 : k = 9
 ·subst h9
  have eqs := keq9
  simp only [pf93, ↓wpre, wall, simprocAttr, eqs]
  rfl
 by_cases h10 : k = 10
 ·subst h10
  have eqs := keq10
  simp only [pf93, ↓wpre, wall, simprocAttr, eqs]
  rfl
 by_cases h11 : k = 11
 ·subst h11
  have eqs := keq11
  simp only [pf93, ↓wpre, wall, simprocAttr, eqs]
  rfl
 by_cases h12 : k = 12
 ·subst h12
  have eqs := keq12
  simp only [pf93, ↓wpre, wall, simprocAttr, eqs]
  rfl
 have g0 : (k == 0) = false := by simpa using h0
 have g1 : (k == 1) = false := by simpa using h1
 have g2 : (k == 2) = false := by simpa using h2
 have g3 : (k == 3) = false := by simpa using h3
 have g4 : (k == 4) = false := by simpa using h4
 have g5 : (k == 5) = false := by simpa using h5
 have g6 : (k == 6) = false := by simpa using h6
 have g7 : (k == 7) = false := by simpa using h7
 have g8 : (k == 8) = false := by simpa using h8
 have g9 : (k == 9) = false := by simpa using h9
 have g10 : (k == 10) = false := by simpa using h10
 have g11 : (k == 11) = false := by simpa using h11
 have g12 : (k == 12) = false := by simpa using h12
 simp only [pf93, ↓wpre, wall, simprocAttr, g0, g1, g2, g3, g4, g5, g6, g7, g8, g9, g10, g11, g12]
 rw [kidsN, if_neg (by omega), if_neg (by omega), if_neg (by omega), if_neg (by omega)]
theorem indexed_ret (k : Int) : Out md pfs 107 [.int k] (· = .bool (k == 0 || k == 12)) fun _ => False := by
 refine out_of pf107_is (Nat.le_of_ble_eq_true rfl) ?_
 cases h : (k == 0)
 ·simp only [pf107, ↓wpre, wall, simprocAttr, h]
  try rw [Bool.false_or]
 ·simp only [pf107, ↓wpre, wall, simprocAttr, h]
  try rw [Bool.true_or]
end Go.Proofs.Eng
