/- What is compiled in this chapter is bounded by the laws themselves. No conditions. -/
import Derived.Test.YtflfmkkcnphdcaaGreatPf57
set_option linter.all false
set_option linter.deprecated false
set_option linter.unnecessarySimpa false
set_option linter.unusedVariables false
set_option linter.unusedSimpArgs false
set_option linter.defProp false
namespace Go.Proofs.Eng
open Go Go.Proofs
abbrev w64 (n : Int) : Int := IntKind.i64.wrap n
abbrev B62 : Int := 4611686018427387904
inductive Ex where
 | mk (k i : Int) (n : ByteArray) (szs : List Int) (kids : List Ex)
def okIN (i : Int) (n : ByteArray) : Prop := in64 i ∧ n.size ≤ lenB
mutual
def Ex.Is : Ex → AV → Prop
 | .mk k i n szs kids, a => ∃ t1 t2 kas, a = .agg [.int k, .int i, .str n, .sl (ints szs) t1, .sl kas t2] ∧ t1.pure = true ∧ t2.pure = true ∧ okIN i n ∧ szs.length ≤ lenB ∧ kas.length ≤ lenB ∧ Ex.IsL kids kas
def Ex.IsL : List Ex → List AV → Prop
 | [], [] => True
 | e :: es, a :: al => e.Is a ∧ Ex.IsL es al
 | _, _ => False
end
theorem Ex.ind {P : Ex → Prop} (h : ∀ k i n s kids, (∀ x ∈ kids, P x) → P (.mk k i n s kids)) (e : Ex) : P e := by
 have key : ∀ n e, SizeOf.sizeOf e ≤ n → P e := by
  intro n
  induction n with
  | zero => intro e he; cases e; simp at he
  | succ n ih =>
   intro e he
   cases e with
   | mk k i nm s kids =>
    refine h k i nm s kids fun x hx => ih x ?_
    have := List.sizeOf_lt_of_mem hx
    simp at he
    omega
 exact key _ e (Nat.le_refl _)
theorem isL_iff : ∀ {l : List Ex} {al : List AV}, Ex.IsL l al ↔ LIs Ex.Is l al
 | [], [] => by simp [Ex.IsL, LIs]
 | e :: es, a :: al => by simp only [Ex.IsL, LIs, isL_iff (l := es)]
 | [], _ :: _ => by simp [Ex.IsL, LIs]
 | _ :: _, [] => by simp [Ex.IsL, LIs]
theorem Ex.Is.mk {k i : Int} {n : ByteArray} {s : List Int} {kids : List Ex} {t1 t2 : Tl} {kas : List AV} (h1 : t1.pure = true) (h2 : t2.pure = true) (h3 : okIN i n) (h4 : s.length ≤ lenB) (h5 : kas.length ≤ lenB) (h6 : LIs Ex.Is kids kas) : (Ex.mk k i n s kids).Is (.agg [.int k, .int i, .str n, .sl (ints s) t1, .sl kas t2]) := by
 simp only [Ex.Is, isL_iff]; exact ⟨t1, t2, kas, rfl, h1, h2, h3, h4, h5, h6⟩
def Ex.k : Ex → Int | .mk k _ _ _ _ => k
def Ex.i : Ex → Int | .mk _ i _ _ _ => i
def Ex.n : Ex → ByteArray | .mk _ _ n _ _ => n
def Ex.s : Ex → List Int | .mk _ _ _ s _ => s
def Ex.kids : Ex → List Ex | .mk _ _ _ _ l => l
def Ex.zero : Ex := .mk 0 0 ⟨#[]⟩ [] []
mutual
def Ex.slim : Ex → Prop
 | .mk _ _ _ _ kids => kids.length ≤ capB ∧ slimL kids
def slimL : List Ex → Prop
 | [] => True
 | e :: es => e.slim ∧ slimL es
end
end Go.Proofs.Eng
namespace Go.Proofs.Eng
open Go Go.Proofs
set_option maxRecDepth 100000
def under (k : Int) (s : List Int) (j : Nat) : Int := if k = 1 ∨ k = 7 ∧ j = 1 then 1 else if k = 4 ∧ 1 ≤ j ∧ j ≤ s.length then (if s.getD (j - 1) 0 > 0 then s.getD (j - 1) 0 else 0) else 0
end Go.Proofs.Eng
namespace Go.Proofs.Eng
open Go Go.Proofs
set_option maxRecDepth 100000
mutual
def Ex.val : Ex → Bool
 | .mk k _ _ _ kids => if k = 1 ∨ k = 6 then true else if k = 3 ∨ k = 8 then valL kids else false
def valL : List Ex → Bool
 | [] => true
 | e :: es => e.val && valL es
end
mutual
def Ex.size : Ex → Int
 | .mk _ _ _ _ kids => Ex.sizes 1 kids
def Ex.sizes : Int → List Ex → Int
 | acc, [] => acc
 | acc, e :: es => Ex.sizes (IntKind.i64.wrap (acc + e.size)) es
end
mutual
def Ex.deep : Ex → Int
 | .mk _ _ _ _ kids => IntKind.i64.wrap (Ex.deeps 0 kids + 1)
def Ex.deeps : Int → List Ex → Int
 | acc, [] => acc
 | acc, e :: es => Ex.deeps (if e.deep > acc then e.deep else acc) es
end
end Go.Proofs.Eng
namespace Go.Proofs.Eng
open Go Go.Proofs
set_option maxRecDepth 100000
def kidsB (m : Int) (s : List Int) (l : Nat) : Bool := (l : Int) == m && s.length == 0
def ctorB (i : Int) (s : List Int) (l : Nat) : Bool := s.length == 0 && decide (i < 32) && decide ((l : Int) ≤ 4096)
def badSize (n : Int) : Bool := decide (n < 0) || decide (n > 64)
def caseB (s : List Int) (l : Nat) : Bool := decide (s.length ≤ 32) && l == s.length + 1 && !s.any badSize
def namedB (k : Int) : Bool := k == 3 || k == 5
section
variable {k i : Int} {n : ByteArray} {s : List Int} {t1 t2 : Tl} {kas : List AV}
end
end Go.Proofs.Eng
namespace Go.Proofs.Eng
open Go Go.Proofs
set_option maxRecDepth 100000
def kn (k : Int) : Int := if k = 1 ∨ k = 9 ∨ k = 10 then 1 else if k = 2 ∨ k = 7 ∨ k = 8 then 2 else 0
def tabB (k i : Int) (s : List Int) (l : Nat) : Bool := if k = 3 then ctorB i s l else if k = 4 then caseB s l else kidsB (kn k) s l
def fmB (k i : Int) (n : ByteArray) (s : List Int) (l : Nat) : Bool := decide (0 ≤ k) && decide (k < 12) && decide (0 ≤ i) && (n.size == 0 || namedB k) && (i == 0 || k == 0 || k == 3) && tabB k i s l
end Go.Proofs.Eng
namespace Go.Proofs.Eng
open Go Go.Proofs
set_option maxRecDepth 100000
abbrev AV.u8 (c : Int) : AV := .v (.int .u8 c)
def letB (c : Int) : Bool := decide (97 ≤ c ∧ c ≤ 122) || decide (65 ≤ c ∧ c ≤ 90) || decide (c = 95)
theorem letter (c : Int) : Out md pfs 131 [.u8 c] (· = .bool (letB c)) fun _ => False := by
 refine out_of pf131_is (Nat.le_of_ble_eq_true rfl) ?_
 cases h1 : decide (c ≥ 97) <;> cases h2 : decide (c ≤ 122) <;> cases h3 : decide (c ≥ 65) <;> cases h4 : decide (c ≤ 90) <;> cases h5 : c == 95
 all_goals
  simp only [pf131, ↓wpre, wall, simprocAttr, h1, h2, h3, h4, h5]
  simp only [decide_eq_false_iff_not, decide_eq_true_eq, beq_iff_eq, beq_eq_false_iff_ne] at h1 h2 h3 h4 h5
  refine boolAV ?_
  simp [letB]
  omega
theorem refLetter (c : Int) : Out md pfs 106 [.u8 c] (· = .bool (letB c)) fun _ => False := by
 refine out_of pf106_is (Nat.le_of_ble_eq_true rfl) ?_
 cases h1 : decide (c ≥ 97) <;> cases h2 : decide (c ≤ 122) <;> cases h3 : decide (c ≥ 65) <;> cases h4 : decide (c ≤ 90) <;> cases h5 : c == 95
 all_goals
  simp only [pf106, ↓wpre, wall, simprocAttr, h1, h2, h3, h4, h5]
  simp only [decide_eq_false_iff_not, decide_eq_true_eq, beq_iff_eq, beq_eq_false_iff_ne] at h1 h2 h3 h4 h5
  refine boolAV ?_
  simp [letB]
  omega
def nameGo : List UInt8 → Bool → Bool
 | [], b => !b
 | c :: cs, b => if letB c.toNat then nameGo cs false else if b then false else if (c.toNat : Int) = 46 then nameGo cs true else if ((c.toNat : Int) < 48 ∨ 57 < (c.toNat : Int)) ∧ (c.toNat : Int) ≠ 39 then false else nameGo cs false
def isName (s : ByteArray) : Bool := nameGo s.toList true && decide (s.size ≤ 64)
theorem name_ret (s : ByteArray) (hs : s.size ≤ lenB) : Out md pfs 86 [.str s] (· = .bool (isName s)) fun _ => False := by
 refine out_of pf86_is (Nat.le_of_ble_eq_true rfl) ?_
 simp only [pf86, ↓wpre, wall, simprocAttr]
 refine W_loopE (fun j => s.size - j) (fun j E H T => ∃ b, E 0 = .str s ∧ E 3 = .bool b ∧ E 7 = .int s.size ∧ E 8 = .int j ∧ j ≤ s.size ∧ nameGo (s.toList.drop j) b = nameGo s.toList true) ?_ 0 ?_
 ·rintro j E H T ⟨b, h0, h3, h7, h8, hj, hn⟩
  rcases Nat.lt_or_ge j s.size with hlt | hge
  ·have hd : decide ((j : Int) < s.size) = true := by simpa using hlt
   have hx : j < s.toList.length := by rw [toList_len]; exact hlt
   have hg : s.toList[j]? = some s.toList[j] := by simp [hx]
   have hc := (letter (s.toList[j].toNat)).call rfl (by simp [pvs_cons, pvs_nil, pv_v])
   rw [List.drop_eq_getElem_cons hx] at hn
   generalize s.toList[j] = c at hn hg hc
   obtain ⟨v, rfl, hc⟩ := hc
   cases hl : letB c.toNat
   ·cases b
    ·cases h46 : ((c.toNat : Int) == 46)
     ·cases h48 : decide ((c.toNat : Int) < 48) <;> cases h57 : decide ((c.toNat : Int) > 57) <;> cases h39 : ((c.toNat : Int) != 39)
      all_goals
       simp only [↓wpre, wall, simprocAttr, h0, h3, h7, h8, hd, hg, Int.natCast_nonneg, hc, hl, h46, h48, h57, h39]
       simp only [decide_eq_false_iff_not, decide_eq_true_eq, beq_iff_eq, beq_eq_false_iff_ne, bne_iff_ne, bne_eq_false_iff_eq] at h46 h48 h57 h39
       first
        | exact EQ_in ⟨j + 1, by omega, false, h0, h3, h7, next_ixv (by omega), by omega, by rw [← hn, nameGo, hl, if_neg (by decide), if_neg (by decide), if_neg h46, if_neg (by omega)]⟩
        | exact boolAV (by rw [isName, ← hn, nameGo, hl, if_neg (by decide), if_neg (by decide), if_neg h46, if_pos (by omega)]; rfl)
     ·simp only [↓wpre, wall, simprocAttr, h0, h3, h7, h8, hd, hg, Int.natCast_nonneg, hc, hl, h46]
      exact EQ_in ⟨j + 1, by omega, true, h0, rfl, h7, next_ixv (by omega), by omega, by rw [← hn, nameGo, hl, if_neg (by decide), if_neg (by decide), if_pos (by simpa using h46)]⟩
    ·simp only [↓wpre, wall, simprocAttr, h0, h3, h7, h8, hd, hg, Int.natCast_nonneg, hc, hl]
     exact boolAV (by rw [isName, ← hn, nameGo, hl]; rfl)
   ·simp only [↓wpre, wall, simprocAttr, h0, h3, h7, h8, hd, hg, Int.natCast_nonneg, hc, hl]
    exact EQ_in ⟨j + 1, by omega, false, h0, rfl, h7, next_ixv (by omega), by omega, by rw [← hn, nameGo]; simp [hl]⟩
  ·have hd : decide ((j : Int) < s.size) = false := by simpa using hge
   rw [List.drop_eq_nil_of_le (by rw [toList_len]; omega)] at hn
   cases b <;> cases h64 : decide ((s.size : Int) ≤ 64)
   all_goals
    simp only [↓wpre, wall, simprocAttr, h0, h3, h7, h8, hd, h64]
    refine boolAV ?_
    rw [isName, ← hn, nameGo]
    simp at h64 ⊢
    try omega
 ·exact ⟨true, rfl, rfl, rfl, rfl, Nat.zero_le _, rfl⟩
theorem refName_ret (s : ByteArray) (hs : s.size ≤ lenB) : Out md pfs 64 [.str s] (· = .bool (isName s)) fun _ => False := by
 refine out_of pf64_is (Nat.le_of_ble_eq_true rfl) ?_
 have he := empty_str (s := s)
 cases h0 : (s.size == 0)
 ·rw [h0] at he
  cases h64 : decide ((s.size : Int) > 64)
  ·simp only [pf64, ↓wpre, wall, simprocAttr, he, h64]
   refine W_loopE (fun j => s.size - j) (fun j E H T => ∃ b, E 0 = .str s ∧ E 3 = .bool b ∧ E 4 = .int j ∧ j ≤ s.size ∧ nameGo (s.toList.drop j) b = nameGo s.toList true) ?_ 0 ?_
   ·rintro j E H T ⟨b, h0, h3, h4, hj, hn⟩
    rcases Nat.lt_or_ge j s.size with hlt | hge
    ·have hd : decide ((j : Int) < s.size) = true := by simpa using hlt
     have hx : j < s.toList.length := by rw [toList_len]; exact hlt
     have hg : s.toList[j]? = some s.toList[j] := by simp [hx]
     have hc := (refLetter (s.toList[j].toNat)).call rfl (by simp [pvs_cons, pvs_nil, pv_v])
     rw [List.drop_eq_getElem_cons hx] at hn
     generalize s.toList[j] = c at hn hg hc
     obtain ⟨v, rfl, hc⟩ := hc
     cases hl : letB c.toNat
     ·cases b
      ·cases h46 : ((c.toNat : Int) == 46)
       ·cases h48 : decide ((c.toNat : Int) < 48) <;> cases h57 : decide ((c.toNat : Int) > 57) <;> cases h39 : ((c.toNat : Int) != 39)
        all_goals
         simp only [↓wpre, wall, simprocAttr, h0, h3, h4, hd, hg, Int.natCast_nonneg, hc, hl, h46, h48, h57, h39]
         simp only [decide_eq_false_iff_not, decide_eq_true_eq, beq_iff_eq, beq_eq_false_iff_ne, bne_iff_ne, bne_eq_false_iff_eq] at h46 h48 h57 h39
         first
          | exact EQ_in ⟨j + 1, by omega, false, h0, h3, next_ixv (by omega), by omega, by rw [← hn, nameGo, hl, if_neg (by decide), if_neg (by decide), if_neg h46, if_neg (by omega)]⟩
          | exact boolAV (by rw [isName, ← hn, nameGo, hl, if_neg (by decide), if_neg (by decide), if_neg h46, if_pos (by omega)]; rfl)
       ·simp only [↓wpre, wall, simprocAttr, h0, h3, h4, hd, hg, Int.natCast_nonneg, hc, hl, h46]
        exact EQ_in ⟨j + 1, by omega, true, h0, rfl, next_ixv (by omega), by omega, by rw [← hn, nameGo, hl, if_neg (by decide), if_neg (by decide), if_pos (by simpa using h46)]⟩
      ·simp only [↓wpre, wall, simprocAttr, h0, h3, h4, hd, hg, Int.natCast_nonneg, hc, hl]
       exact boolAV (by rw [isName, ← hn, nameGo, hl]; rfl)
     ·cases b <;> cases h46 : ((c.toNat : Int) == 46)
      all_goals
       simp only [↓wpre, wall, simprocAttr, h0, h3, h4, hd, hg, Int.natCast_nonneg, hc, hl, h46]
       first
        | exact EQ_in ⟨j + 1, by omega, false, h0, rfl, next_ixv (by omega), by omega, by rw [← hn, nameGo]; simp [hl]⟩
        | exact EQ_in ⟨j + 1, by omega, false, h0, h3, next_ixv (by omega), by omega, by rw [← hn, nameGo]; simp [hl]⟩
        | (simp at h46; rw [h46] at hl; exact absurd hl (by decide))
    ·have hd : decide ((j : Int) < s.size) = false := by simpa using hge
     rw [List.drop_eq_nil_of_le (by rw [toList_len]; omega)] at hn
     cases b
     all_goals
      simp only [↓wpre, wall, simprocAttr, h0, h3, h4, hd]
      refine boolAV ?_
      rw [isName, ← hn, nameGo]
      simp at h64 ⊢
      try omega
   ·exact ⟨true, rfl, rfl, rfl, Nat.zero_le _, rfl⟩
  ·simp only [pf64, ↓wpre, wall, simprocAttr, he, h64]
   refine boolAV ?_
   simp at h64
   simp [isName]; omega
 ·rw [h0] at he
  simp only [pf64, ↓wpre, wall, simprocAttr, he]
  refine boolAV ?_
  simp at h0
  rw [isName, List.eq_nil_of_length_eq_zero (l := s.toList) (by rw [toList_len, h0]; rfl)]
  rfl
end Go.Proofs.Eng
namespace Go.Proofs.Eng
open Go Go.Proofs
set_option maxRecDepth 100000
abbrev Gl := ByteArray × Ex
def glIs (g : Gl) (a : AV) : Prop := ∃ c, a = .agg (.str g.1 :: c) ∧ g.1.size ≤ lenB ∧ g.2.Is (.agg c)
structure Pr where
 gs : List Gl
 main : Ex
def Pr.Is (p : Pr) (a : AV) : Prop := ∃ gas tg c, a = .agg (.sl gas tg :: c) ∧ tg.pure = true ∧ gas.length ≤ lenB ∧ LIs glIs p.gs gas ∧ p.main.Is (.agg c) ∧ c.length = 5 ∧ c.take 5 = c ∧ c.all oneCell = true ∧ pureAVs c = true ∧ pureAVs gas = true ∧ (gas.all fun x => x.cells.length == 6) = true
def gfind : List Gl → ByteArray → Option Ex
 | [], _ => none
 | g :: gs, n => if g.1 = n then some g.2 else gfind gs n
mutual
def Ex.err (gl : ByteArray → Bool) : Int → Ex → Int
 | v, .mk k i n s kids => if fmB k i n s kids.length = false then 3 else if namedB k = true ∧ isName n = false then 29 else if k = 0 ∧ decide (i ≥ v) = true then 24 else if k = 5 ∧ gl n = false then 9 else errL gl k s v 0 kids
def errL (gl : ByteArray → Bool) (k : Int) (s : List Int) (v : Int) : Nat → List Ex → Int
 | _, [] => 0
 | j, e :: es => if Ex.err gl (w64 (v + under k s j)) e = 0 then errL gl k s v (j + 1) es else Ex.err gl (w64 (v + under k s j)) e
end
abbrev Pr.gl (p : Pr) (n : ByteArray) : Bool := (gfind p.gs n).isSome
end Go.Proofs.Eng
namespace Go.Proofs.Eng
open Go Go.Proofs
set_option maxRecDepth 100000
def Ex.whole (gl : ByteArray → Bool) (e : Ex) : Int := if (e.err gl 0 != 0) = true then e.err gl 0 else if decide (e.size > 4096) = true then 5 else if decide (e.deep > 200) = true then 7 else 0
def Pr.go (p : Pr) : List Gl → List Gl → Int
 | _, [] => p.main.whole p.gl
 | prev, g :: gs => if isName g.1 = false then 29 else if (prev.any fun x => decide (x.1 = g.1)) = true then 8 else if (g.2.whole p.gl != 0) = true then g.2.whole p.gl else p.go (prev ++ [g]) gs
def Pr.check (p : Pr) : Int := if decide ((p.gs.length : Int) > 1000) = true then 6 else p.go [] p.gs
end Go.Proofs.Eng
namespace Go.Proofs.Eng
open Go Go.Proofs
set_option maxRecDepth 100000
def wr (c : Int) : AV := .iface 182 (.agg [.int c])
def MapSet (es : List (AV × AV)) (gl : ByteArray → Bool) : Prop := ∀ n, lookA (.sc true) (.str n) es = some (if gl n then some (.bool true) else none)
end Go.Proofs.Eng
namespace Go.Proofs.Eng
open Go Go.Proofs
set_option maxRecDepth 100000
end Go.Proofs.Eng
namespace Go.Proofs.Eng
open Go Go.Proofs
set_option maxRecDepth 100000
theorem upA_str (n : ByteArray) (x : AV) : ∀ es : List (AV × AV), lookA (.sc true) (.str n) es ≠ none → ∃ es', upA (.sc true) (.str n) x es = some es' ∧ ∀ m, lookA (.sc true) (.str m) es' = if m = n then some (some x) else lookA (.sc true) (.str m) es
 | [], _ => ⟨[(.str n, x)], rfl, fun m => by
   simp only [lookA, keyEqM, keyEq, str_beq]
   by_cases h : m = n <;> simp [h]⟩
 | (k', y) :: es, h => by
  cases hk : keyEqM (.sc true) (.str n) k' with
  | none => rw [lookA, hk] at h; exact absurd rfl h
  | some b =>
   have hk' : ∃ a, k' = .str a := by
    cases k' with
    | v z => cases z with
     | string a => exact ⟨a, rfl⟩
     | _ => simp [keyEqM, keyEq] at hk
    | _ => simp [keyEqM, keyEq] at hk
   obtain ⟨a, rfl⟩ := hk'
   simp only [keyEqM, keyEq, str_beq, Option.some.injEq] at hk
   subst hk
   by_cases ha : n = a
   ·subst ha
    refine ⟨(.str n, x) :: es, by simp [upA, keyEqM, keyEq, str_beq], fun m => ?_⟩
    simp only [lookA, keyEqM, keyEq, str_beq]
    by_cases h : m = n <;> simp [h]
   ·simp only [lookA, keyEqM, keyEq, str_beq, ha, decide_false] at h
    obtain ⟨es', h1, h2⟩ := upA_str n x es h
    refine ⟨(.str a, y) :: es', by simp [upA, keyEqM, keyEq, str_beq, ha, h1], fun m => ?_⟩
    simp only [lookA, keyEqM, keyEq, str_beq, h2]
    by_cases h : m = a
    ·subst h; simp [Ne.symm ha]
    ·simp [h]
theorem MapSet.up {es : List (AV × AV)} {gl : ByteArray → Bool} (h : MapSet es gl) (n : ByteArray) : ∃ es', upA (.sc true) (.str n) (.v (.bool true)) es = some es' ∧ MapSet es' fun m => gl m || decide (m = n) := by
 obtain ⟨es', h1, h2⟩ := upA_str n (.v (.bool true)) es (by rw [h n]; simp)
 refine ⟨es', h1, fun m => ?_⟩
 rw [h2 m, h m]
 by_cases hm : m = n <;> simp [hm]
theorem MapSet.nil : MapSet [] fun _ => false := fun n => by simp [lookA]
theorem MapSet.congr {es : List (AV × AV)} {gl gl' : ByteArray → Bool} (h : MapSet es gl) (e : ∀ n, gl n = gl' n) : MapSet es gl' := fun n => by rw [h n, e n]
end Go.Proofs.Eng
