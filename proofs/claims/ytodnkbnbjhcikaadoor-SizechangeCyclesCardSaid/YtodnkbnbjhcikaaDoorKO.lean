/- The text of the numbers of a call: a walk. No conditions beyond those in the theorems. -/
import Derived.Test.YtodnkbnbjhcikaaDoorSH
import Derived.Lib.AppendIntMem
import Derived.Lib.ItoaLen
import Derived.Test.YtodnkbnbjhcikaaDoorRows
import Derived.WalkKit
import Derived.BigCall
import Derived.Laws.IdiomStrings
set_option linter.all false
set_option linter.deprecated false
set_option linter.unnecessarySimpa false
set_option linter.unusedVariables false
set_option linter.unusedSimpArgs false
set_option linter.defProp false
namespace Go.Proofs.Eng
open Go Go.Proofs Go.Shelf Go.RowKit
def digF : Nat → Nat → List UInt8
  | 0, _ => []
  | f + 1, u => if u < 10 then [UInt8.ofNat (48 + u)] else digF f (u / 10) ++ [UInt8.ofNat (48 + u % 10)]
def numF (n : Int) : List UInt8 := if n < 0 then 45 :: digF 20 n.natAbs else digF 20 n.toNat
def textOf (l : List Int) : List UInt8 := l.flatMap fun n => numF n ++ [32]
theorem digF_eq : ∀ (f u : Nat), u < 10 ^ (f + 1) → digF (f + 1) u = Lib.decDigits u
  | 0, u, h => by
    have : u < 10 := by simpa using h
    rw [Lib.decDigits, dif_pos this]; simp [digF, this]
  | f + 1, u, h => by
    rw [Lib.decDigits, digF]
    by_cases hu : u < 10
    · rw [if_pos hu, dif_pos hu]
    · rw [if_neg hu, dif_neg hu, digF_eq f (u / 10) (by rw [Nat.pow_succ] at h; omega)]
theorem numF_eq {n : Int} (h0 : -9223372036854775808 ≤ n) (h1 : n ≤ 9223372036854775807) : numF n = Lib.itoa n := by
  unfold numF Lib.itoa
  split
  · rw [digF_eq 19 _ (by omega)]
  · rw [digF_eq 19 _ (by omega)]
theorem numF_len {n : Int} (h0 : -9223372036854775808 ≤ n) (h1 : n ≤ 9223372036854775807) : (numF n).length ≤ 21 := by rw [numF_eq h0 h1]; exact Lib.itoa_length_le n h0 h1
theorem textOf_len : ∀ (l : List Int), (∀ n ∈ l, -9223372036854775808 ≤ n ∧ n ≤ 9223372036854775807) → (textOf l).length ≤ 22 * l.length
  | [], _ => by simp [textOf]
  | n :: l, h => by
    have h1 := numF_len (h n (by simp)).1 (h n (by simp)).2
    have h2 := textOf_len l fun m hm => h m (by simp [hm])
    simp only [textOf, List.flatMap_cons, List.length_append, List.length_cons, List.length_nil] at h2 ⊢
    omega
theorem textOf_take {l : List Int} {k : Nat} {n : Int} (h : l[k]? = some n) : textOf (l.take (k + 1)) = textOf (l.take k) ++ (numF n ++ [32]) := by
  have : l.take (k + 1) = l.take k ++ [n] := by rw [List.take_add_one, h]; rfl
  rw [this, textOf, textOf, List.flatMap_append]; simp
def tabN : String := YtodnkbnbjhcikaaDoor.Rows.sizechangeClosesRow.named.headD ""
theorem own_cells {w : World} {B n : Nat} {v : Value} {l : List UInt8} (h : w.ownsRow B 5 1 v n (Lib.byteCells l)) (h0 : l ≠ []) : ∃ g cap, v = .slice (some ⟨g, 0, none⟩) l.length cap ∧ ∀ j (hj : j < l.length), w.cell? (Addr.add ⟨g, 0, none⟩ j) = some (.int .u8 (l[j].toNat : Int)) := by
  obtain ⟨h1, h2⟩ := h
  rw [Lib.byteCells_length] at h1
  rcases h2 with ⟨_, rfl⟩ | ⟨g, cap, cur, rfl, _, hb, hc, _, hs, ht⟩
  · exact absurd (List.length_eq_zero_iff.1 (by omega)) h0
  · obtain rfl : n = l.length := by omega
    refine ⟨g, cap, rfl, fun j hj => ?_⟩
    have h3 : (cur.toList.take (l.length * 1))[j]? = some (.int .u8 (l[j].toNat : Int)) := by
      rw [ht]; simp [Lib.byteCells, hj]
    rw [List.getElem?_take_of_lt (by omega)] at h3
    have e : (Addr.add ⟨g, 0, none⟩ j : Addr) = ⟨g, j, none⟩ := by unfold Addr.add; split <;> simp_all
    rw [e]
    simp only [World.cell?, hb]
    simpa using h3
theorem textOf_nil {l : List Int} (h : l ≠ []) : textOf l ≠ [] := by
  cases l with
  | nil => exact absurd rfl h
  | cons n l => simp [textOf]
set_option maxHeartbeats 4000000 in
set_option maxRecDepth 1000000 in
theorem key_walk (ns : List Int) (hn : ∀ n ∈ ns, -9223372036854775808 ≤ n ∧ n ≤ 9223372036854775807) (h0 : ns ≠ []) (hlen : ns.length ≤ 1000000) (x y z : Value) (w : World) (Q2 : World → Prop)
    (h36 : ∀ w1, Below w.heap.size w w1 → Calls Tryd.prog 36 #[.agg #[x, y, z]] w1 fun e w2 => (∃ b o cap, e = .returned (.slice (some ⟨b, o, none⟩) ns.length cap) ∧ ∀ (k : Nat) (n : Int), ns[k]? = some n → w2.cell? ⟨b, o + k, none⟩ = some (.int .i64 n)) ∧ Q2 w2)
    (hx : x.oneCell' = true) (hy : y.oneCell' = true) (hz : z.oneCell' = true)
    (htab : ∀ w2, Q2 w2 → Lib.TabBelow Tryd.prog w2.heap.size w2 tabN .u64 Lib.pow10Tab) :
    Calls Tryd.prog 58 #[.agg #[x, y, z]] w fun e w' => e = .returned (.string ⟨(textOf ns).toArray⟩) ∧ ∃ w2, Q2 w2 ∧ Below w2.heap.size w2 w' := by
  go_enter Tryd.func58, Tryd.ntmps58
  go_wp2_with (go_at_call 36; refine (h36 _ ((Below.refl _ w).alloc (Nat.le_refl _) _)).mono ?_; rintro e w2 ⟨⟨b, o, cap, rfl, hc⟩, hQ⟩)
  have htb := htab w2 hQ
  go_loopw [3, 9] (fun v i wr => ∃ k m : Nat, k ≤ ns.length ∧ i = .int .i64 k ∧ Below w2.heap.size w2 wr ∧ wr.ownsRow w2.heap.size 5 1 v m (Lib.byteCells (textOf (ns.take k)))) (fun v i _ => ns.length - (match i with | .int _ z => z.toNat | _ => 0))
  case atStart =>
    exact ⟨0, 0, by simp, rfl, Below.refl _ _, World.ownsRow_nil _ _ _ _⟩
  case round =>
    obtain ⟨k, m, hk, rfl, hB, hI⟩ := hrel
    have hsz := hB.size
    have hm : m = (textOf (ns.take k)).length := by have := hI.1; rw [Lib.byteCells_length] at this; omega
    have hl1 := textOf_len (ns.take k) fun n h => hn n (List.mem_of_mem_take h)
    rw [List.length_take] at hl1
    by_cases hlt : k < ns.length
    · have hget : ns[k]? = some ns[k] := List.getElem?_eq_getElem hlt
      obtain ⟨r0, r1⟩ := hn ns[k] (List.getElem_mem hlt)
      have hl2 := numF_len r0 r1
      have hcell : wr.cell? ⟨b, o + k, none⟩ = some (.int .i64 ns[k]) := by
        have h1 := hc k _ hget
        have hb : b < w2.heap.size := by
          rcases Nat.lt_or_ge b w2.heap.size with h | h
          · exact h
          · simp [World.cell?, Array.getElem?_eq_none h] at h1
        rw [← h1]; exact World.cell?_of_block (w := w2) (a := ⟨b, o + k, none⟩) (hB.block b hb)
      have hk1 : (0 : Int) ≤ k := by omega
      have hk2 : (k : Int) < (ns.length : Int) := by omega
      obtain ⟨i0, hi, hz0, hz1, hz2⟩ := info_parts Tryd.laysM176.i5
      have hcall := Any.strconv_AppendInt_10 Tryd.laysM176 w2.heap.size m ns[k] r0 r1 _ _ wr hI hsz (by omega) (htb.on hB)
      go_wp2_with (go_at_call 66; refine hcall.mono ?_)
      rintro e w3 ⟨v3, rfl, hI3, hb3, _⟩
      have hs3 := hb3.size
      replace hI3 : w3.ownsRow w2.heap.size 5 1 v3 (m + (Lib.itoa ns[k]).length) (Lib.byteCells (textOf (ns.take k)) ++ Lib.byteCells (Lib.itoa ns[k])) := hI3
      have e1 : (Lib.itoa ns[k]).length = (numF ns[k]).length := by rw [numF_eq r0 r1]
      go_wp2_with (at_builtin; refine wpList_append_own _ rfl _ _ 50 rfl w2.heap.size 5 i0 (.int .u8 0) 1 1 Tryd.underlying50 hi hz0 hz1 hz2 rfl (by decide) _ _ _ rfl (hI3.alloc _) ⟨w3.heap.size, 0, none⟩ 1 1 [.int .u8 32] rfl rfl ?c1 ?c2 ?c3 ?c4 ?c5 ?_)
      case c1 =>
        intro j u hj
        match j, hj with
        | 0, hj => simp at hj; subst hj; simp [Addr.add]
      case c2 => intro u hu; simp at hu; subst hu; rfl
      case c3 => unfold maxLen; omega
      case c4 => omega
      case c5 => simp; omega
      intro v4 w4 hI4 hgrow _
      have e3 : Lib.byteCells (textOf (ns.take k)) ++ (Lib.byteCells (Lib.itoa ns[k]) ++ [Value.int .u8 32]) = Lib.byteCells (textOf (ns.take (k + 1))) := by
        rw [textOf_take hget, numF_eq r0 r1, Lib.byteCells_append, Lib.byteCells_append]; rfl
      rw [e3] at hI4
      have hB4 : Below w2.heap.size w2 w4 := ((hB.trans hb3).alloc (by omega) _).grown hgrow (by simp; omega) (fun k hk => (hI3.lt k hk).1)
      go_wp2
      go_roundw
      case rel => exact ⟨k + 1, _, by omega, (by first | rfl | simp), hB4, hI4⟩
      case measure => simp; omega
    · obtain rfl : k = ns.length := by omega
      rw [List.take_length] at hI
      obtain ⟨g, cap, rfl, hcs⟩ := own_cells hI (textOf_nil h0)
      have hcv := run_convert_bytes_back wr 50 9 5 ⟨g, 0, none⟩ cap (textOf ns) Tryd.underlying50 Tryd.underlying5 Tryd.underlying9 hcs
      go_wp2
      go_ret
      exact ⟨rfl, w2, hQ, hB⟩
end Go.Proofs.Eng
