/- The text of a list of numbers. No conditions beyond those in the theorems. -/
import Derived.Test.YtglembbmmnakaaaDoorSW
import Derived.Lib.AppendIntMem
import Derived.Lib.ItoaLen
import Derived.Test.YtglembbmmnakaaaDoorRows
set_option linter.all false
set_option linter.deprecated false
set_option linter.unnecessarySimpa false
set_option linter.unusedVariables false
set_option linter.unusedSimpArgs false
set_option linter.defProp false
namespace Go.Proofs.Eng
open Go Go.Proofs Go.Shelf Go.RowKit
/-- Digits, by fuel. -/
def digF : Nat → Nat → List UInt8
  | 0, _ => []
  | f + 1, u => if u < 10 then [UInt8.ofNat (48 + u)] else digF f (u / 10) ++ [UInt8.ofNat (48 + u % 10)]
def numF (n : Int) : List UInt8 := if n < 0 then 45 :: digF 20 n.natAbs else digF 20 n.toNat
/-- The text of a list of numbers. -/
def textOf (l : List Int) : List UInt8 := l.flatMap fun n => numF n ++ [32]
theorem digF_eq : ∀ (f u : Nat), u < 10 ^ (f + 1) → digF (f + 1) u = Lib.decDigits u
  | 0, u, h => by
    have : u < 10 := by simpa using h
    rw [Lib.decDigits, dif_pos this]; simp [digF, this]
  | f + 1, u, h => by
    rw [Lib.decDigits, digF]
    by_cases hu : u < 10
    · rw [if_pos hu, dif_pos hu]
    · rw [if_neg hu, dif_neg hu, digF_eq f (u / 10) (by rw [Nat.pow_succ] at h; omega)]
theorem numF_eq {n : Int} (h0 : -9223372036854775808 ≤ n) (h1 : n ≤ 9223372036854775807) : numF n = Lib.itoa n := by
  unfold numF Lib.itoa
  split
  · rw [digF_eq 19 _ (by omega)]
  · rw [digF_eq 19 _ (by omega)]
theorem numF_len {n : Int} (h0 : -9223372036854775808 ≤ n) (h1 : n ≤ 9223372036854775807) : (numF n).length ≤ 21 := by rw [numF_eq h0 h1]; exact Lib.itoa_length_le n h0 h1
theorem textOf_len : ∀ (l : List Int), (∀ n ∈ l, -9223372036854775808 ≤ n ∧ n ≤ 9223372036854775807) → (textOf l).length ≤ 22 * l.length
  | [], _ => by simp [textOf]
  | n :: l, h => by
    have h1 := numF_len (h n (by simp)).1 (h n (by simp)).2
    have h2 := textOf_len l fun m hm => h m (by simp [hm])
    simp only [textOf, List.flatMap_cons, List.length_append, List.length_cons, List.length_nil] at h2 ⊢
    omega
theorem textOf_take {l : List Int} {k : Nat} {n : Int} (h : l[k]? = some n) : textOf (l.take (k + 1)) = textOf (l.take k) ++ (numF n ++ [32]) := by
  have : l.take (k + 1) = l.take k ++ [n] := by rw [List.take_add_one, h]; rfl
  rw [this, textOf, textOf, List.flatMap_append]; simp
theorem bld_below {B b : Nat} {bs : List Value} {W W' : World} (h : Lib.IsBuilder 82 5 B b bs W) (hb : Below W.heap.size W W') : Lib.IsBuilder 82 5 B b bs W' := by
  have one : ∀ {p}, Lib.BuilderAt 82 5 B b p bs W → Lib.BuilderAt 82 5 B b p bs W' := by
    rintro p ⟨hB, v, hv, hown, hne⟩
    exact ⟨hB, v, (hb.block b (bl_lt hv)).trans hv, hown.kept (row := none) ⟨hb.os, hb.tape, hb.output, hb.size, fun k hk _ => hb.block k hk⟩ (Classical.em _), hne⟩
  exact h.elim (fun x => .inl (one x)) (fun x => .inr (one x))
/-- The name of the library's table. -/
def tabN : String := YtglembbmmnakaaaDoor.Rows.farkasChecksRow.named.headD ""
set_option maxHeartbeats 4000000 in
set_option maxRecDepth 1000000 in
theorem text_walk (ns : List Int) (hn : ∀ n ∈ ns, -9223372036854775808 ≤ n ∧ n ≤ 9223372036854775807) (hlen : ns.length ≤ 1073741824) (a : Option Addr) (cap b0 o : Nat) (w : World) (ha : ns ≠ [] → a = some ⟨b0, o, none⟩) (hc : ∀ (k : Nat) (n : Int), ns[k]? = some n → w.cell? ⟨b0, o + k, none⟩ = some (.int .i64 n))
    (htab : ∀ w', Below w.heap.size w w' → Lib.TabIs Tryd.prog w' tabN .u64 Lib.pow10Tab) :
    Calls Tryd.prog 43 #[.slice a ns.length cap] w fun e w' => e = .returned (.string ⟨(textOf ns).toArray⟩) ∧ Below w.heap.size w w' := by
  go_enter Tryd.func43, Tryd.ntmps43
  go_wp2
  go_loopw [8] (fun i wr => ∃ k : Nat, k ≤ ns.length ∧ i = .int .i64 k ∧ Below w.heap.size w wr ∧ w.heap.size < wr.heap.size ∧ Lib.IsBuilder 82 5 w.heap.size w.heap.size (Lib.byteCells (textOf (ns.take k))) wr) (fun i _ => ns.length - (match i with | .int _ z => z.toNat | _ => 0))
  case atStart =>
    exact ⟨0, by simp, rfl, (Below.refl _ w).alloc (Nat.le_refl _) _, by simp, Lib.fresh_isBuilder 82 5 w⟩
  case round =>
    obtain ⟨k, hk, rfl, hB, hsz, hI⟩ := hrel
    have hl1 := textOf_len (ns.take k) fun n h => hn n (List.mem_of_mem_take h)
    rw [List.length_take] at hl1
    by_cases hlt : k < ns.length
    · have hget : ns[k]? = some ns[k] := List.getElem?_eq_getElem hlt
      obtain ⟨r0, r1⟩ := hn ns[k] (List.getElem_mem hlt)
      have hl2 := numF_len r0 r1
      obtain rfl := ha (by intro e; rw [e] at hlt; simp at hlt)
      have hcell : wr.cell? ⟨b0, o + k, none⟩ = some (.int .i64 ns[k]) := by
        have h1 := hc k _ hget
        have hb : b0 < w.heap.size := by
          rcases Nat.lt_or_ge b0 w.heap.size with h | h
          · exact h
          · simp [World.cell?, Array.getElem?_eq_none h] at h1
        rw [← h1]; exact World.cell?_of_block (w := w) (a := ⟨b0, o + k, none⟩) (hB.block b0 hb)
      have hk1 : (0 : Int) ≤ k := by omega
      have hk2 : (k : Int) < (ns.length : Int) := by omega
      go_wp2_with (go_at_call 49; refine (Any.strconv_Itoa Tryd.laysM171 ns[k] r0 r1 _ (htab _ hB)).mono ?_; rintro e w1 ⟨rfl, q, os, rfl⟩)
      have hbg : Below wr.heap.size wr (Sort.grow (wr.drewN q) os) := Lib.below_grow _ wr (Nat.le_refl _) q os
      have hI1 := bld_below hI hbg
      have hs1 := hbg.size
      generalize Sort.grow (wr.drewN q) os = w2 at hbg hI1 hs1
      have hB2 := hB.trans (hbg.mono (by omega))
      have e1 : (ByteArray.mk (Lib.itoa ns[k]).toArray).size = (numF ns[k]).length := by rw [numF_eq r0 r1]; simp [ByteArray.size]
      go_wp2_with (go_at_call 48; refine (wr_string w.heap.size w.heap.size _ _ _ hI1 (by rw [Lib.byteCells_length, e1]; omega) (by omega)).mono ?_; rintro e w3 ⟨rfl, hI3, hb3⟩)
      have hs3 := hb3.size
      have e2 : Lib.byteCells (textOf (ns.take k)) ++ Lib.strCells ⟨(Lib.itoa ns[k]).toArray⟩ = Lib.byteCells (textOf (ns.take k) ++ numF ns[k]) := by rw [Lib.byteCells_append, Lib.strCells_toArray, numF_eq r0 r1]
      rw [e2] at hI3
      go_wp2_with (go_at_call 50; refine (wr_byte w.heap.size w.heap.size _ 32 _ hI3 (by rw [Lib.byteCells_length, List.length_append]; omega) (by omega)).mono ?_; rintro e w4 ⟨rfl, hI4, hb4⟩)
      have hs4 := hb4.size
      have e3 : Lib.byteCells (textOf (ns.take k) ++ numF ns[k]) ++ [Value.int .u8 32] = Lib.byteCells (textOf (ns.take (k + 1))) := by rw [textOf_take hget, ← List.append_assoc, Lib.byteCells_append _ [32]]; rfl
      rw [e3] at hI4
      go_wp2
      go_roundw
      case rel => exact ⟨k + 1, by omega, (by first | rfl | simp), (hB2.trans hb3).trans hb4, by omega, hI4⟩
      case measure => simp; omega
    · have hke : k = ns.length := by omega
      subst hke
      rw [List.take_length] at hI hl1
      go_wp2_with (go_at_call 51; refine (Tryd.Builder_String_any w.heap.size w.heap.size _ _ hI (by omega)).mono ?_; rintro e w1 ⟨rfl, hb1⟩)
      go_wp2
      go_ret
      exact ⟨rfl, hB.trans hb1⟩
end Go.Proofs.Eng
