/- The text of the numbers of a call: a walk. No conditions beyond those in the theorems. -/
import Derived.Shelf.LaysM
import Derived.Shelf.Lays8
import Derived.Shelf.Strconv.AppendIntPublic10
import Derived.Shelf.Spec.SlicesGrow
import Derived.Shelf.SlSortCmp.WholeK
import Derived.Shelf.SlLaysF0
import Derived.Test.YtodnkbnbjhcikaaDoorProg
import Derived.Lib.AppendIntMem
import Derived.Lib.ItoaLen
import Derived.Test.YtodnkbnbjhcikaaDoorRows
import Derived.WalkKit
import Derived.BigCall
import Derived.Laws.IdiomStrings
set_option linter.all false
set_option linter.deprecated false
set_option linter.unnecessarySimpa false
set_option linter.unusedVariables false
set_option linter.unusedSimpArgs false
set_option linter.defProp false
namespace Go.Proofs
open Go.Shelf
def Tryd.laysM176_ren : Go.Shelf.Ren := ⟨fun | 176 => 66 | 249 => 78 | 288 => 84 | 283 => 86 | 284 => 87 | 285 => 88 | 286 => 89 | 129 => 76 | 317 => 90 | 318 => 91 | 319 => 92 | 320 => 93 | 337 => 94 | 338 => 95 | n => n, fun | 37 => 50 | 2 => 2 | 3 => 3 | 53 => 109 | 4 => 4 | 9 => 9 | 171 => 121 | 0 => 0 | 173 => 123 | 212 => 127 | 51 => 107 | 5 => 5 | 20 => 20 | 213 => 128 | 46 => 93 | 232 => 129 | 233 => 130 | n => n, fun | 17 => 0 | 18 => 1 | 19 => 2 | n => n⟩
theorem Tryd.laysM176 : Go.Proofs.LaysM.n176 Tryd.prog Tryd.laysM176_ren := {
  mixed := by kernel_rfl
  f129 := Tryd.func76.trans (congrArg some (by kernel_rfl))
  f176 := Tryd.func66.trans (congrArg some (by kernel_rfl))
  f249 := Tryd.func78.trans (congrArg some (by kernel_rfl))
  f283 := Tryd.func86.trans (congrArg some (by kernel_rfl))
  f284 := Tryd.func87.trans (congrArg some (by kernel_rfl))
  f285 := Tryd.func88.trans (congrArg some (by kernel_rfl))
  f286 := Tryd.func89.trans (congrArg some (by kernel_rfl))
  f288 := Tryd.func84.trans (congrArg some (by kernel_rfl))
  f317 := Tryd.func90.trans (congrArg some (by kernel_rfl))
  f318 := Tryd.func91.trans (congrArg some (by kernel_rfl))
  f319 := Tryd.func92.trans (congrArg some (by kernel_rfl))
  f320 := Tryd.func93.trans (congrArg some (by kernel_rfl))
  f337 := Tryd.func94.trans (congrArg some (by kernel_rfl))
  f338 := Tryd.func95.trans (congrArg some (by kernel_rfl))
  t0 := Tryd.underlying0
  a0 := Tryd.isAgg0
  z0 := Tryd.sizeOf0
  v0 := Tryd.zeroValue0
  t2 := Tryd.underlying2
  a2 := Tryd.isAgg2
  z2 := Tryd.sizeOf2
  v2 := Tryd.zeroValue2
  t3 := Tryd.underlying3
  a3 := Tryd.isAgg3
  z3 := Tryd.sizeOf3
  v3 := Tryd.zeroValue3
  t4 := Tryd.underlying4
  a4 := Tryd.isAgg4
  z4 := Tryd.sizeOf4
  v4 := Tryd.zeroValue4
  t5 := Tryd.underlying5
  a5 := Tryd.isAgg5
  z5 := Tryd.sizeOf5
  v5 := Tryd.zeroValue5
  t9 := Tryd.underlying9
  a9 := Tryd.isAgg9
  z9 := Tryd.sizeOf9
  v9 := Tryd.zeroValue9
  t20 := Tryd.underlying20
  a20 := Tryd.isAgg20
  z20 := Tryd.sizeOf20
  v20 := Tryd.zeroValue20
  t37 := Tryd.underlying50
  a37 := Tryd.isAgg50
  z37 := Tryd.sizeOf50
  v37 := Tryd.zeroValue50
  t46 := Tryd.underlying93
  a46 := Tryd.isAgg93
  z46 := Tryd.sizeOf93
  v46 := Tryd.zeroValue93
  t51 := Tryd.underlying107
  a51 := Tryd.isAgg107
  z51 := Tryd.sizeOf107
  v51 := Tryd.zeroValue107
  t53 := Tryd.underlying109
  a53 := Tryd.isAgg109
  z53 := Tryd.sizeOf109
  v53 := Tryd.zeroValue109
  t171 := Tryd.underlying121
  a171 := Tryd.isAgg121
  z171 := Tryd.sizeOf121
  v171 := Tryd.zeroValue121
  t173 := Tryd.underlying123
  a173 := Tryd.isAgg123
  z173 := Tryd.sizeOf123
  v173 := Tryd.zeroValue123
  t212 := Tryd.underlying127
  a212 := Tryd.isAgg127
  z212 := Tryd.sizeOf127
  v212 := Tryd.zeroValue127
  t213 := Tryd.underlying128
  a213 := Tryd.isAgg128
  z213 := Tryd.sizeOf128
  t232 := Tryd.underlying129
  a232 := Tryd.isAgg129
  z232 := Tryd.sizeOf129
  v232 := Tryd.zeroValue129
  t233 := Tryd.underlying130
  a233 := Tryd.isAgg130
  z233 := Tryd.sizeOf130
  v233 := Tryd.zeroValue130
  g17 := by kernel_rfl
  g18 := by kernel_rfl
  g19 := by kernel_rfl
  i0 := by kernel_rfl
  i2 := by kernel_rfl
  i3 := by kernel_rfl
  i4 := by kernel_rfl
  i5 := by kernel_rfl
  i9 := by kernel_rfl
  i20 := by kernel_rfl
  i37 := by kernel_rfl
  i46 := by kernel_rfl
  i51 := by kernel_rfl
  i53 := by kernel_rfl
  i171 := by kernel_rfl
  i173 := by kernel_rfl
  i212 := by kernel_rfl
  i232 := by kernel_rfl
  i233 := by kernel_rfl
  m17 := by kernel_rfl
  m18 := by kernel_rfl
  m19 := by kernel_rfl }
def Tryd.growR_ren : Go.Shelf.Ren := ⟨fun | 4 => 63 | n => n, fun | 22 => 52 | 25 => 3 | 3 => 3 | 4 => 4 | 9 => 9 | 20 => 20 | 0 => 0 | n => n, fun | n => n⟩
theorem Tryd.growR : Go.Proofs.Lays8.n4 Tryd.prog Tryd.growR_ren := {
  mixed := by kernel_rfl
  f4 := ⟨Tryd.f63.name, by decide, Tryd.func63.trans (congrArg some (by kernel_rfl))⟩
  t0 := Tryd.underlying0
  a0 := Tryd.isAgg0
  z0 := Tryd.sizeOf0
  v0 := Tryd.zeroValue0
  t3 := Tryd.underlying3
  a3 := Tryd.isAgg3
  z3 := Tryd.sizeOf3
  v3 := Tryd.zeroValue3
  t4 := Tryd.underlying4
  a4 := Tryd.isAgg4
  z4 := Tryd.sizeOf4
  v4 := Tryd.zeroValue4
  t9 := Tryd.underlying9
  a9 := Tryd.isAgg9
  z9 := Tryd.sizeOf9
  v9 := Tryd.zeroValue9
  t20 := Tryd.underlying20
  a20 := Tryd.isAgg20
  z20 := Tryd.sizeOf20
  v20 := Tryd.zeroValue20
  t22 := Tryd.underlying52
  a22 := Tryd.isAgg52
  z22 := Tryd.sizeOf52
  v22 := Tryd.zeroValue52 }
def Tryd.sortR_ren : Go.Shelf.Ren := ⟨fun | 6 => 46 | 15 => 61 | 14 => 60 | 28 => 75 | 29 => 76 | 20 => 67 | 21 => 68 | 22 => 69 | 23 => 70 | 24 => 71 | 25 => 72 | 26 => 73 | 27 => 74 | 46 => 79 | 47 => 80 | 48 => 81 | 49 => 82 | 50 => 83 | 57 => 85 | n => n, fun | 22 => 22 | 24 => 33 | 25 => 47 | 3 => 3 | 39 => 93 | 0 => 0 | 53 => 107 | 55 => 109 | 4 => 4 | 46 => 101 | 45 => 100 | 50 => 70 | 5 => 5 | 9 => 9 | 66 => 110 | 70 => 114 | 76 => 117 | 77 => 118 | n => n, fun | n => n⟩
theorem Tryd.sortR : Go.Proofs.SlLaysF0.n6 Tryd.prog Tryd.sortR_ren := {
  mixed := by kernel_rfl
  f6 := ⟨Tryd.f46.name, by decide, Tryd.func46.trans (congrArg some (by kernel_rfl))⟩
  f14 := ⟨Tryd.f60.name, by decide, Tryd.func60.trans (congrArg some (by kernel_rfl))⟩
  f15 := Tryd.func61.trans (congrArg some (by kernel_rfl))
  f20 := ⟨Tryd.f67.name, by decide, Tryd.func67.trans (congrArg some (by kernel_rfl))⟩
  f21 := ⟨Tryd.f68.name, by decide, Tryd.func68.trans (congrArg some (by kernel_rfl))⟩
  f22 := ⟨Tryd.f69.name, by decide, Tryd.func69.trans (congrArg some (by kernel_rfl))⟩
  f23 := ⟨Tryd.f70.name, by decide, Tryd.func70.trans (congrArg some (by kernel_rfl))⟩
  f24 := ⟨Tryd.f71.name, by decide, Tryd.func71.trans (congrArg some (by kernel_rfl))⟩
  f25 := ⟨Tryd.f72.name, by decide, Tryd.func72.trans (congrArg some (by kernel_rfl))⟩
  f26 := ⟨Tryd.f73.name, by decide, Tryd.func73.trans (congrArg some (by kernel_rfl))⟩
  f27 := ⟨Tryd.f74.name, by decide, Tryd.func74.trans (congrArg some (by kernel_rfl))⟩
  f28 := Tryd.func75.trans (congrArg some (by kernel_rfl))
  f29 := Tryd.func76.trans (congrArg some (by kernel_rfl))
  f46 := ⟨Tryd.f79.name, by decide, Tryd.func79.trans (congrArg some (by kernel_rfl))⟩
  f47 := Tryd.func80.trans (congrArg some (by kernel_rfl))
  f48 := Tryd.func81.trans (congrArg some (by kernel_rfl))
  f49 := ⟨Tryd.f82.name, by decide, Tryd.func82.trans (congrArg some (by kernel_rfl))⟩
  f50 := ⟨Tryd.f83.name, by decide, Tryd.func83.trans (congrArg some (by kernel_rfl))⟩
  f57 := ⟨Tryd.f85.name, by decide, Tryd.func85.trans (congrArg some (by kernel_rfl))⟩
  t0 := Tryd.underlying0
  a0 := Tryd.isAgg0
  z0 := Tryd.sizeOf0
  v0 := Tryd.zeroValue0
  t3 := Tryd.underlying3
  a3 := Tryd.isAgg3
  z3 := Tryd.sizeOf3
  v3 := Tryd.zeroValue3
  t4 := Tryd.underlying4
  a4 := Tryd.isAgg4
  z4 := Tryd.sizeOf4
  v4 := Tryd.zeroValue4
  t5 := Tryd.underlying5
  a5 := Tryd.isAgg5
  z5 := Tryd.sizeOf5
  v5 := Tryd.zeroValue5
  t9 := Tryd.underlying9
  a9 := Tryd.isAgg9
  z9 := Tryd.sizeOf9
  v9 := Tryd.zeroValue9
  t22 := Tryd.underlying22
  a22 := Tryd.isAgg22
  z22 := Tryd.sizeOf22
  v22 := Tryd.zeroValue22
  t25 := Tryd.underlying47
  a25 := Tryd.isAgg47
  z25 := Tryd.sizeOf47
  v25 := Tryd.zeroValue47
  t39 := Tryd.underlying93
  a39 := Tryd.isAgg93
  z39 := Tryd.sizeOf93
  v39 := Tryd.zeroValue93
  t45 := Tryd.underlying100
  a45 := Tryd.isAgg100
  z45 := Tryd.sizeOf100
  v45 := Tryd.zeroValue100
  t46 := Tryd.underlying101
  a46 := Tryd.isAgg101
  z46 := Tryd.sizeOf101
  v46 := Tryd.zeroValue101
  t50 := Tryd.underlying70
  a50 := Tryd.isAgg70
  z50 := Tryd.sizeOf70
  v50 := Tryd.zeroValue70
  t53 := Tryd.underlying107
  a53 := Tryd.isAgg107
  z53 := Tryd.sizeOf107
  v53 := Tryd.zeroValue107
  t55 := Tryd.underlying109
  a55 := Tryd.isAgg109
  z55 := Tryd.sizeOf109
  v55 := Tryd.zeroValue109
  t66 := Tryd.underlying110
  a66 := Tryd.isAgg110
  z66 := Tryd.sizeOf110
  v66 := Tryd.zeroValue110
  t70 := Tryd.underlying114
  a70 := Tryd.isAgg114
  z70 := Tryd.sizeOf114
  v70 := Tryd.zeroValue114
  t76 := Tryd.underlying117
  a76 := Tryd.isAgg117
  z76 := Tryd.sizeOf117
  v76 := Tryd.zeroValue117
  t77 := Tryd.underlying118
  a77 := Tryd.isAgg118
  z77 := Tryd.sizeOf118
  v77 := Tryd.zeroValue118 }
end Go.Proofs
namespace Go.Proofs.Eng
open Go Go.Proofs Go.Shelf Go.RowKit
def digF : Nat → Nat → List UInt8
  | 0, _ => []
  | f + 1, u => if u < 10 then [UInt8.ofNat (48 + u)] else digF f (u / 10) ++ [UInt8.ofNat (48 + u % 10)]
def numF (n : Int) : List UInt8 := if n < 0 then 45 :: digF 20 n.natAbs else digF 20 n.toNat
def textOf (l : List Int) : List UInt8 := l.flatMap fun n => numF n ++ [32]
theorem digF_eq : ∀ (f u : Nat), u < 10 ^ (f + 1) → digF (f + 1) u = Lib.decDigits u
  | 0, u, h => by
    have : u < 10 := by simpa using h
    rw [Lib.decDigits, dif_pos this]; simp [digF, this]
  | f + 1, u, h => by
    rw [Lib.decDigits, digF]
    by_cases hu : u < 10
    · rw [if_pos hu, dif_pos hu]
    · rw [if_neg hu, dif_neg hu, digF_eq f (u / 10) (by rw [Nat.pow_succ] at h; omega)]
theorem numF_eq {n : Int} (h0 : -9223372036854775808 ≤ n) (h1 : n ≤ 9223372036854775807) : numF n = Lib.itoa n := by
  unfold numF Lib.itoa
  split
  · rw [digF_eq 19 _ (by omega)]
  · rw [digF_eq 19 _ (by omega)]
theorem numF_len {n : Int} (h0 : -9223372036854775808 ≤ n) (h1 : n ≤ 9223372036854775807) : (numF n).length ≤ 21 := by rw [numF_eq h0 h1]; exact Lib.itoa_length_le n h0 h1
theorem textOf_len : ∀ (l : List Int), (∀ n ∈ l, -9223372036854775808 ≤ n ∧ n ≤ 9223372036854775807) → (textOf l).length ≤ 22 * l.length
  | [], _ => by simp [textOf]
  | n :: l, h => by
    have h1 := numF_len (h n (by simp)).1 (h n (by simp)).2
    have h2 := textOf_len l fun m hm => h m (by simp [hm])
    simp only [textOf, List.flatMap_cons, List.length_append, List.length_cons, List.length_nil] at h2 ⊢
    omega
theorem textOf_take {l : List Int} {k : Nat} {n : Int} (h : l[k]? = some n) : textOf (l.take (k + 1)) = textOf (l.take k) ++ (numF n ++ [32]) := by
  have : l.take (k + 1) = l.take k ++ [n] := by rw [List.take_add_one, h]; rfl
  rw [this, textOf, textOf, List.flatMap_append]; simp
def tabN : String := YtodnkbnbjhcikaaDoor.Rows.sizechangeClosesRow.named.headD ""
theorem own_cells {w : World} {B n : Nat} {v : Value} {l : List UInt8} (h : w.ownsRow B 5 1 v n (Lib.byteCells l)) (h0 : l ≠ []) : ∃ g cap, v = .slice (some ⟨g, 0, none⟩) l.length cap ∧ ∀ j (hj : j < l.length), w.cell? (Addr.add ⟨g, 0, none⟩ j) = some (.int .u8 (l[j].toNat : Int)) := by
  obtain ⟨h1, h2⟩ := h
  rw [Lib.byteCells_length] at h1
  rcases h2 with ⟨_, rfl⟩ | ⟨g, cap, cur, rfl, _, hb, hc, _, hs, ht⟩
  · exact absurd (List.length_eq_zero_iff.1 (by omega)) h0
  · obtain rfl : n = l.length := by omega
    refine ⟨g, cap, rfl, fun j hj => ?_⟩
    have h3 : (cur.toList.take (l.length * 1))[j]? = some (.int .u8 (l[j].toNat : Int)) := by
      rw [ht]; simp [Lib.byteCells, hj]
    rw [List.getElem?_take_of_lt (by omega)] at h3
    have e : (Addr.add ⟨g, 0, none⟩ j : Addr) = ⟨g, j, none⟩ := by unfold Addr.add; split <;> simp_all
    rw [e]
    simp only [World.cell?, hb]
    simpa using h3
theorem textOf_nil {l : List Int} (h : l ≠ []) : textOf l ≠ [] := by
  cases l with
  | nil => exact absurd rfl h
  | cons n l => simp [textOf]
set_option maxHeartbeats 4000000 in
set_option maxRecDepth 1000000 in
theorem key_walk (ns : List Int) (hn : ∀ n ∈ ns, -9223372036854775808 ≤ n ∧ n ≤ 9223372036854775807) (h0 : ns ≠ []) (hlen : ns.length ≤ 1000000) (x y z : Value) (w : World) (Q2 : World → Prop)
    (h36 : ∀ w1, Below w.heap.size w w1 → Calls Tryd.prog 36 #[.agg #[x, y, z]] w1 fun e w2 => (∃ b o cap, e = .returned (.slice (some ⟨b, o, none⟩) ns.length cap) ∧ ∀ (k : Nat) (n : Int), ns[k]? = some n → w2.cell? ⟨b, o + k, none⟩ = some (.int .i64 n)) ∧ Q2 w2)
    (hx : x.oneCell' = true) (hy : y.oneCell' = true) (hz : z.oneCell' = true)
    (htab : ∀ w2, Q2 w2 → Lib.TabBelow Tryd.prog w2.heap.size w2 tabN .u64 Lib.pow10Tab) :
    Calls Tryd.prog 58 #[.agg #[x, y, z]] w fun e w' => e = .returned (.string ⟨(textOf ns).toArray⟩) ∧ ∃ w2, Q2 w2 ∧ Below w2.heap.size w2 w' := by
  go_enter Tryd.func58, Tryd.ntmps58
  go_wp2_with (go_at_call 36; refine (h36 _ ((Below.refl _ w).alloc (Nat.le_refl _) _)).mono ?_; rintro e w2 ⟨⟨b, o, cap, rfl, hc⟩, hQ⟩)
  have htb := htab w2 hQ
  go_loopw [3, 9] (fun v i wr => ∃ k m : Nat, k ≤ ns.length ∧ i = .int .i64 k ∧ Below w2.heap.size w2 wr ∧ wr.ownsRow w2.heap.size 5 1 v m (Lib.byteCells (textOf (ns.take k)))) (fun v i _ => ns.length - (match i with | .int _ z => z.toNat | _ => 0))
  case atStart =>
    exact ⟨0, 0, by simp, rfl, Below.refl _ _, World.ownsRow_nil _ _ _ _⟩
  case round =>
    obtain ⟨k, m, hk, rfl, hB, hI⟩ := hrel
    have hsz := hB.size
    have hm : m = (textOf (ns.take k)).length := by have := hI.1; rw [Lib.byteCells_length] at this; omega
    have hl1 := textOf_len (ns.take k) fun n h => hn n (List.mem_of_mem_take h)
    rw [List.length_take] at hl1
    by_cases hlt : k < ns.length
    · have hget : ns[k]? = some ns[k] := List.getElem?_eq_getElem hlt
      obtain ⟨r0, r1⟩ := hn ns[k] (List.getElem_mem hlt)
      have hl2 := numF_len r0 r1
      have hcell : wr.cell? ⟨b, o + k, none⟩ = some (.int .i64 ns[k]) := by
        have h1 := hc k _ hget
        have hb : b < w2.heap.size := by
          rcases Nat.lt_or_ge b w2.heap.size with h | h
          · exact h
          · simp [World.cell?, Array.getElem?_eq_none h] at h1
        rw [← h1]; exact World.cell?_of_block (w := w2) (a := ⟨b, o + k, none⟩) (hB.block b hb)
      have hk1 : (0 : Int) ≤ k := by omega
      have hk2 : (k : Int) < (ns.length : Int) := by omega
      obtain ⟨i0, hi, hz0, hz1, hz2⟩ := info_parts Tryd.laysM176.i5
      have hcall := Any.strconv_AppendInt_10 Tryd.laysM176 w2.heap.size m ns[k] r0 r1 _ _ wr hI hsz (by omega) (htb.on hB)
      go_wp2_with (go_at_call 66; refine hcall.mono ?_)
      rintro e w3 ⟨v3, rfl, hI3, hb3, _⟩
      have hs3 := hb3.size
      replace hI3 : w3.ownsRow w2.heap.size 5 1 v3 (m + (Lib.itoa ns[k]).length) (Lib.byteCells (textOf (ns.take k)) ++ Lib.byteCells (Lib.itoa ns[k])) := hI3
      have e1 : (Lib.itoa ns[k]).length = (numF ns[k]).length := by rw [numF_eq r0 r1]
      go_wp2_with (at_builtin; refine wpList_append_own _ rfl _ _ 50 rfl w2.heap.size 5 i0 (.int .u8 0) 1 1 Tryd.underlying50 hi hz0 hz1 hz2 rfl (by decide) _ _ _ rfl (hI3.alloc _) ⟨w3.heap.size, 0, none⟩ 1 1 [.int .u8 32] rfl rfl ?c1 ?c2 ?c3 ?c4 ?c5 ?_)
      case c1 =>
        intro j u hj
        match j, hj with
        | 0, hj => simp at hj; subst hj; simp [Addr.add]
      case c2 => intro u hu; simp at hu; subst hu; rfl
      case c3 => unfold maxLen; omega
      case c4 => omega
      case c5 => simp; omega
      intro v4 w4 hI4 hgrow _
      have e3 : Lib.byteCells (textOf (ns.take k)) ++ (Lib.byteCells (Lib.itoa ns[k]) ++ [Value.int .u8 32]) = Lib.byteCells (textOf (ns.take (k + 1))) := by
        rw [textOf_take hget, numF_eq r0 r1, Lib.byteCells_append, Lib.byteCells_append]; rfl
      rw [e3] at hI4
      have hB4 : Below w2.heap.size w2 w4 := ((hB.trans hb3).alloc (by omega) _).grown hgrow (by simp; omega) (fun k hk => (hI3.lt k hk).1)
      go_wp2
      go_roundw
      case rel => exact ⟨k + 1, _, by omega, (by first | rfl | simp), hB4, hI4⟩
      case measure => simp; omega
    · obtain rfl : k = ns.length := by omega
      rw [List.take_length] at hI
      obtain ⟨g, cap, rfl, hcs⟩ := own_cells hI (textOf_nil h0)
      have hcv := run_convert_bytes_back wr 50 9 5 ⟨g, 0, none⟩ cap (textOf ns) Tryd.underlying50 Tryd.underlying5 Tryd.underlying9 hcs
      go_wp2
      go_ret
      exact ⟨rfl, w2, hQ, hB⟩
end Go.Proofs.Eng
