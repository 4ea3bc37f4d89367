/- strings.Builder's writers at this dump, and the text of a list of numbers. No conditions beyond those in the theorems. -/
import Derived.Shelf.Strings.Builder1
import Derived.Shelf.Strconv.Itoa0
import Derived.Shelf.Strconv.Itoa1
import Derived.Shelf.LaysM
import Derived.Shelf.Strconv.Itoa2
import Derived.Shelf.Strconv.Itoa3
import Derived.Shelf.Bits.Mul64
import Derived.Test.YtnipefcppecalaaDoorProg
import Derived.WalkKit
import Derived.BigCall
set_option linter.all false
set_option linter.deprecated false
set_option linter.unnecessarySimpa false
set_option linter.unusedVariables false
set_option linter.unusedSimpArgs false
set_option linter.defProp false
namespace Go.Proofs
open Go.Shelf
def Tryd.lays169_ren : Go.Shelf.Ren := ⟨fun | 169 => 26 | n => n, fun | 70 => 59 | 9 => 9 | 0 => 0 | 72 => 62 | 37 => 60 | 127 => 105 | 3 => 3 | 5 => 5 | n => n, fun | n => n⟩
theorem Tryd.lays169 : Go.Proofs.Lays.n169 Tryd.prog Tryd.lays169_ren := {
 mixed := by kernel_rfl
 f169 := Tryd.func26.trans (congrArg some (by kernel_rfl))
 t0 := Tryd.underlying0
 a0 := Tryd.isAgg0
 z0 := Tryd.sizeOf0
 v0 := Tryd.zeroValue0
 t3 := Tryd.underlying3
 a3 := Tryd.isAgg3
 z3 := Tryd.sizeOf3
 v3 := Tryd.zeroValue3
 t9 := Tryd.underlying9
 a9 := Tryd.isAgg9
 z9 := Tryd.sizeOf9
 v9 := Tryd.zeroValue9
 t37 := Tryd.underlying60
 a37 := Tryd.isAgg60
 z37 := Tryd.sizeOf60
 v37 := Tryd.zeroValue60
 t70 := Tryd.underlying59
 a70 := Tryd.isAgg59
 z70 := Tryd.sizeOf59
 v70 := Tryd.zeroValue59
 t72 := Tryd.underlying62
 a72 := Tryd.isAgg62
 z72 := Tryd.sizeOf62
 v72 := Tryd.zeroValue62
 t127 := Tryd.underlying105
 a127 := Tryd.isAgg105
 z127 := Tryd.sizeOf105
 v127 := Tryd.zeroValue105 }
theorem Tryd.Builder_Extra_169 : Builder.Extra Tryd.prog Tryd.lays169_ren := {
 sizeBuilder := by kernel_rfl
 liesBuilder := by kernel_rfl
 t5 := Tryd.underlying5
 a5 := Tryd.isAgg5
 z5 := Tryd.sizeOf5
 v5 := Tryd.zeroValue5
 infoByte := by kernel_rfl
 cellsByte := by kernel_rfl
 sizeByte := by kernel_rfl
 neB5 := by decide }
open Go.RowKit in
theorem Tryd.Builder_String_any (B b : Nat) (l : List UInt8) (w : World) (h : Lib.IsBuilder 62 5 B b (Lib.byteCells l) w) (hBw : B ≤ w.heap.size) :
  Calls Tryd.prog 26 #[.pointer (some ⟨b, 0, none⟩)] w fun e w' => e = .returned (.string ⟨l.toArray⟩) ∧ Below B w w' := Any.Builder_String_any Tryd.lays169 Tryd.Builder_Extra_169 B b l w h hBw
def Tryd.laysM171_ren : Go.Shelf.Ren := ⟨fun | 171 => 23 | 243 => 51 | 246 => 73 | 283 => 90 | 284 => 91 | 285 => 92 | 286 => 93 | 129 => 103 | 317 => 102 | 318 => 104 | 319 => 105 | 320 => 106 | 337 => 107 | 338 => 108 | n => n, fun | 3 => 3 | 9 => 9 | 2 => 2 | 4 => 4 | 171 => 142 | 0 => 0 | 53 => 125 | 37 => 60 | 5 => 5 | 173 => 145 | 212 => 153 | 51 => 122 | 20 => 20 | 213 => 154 | 46 => 91 | 232 => 157 | 233 => 158 | n => n, fun | 17 => 0 | 18 => 1 | 19 => 2 | n => n⟩
theorem Tryd.laysM171 : Go.Proofs.LaysM.n171 Tryd.prog Tryd.laysM171_ren := {
 mixed := by kernel_rfl
 f129 := Tryd.func103.trans (congrArg some (by kernel_rfl))
 f171 := Tryd.func23.trans (congrArg some (by kernel_rfl))
 f243 := Tryd.func51.trans (congrArg some (by kernel_rfl))
 f246 := Tryd.func73.trans (congrArg some (by kernel_rfl))
 f283 := Tryd.func90.trans (congrArg some (by kernel_rfl))
 f284 := Tryd.func91.trans (congrArg some (by kernel_rfl))
 f285 := Tryd.func92.trans (congrArg some (by kernel_rfl))
 f286 := Tryd.func93.trans (congrArg some (by kernel_rfl))
 f317 := Tryd.func102.trans (congrArg some (by kernel_rfl))
 f318 := Tryd.func104.trans (congrArg some (by kernel_rfl))
 f319 := Tryd.func105.trans (congrArg some (by kernel_rfl))
 f320 := Tryd.func106.trans (congrArg some (by kernel_rfl))
 f337 := Tryd.func107.trans (congrArg some (by kernel_rfl))
 f338 := Tryd.func108.trans (congrArg some (by kernel_rfl))
 t0 := Tryd.underlying0
 a0 := Tryd.isAgg0
 z0 := Tryd.sizeOf0
 v0 := Tryd.zeroValue0
 t2 := Tryd.underlying2
 a2 := Tryd.isAgg2
 z2 := Tryd.sizeOf2
 v2 := Tryd.zeroValue2
 t3 := Tryd.underlying3
 a3 := Tryd.isAgg3
 z3 := Tryd.sizeOf3
 v3 := Tryd.zeroValue3
 t4 := Tryd.underlying4
 a4 := Tryd.isAgg4
 z4 := Tryd.sizeOf4
 v4 := Tryd.zeroValue4
 t5 := Tryd.underlying5
 a5 := Tryd.isAgg5
 z5 := Tryd.sizeOf5
 v5 := Tryd.zeroValue5
 t9 := Tryd.underlying9
 a9 := Tryd.isAgg9
 z9 := Tryd.sizeOf9
 v9 := Tryd.zeroValue9
 t20 := Tryd.underlying20
 a20 := Tryd.isAgg20
 z20 := Tryd.sizeOf20
 v20 := Tryd.zeroValue20
 t37 := Tryd.underlying60
 a37 := Tryd.isAgg60
 z37 := Tryd.sizeOf60
 v37 := Tryd.zeroValue60
 t46 := Tryd.underlying91
 a46 := Tryd.isAgg91
 z46 := Tryd.sizeOf91
 v46 := Tryd.zeroValue91
 t51 := Tryd.underlying122
 a51 := Tryd.isAgg122
 z51 := Tryd.sizeOf122
 v51 := Tryd.zeroValue122
 t53 := Tryd.underlying125
 a53 := Tryd.isAgg125
 z53 := Tryd.sizeOf125
 v53 := Tryd.zeroValue125
 t171 := Tryd.underlying142
 a171 := Tryd.isAgg142
 z171 := Tryd.sizeOf142
 v171 := Tryd.zeroValue142
 t173 := Tryd.underlying145
 a173 := Tryd.isAgg145
 z173 := Tryd.sizeOf145
 v173 := Tryd.zeroValue145
 t212 := Tryd.underlying153
 a212 := Tryd.isAgg153
 z212 := Tryd.sizeOf153
 v212 := Tryd.zeroValue153
 t213 := Tryd.underlying154
 a213 := Tryd.isAgg154
 z213 := Tryd.sizeOf154
 t232 := Tryd.underlying157
 a232 := Tryd.isAgg157
 z232 := Tryd.sizeOf157
 v232 := Tryd.zeroValue157
 t233 := Tryd.underlying158
 a233 := Tryd.isAgg158
 z233 := Tryd.sizeOf158
 v233 := Tryd.zeroValue158
 g17 := by kernel_rfl
 g18 := by kernel_rfl
 g19 := by kernel_rfl
 i0 := by kernel_rfl
 i2 := by kernel_rfl
 i3 := by kernel_rfl
 i4 := by kernel_rfl
 i5 := by kernel_rfl
 i9 := by kernel_rfl
 i20 := by kernel_rfl
 i37 := by kernel_rfl
 i46 := by kernel_rfl
 i51 := by kernel_rfl
 i53 := by kernel_rfl
 i171 := by kernel_rfl
 i173 := by kernel_rfl
 i212 := by kernel_rfl
 i232 := by kernel_rfl
 i233 := by kernel_rfl
 m17 := by kernel_rfl
 m18 := by kernel_rfl
 m19 := by kernel_rfl }
open Go.RowKit Go.Sort Go.Lib in
theorem Tryd.strconv_Itoa (n : Int) (h0 : -9223372036854775808 ≤ n) (h1 : n ≤ 9223372036854775807) (w : World) (htab : Lib.TabIs Tryd.prog w "internal/strconv.uint64pow10" .u64 Lib.pow10Tab) :
  Calls Tryd.prog 23 #[.int .i64 n] w fun e w' => e = .returned (.string ⟨(Lib.itoa n).toArray⟩) ∧ ∃ k os, w' = grow (w.drewN k) os := Any.strconv_Itoa Tryd.laysM171 n h0 h1 w htab
def Tryd.lays212_ren : Go.Shelf.Ren := ⟨fun | 212 => 42 | 263 => 66 | 264 => 67 | n => n, fun | 46 => 91 | 51 => 122 | 146 => 123 | 53 => 125 | 148 => 126 | n => n, fun | n => n⟩
theorem Tryd.lays212 : Go.Proofs.Lays.n212 Tryd.prog Tryd.lays212_ren := {
 mixed := by kernel_rfl
 f212 := Tryd.func42.trans (congrArg some (by kernel_rfl))
 f263 := Tryd.func66.trans (congrArg some (by kernel_rfl))
 f264 := Tryd.func67.trans (congrArg some (by kernel_rfl))
 t46 := Tryd.underlying91
 a46 := Tryd.isAgg91
 z46 := Tryd.sizeOf91
 v46 := Tryd.zeroValue91
 t51 := Tryd.underlying122
 a51 := Tryd.isAgg122
 z51 := Tryd.sizeOf122
 v51 := Tryd.zeroValue122
 t53 := Tryd.underlying125
 a53 := Tryd.isAgg125
 z53 := Tryd.sizeOf125
 v53 := Tryd.zeroValue125
 t146 := Tryd.underlying123
 a146 := Tryd.isAgg123
 z146 := Tryd.sizeOf123
 v146 := Tryd.zeroValue123
 t148 := Tryd.underlying126
 a148 := Tryd.isAgg126
 z148 := Tryd.sizeOf126
 v148 := Tryd.zeroValue126 }
open Go.RowKit Go.Lib in
theorem Tryd.bits_Mul (x y : Nat) (hx : x < 18446744073709551616) (hy : y < 18446744073709551616) (w : World) :
  Calls Tryd.prog 42 #[.int .u64 x, .int .u64 y] w fun e w' => e = .returned (.tuple #[.int .u64 ((x * y / 18446744073709551616 : Nat) : Int), .int .u64 ((x * y % 18446744073709551616 : Nat) : Int)]) ∧ w' = w := Any.bits_Mul Tryd.lays212 x y hx hy w
end Go.Proofs
namespace Go.Proofs.Eng
open Go Go.Proofs Go.Shelf Go.RowKit
set_option maxHeartbeats 1000000 in
set_option maxRecDepth 100000 in
theorem cc_used (b : Nat) (w : World) (h0 : w.cell? ⟨b, 0, none⟩ = some (.pointer (some ⟨b, 0, none⟩))) :
  Calls Tryd.prog 50 #[.pointer (some ⟨b, 0, none⟩)] w fun e w' => e = .returned (.tuple #[]) ∧ w' = w := by
 obtain ⟨j, hj, _⟩ := Option.map_eq_some_iff.1 Tryd.Builder_Extra_169.sizeBuilder
 go_enter Tryd.func50, Tryd.ntmps50
 go_wp2
 rw [Lib.run_neq_ptr_same w _ Tryd.underlying59 hj]
 go_wp2
 go_end0
 exact ⟨rfl, rfl⟩
set_option maxHeartbeats 1000000 in
set_option maxRecDepth 100000 in
theorem cc_fresh (b : Nat) (w : World) (h0 : w.cell? ⟨b, 0, none⟩ = some (.pointer none)) (hsh : w.shape? b = some (62, 2)) (hfz : w.frozen? ⟨b, 0, none⟩ = false) :
  Calls Tryd.prog 50 #[.pointer (some ⟨b, 0, none⟩)] w fun e w' => e = .returned (.tuple #[]) ∧ w' = w.setCell ⟨b, 0, none⟩ (.pointer (some ⟨b, 0, none⟩)) := by
 obtain ⟨j, hj, hjs⟩ := Option.map_eq_some_iff.1 Tryd.Builder_Extra_169.sizeBuilder
 go_enter Tryd.func50, Tryd.ntmps50
 go_wp2
 rw [Lib.run_to_unsafe w ⟨b, 0, none⟩ Tryd.underlying59 Tryd.underlying130 hj (by rw [hjs]; decide) hsh (Nat.zero_lt_succ 1)]
 simp only [Result.andThen]
 rw [Oper.upon_value]
 go_wp2
 rw [run_callFunc_extern Tryd.func72 (by kernel_rfl) (by kernel_rfl) (by kernel_rfl) (e := Extern.AbiNoEscape.same) (by kernel_rfl)]
 rw [Lib.run_noEscape]
 simp only [Result.andThen]
 rw [Oper.upon_value]
 go_wp2
 rw [Lib.run_from_unsafe w ⟨b, 0, none⟩ Tryd.underlying130 Tryd.underlying59 hj hsh Tryd.Builder_Extra_169.liesBuilder]
 simp only [Result.andThen]
 rw [Oper.upon_value]
 go_wp2
 go_end0
 exact ⟨rfl, rfl⟩
theorem cc_any (B b : Nat) (bs : List Value) (w : World) (h : Lib.IsBuilder 62 5 B b bs w) :
  Calls Tryd.prog 50 #[.pointer (some ⟨b, 0, none⟩)] w fun e w' => e = .returned (.tuple #[]) ∧ Lib.BuilderAt 62 5 B b (.pointer (some ⟨b, 0, none⟩)) bs w' ∧ Below B w w' := by
 rcases h with h | h
 ·refine (cc_fresh b w h.cell0 h.shape h.frozen0).mono ?_
  rintro e w' ⟨rfl, rfl⟩
  exact ⟨rfl, h.used _, (Below.refl B w).setCell (p := ⟨b, 0, none⟩) h.1 _⟩
 ·refine (cc_used b w h.cell0).mono ?_
  rintro e w' ⟨rfl, rfl⟩
  exact ⟨rfl, h, Below.refl B _⟩
theorem bl_lt {w : World} {b : Nat} {o : Obj} (h : w.heap[b]? = some o) : b < w.heap.size := (Array.getElem?_eq_some_iff.1 h).1
set_option maxHeartbeats 2000000 in
set_option maxRecDepth 100000 in
theorem wr_string (B b : Nat) (bs : List Value) (s : ByteArray) (w : World) (h : Lib.IsBuilder 62 5 B b bs w) (hlen : bs.length + s.size ≤ 140737488355328) (hBw : B ≤ w.heap.size) :
  Calls Tryd.prog 22 #[.pointer (some ⟨b, 0, none⟩), .string s] w fun e w' => e = .returned (.tuple #[.int .i64 s.size, .nilIface]) ∧ Lib.IsBuilder 62 5 B b (bs ++ Lib.strCells s) w' ∧ Below B w w' := by
 obtain ⟨i0, hi, hz0, hz1, hz2⟩ := info_parts Tryd.Builder_Extra_169.infoByte
 go_enter Tryd.func22, Tryd.ntmps22
 go_wp2_with (go_at_call 50; refine (cc_any B b bs _ h).mono ?_)
 rintro e w1 ⟨rfl, ⟨hB, v, hbk, hown, hne⟩, hb1⟩
 have hs1 := hb1.size
 have hlt := bl_lt hbk
 have c1 : w1.cell? ⟨b, 1, none⟩ = some v := by rw [Lib.cell_of_heap hbk]; rfl
 go_wp2_with (at_builtin; refine Lib.wpList_append_own_string _ rfl _ _ 60 9 rfl B 5 i0 Tryd.underlying60 Tryd.underlying9 hi hz0 hz1 hz2 _ _ _ rfl hown s rfl ?c3 ?c4 ?c5 ?_)
 case c3 => unfold maxLen; omega
 case c4 => omega
 case c5 => omega
 intro v' w2 hown' hgrow _
 have hb2 : w2.heap[b]? = some (.cells #[.pointer (some ⟨b, 0, none⟩), v] 62 (0, 0)) := by
  rw [hgrow.block b hlt (fun e => hne e.symm)]
  exact hbk
 have f1 : w2.frozen? ⟨b, 1, none⟩ = false := Lib.frozen_of_heap hb2 1
 have d1 : w2.cell? ⟨b, 1, none⟩ = some v := by rw [Lib.cell_of_heap hb2]; rfl
 obtain ⟨ao, n', cap, rfl⟩ : ∃ ao n' cap, v' = .slice ao n' cap := by
  rcases hown'.2 with ⟨hv, _⟩ | ⟨g, cap, cur, hv, _⟩
  ·exact ⟨_, _, _, hv⟩
  ·exact ⟨_, _, _, hv⟩
 go_wp2
 go_ret2
 exact ⟨rfl, .inr (Lib.BuilderAt.put (T := 62) (e := 5) hB hb2 (bs' := bs ++ Lib.strCells s) (by simpa [Lib.strCells_length] using hown') (by decide)), (hb1.grown hgrow (by omega) (fun k hk => (hown.lt k hk).1)).setCell (p := ⟨b, 1, none⟩) hB _⟩
end Go.Proofs.Eng
