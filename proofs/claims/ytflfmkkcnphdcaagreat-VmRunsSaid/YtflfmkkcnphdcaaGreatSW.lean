/- Blocks of memory; the shelf's contract of a product. No conditions beyond those in the theorems. -/
import Derived.Shelf.Bits.Mul64
import Derived.Test.YtflfmkkcnphdcaaGreatProg
import Derived.WalkKit
import Derived.BigCall
import Derived.Shelf.Abstract
set_option linter.all false
set_option linter.deprecated false
set_option linter.unnecessarySimpa false
set_option linter.unusedVariables false
set_option linter.unusedSimpArgs false
set_option linter.defProp false
namespace Go.Proofs
open Go.Shelf
def Tryz.K5 : Go.Shelf.Ren := ⟨λ | 212 => 138 | 263 => 165 | 264 => 166 | n => n, λ | 46 => 193 | 51 => 216 | 146 => 217 | 53 => 219 | 148 => 220 | n => n, λ | n => n⟩
theorem Tryz.X8 : Go.Proofs.Lays.n212 Tryz.prog Tryz.K5 := {
 mixed := by kernel_rfl
 f212 := Tryz.func138.trans (congrArg some (by kernel_rfl))
 f263 := Tryz.func165.trans (congrArg some (by kernel_rfl))
 f264 := Tryz.func166.trans (congrArg some (by kernel_rfl))
 t46 := Tryz.underlying193
 a46 := Tryz.isAgg193
 z46 := Tryz.sizeOf193
 v46 := Tryz.zeroValue193
 t51 := Tryz.underlying216
 a51 := Tryz.isAgg216
 z51 := Tryz.sizeOf216
 v51 := Tryz.zeroValue216
 t53 := Tryz.underlying219
 a53 := Tryz.isAgg219
 z53 := Tryz.sizeOf219
 v53 := Tryz.zeroValue219
 t146 := Tryz.underlying217
 a146 := Tryz.isAgg217
 z146 := Tryz.sizeOf217
 v146 := Tryz.zeroValue217
 t148 := Tryz.underlying220
 a148 := Tryz.isAgg220
 z148 := Tryz.sizeOf220
 v148 := Tryz.zeroValue220 }
open Go.RowKit Go.Lib in
theorem Tryz.bits_Mul (x y : Nat) (hx : x < 18446744073709551616) (hy : y < 18446744073709551616) (w : World) :
  Calls Tryz.prog 138 #[.int .u64 x, .int .u64 y] w λ e w' => e = .returned (.tuple #[.int .u64 ((x * y / 18446744073709551616 : Nat) : Int), .int .u64 ((x * y % 18446744073709551616 : Nat) : Int)]) /\ w' = w := Any.bits_Mul Tryz.X8 x y hx hy w
end Go.Proofs
namespace Go.Proofs.Eng
open Go Go.Proofs Go.Shelf Go.RowKit
theorem G4 {w : World} {b : Nat} {o : Obj} (h : w.heap[b]? = some o) : b < w.heap.size := (Array.getElem?_eq_some_iff.1 h).1
end Go.Proofs.Eng
