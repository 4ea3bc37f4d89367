/- The prepared code of the functions. No conditions. -/
import Derived.Test.YtfopdknkbnhlkaaG5
import Derived.Test.YtfopdknkbnhlkaaRows
set_option linter.all false
set_option linter.deprecated false
set_option linter.unnecessarySimpa false
set_option linter.unusedVariables false
set_option linter.unusedSimpArgs false
set_option linter.defProp false
namespace Go.Proofs.Eng
open Go Go.Proofs
def shared : List Nat := [35, 36, 56, 50, 59, 40, 68, 89]
def md (f : Nat) : Md := if shared.contains f then .shared else .pure
noncomputable def pfs (f : Nat) : Option PF := prepF Try.prog (f == 54) f
theorem pfsOK : PfsOK Try.prog pfs := fun f pf h => ⟨_, h⟩
set_option maxRecDepth 100000
-- euclid/euclidlaw55.LambdaChecks
def pf3 : PF := ⟨15,[.t 2],.seq (.reg [⟨some 1,none,.box (.t 0),0,[]⟩,⟨some 2,none,.mov (.c (.v (.bool false))),0,[]⟩]) (.seq (.seq (.reg [⟨some 3,none,.load true 6 (.t 1),0,[]⟩,
 ⟨some 4,none,.call (.c (.fn 12 [])) [.t 3],0,[]⟩,⟨some 5,none,.un .not (.t 4),0,[]⟩]) (.cond (.t 5) (.seq (.reg [⟨some 6,none,.call (.c (.fn 13 [])) [],0,[]⟩,⟨some 2,
 none,.mov (.t 6),0,[]⟩]) .ret) .skip)) (.seq (.dreg [3,0,0,0,0,0] [⟨some 7,none,.load true 6 (.t 1),0,[]⟩,⟨some 8,none,.call (.c (.fn 14 [])) [.t 7],1,[0]⟩,⟨some 9,none,
 .load true 6 (.t 1),2,[]⟩,⟨some 10,none,.call (.c (.fn 15 [])) [.t 9],3,[1,0,2]⟩,⟨some 11,none,.bin .eql (.t 8) (.t 10),4,[3,2,1,0]⟩,⟨some 12,none,.mov (.t 11),5,[4,3,2,
 1,0]⟩,⟨some 13,some (12,true),.call (.c (.fn 13 [])) [],6,[5,4,3,2,1,0]⟩,⟨some 14,none,.pick (.t 12) (.t 13) (.c (.v (.bool false))),7,[6,5,4,3,2,1,0]⟩,⟨some 2,none,
 .mov (.t 14),8,[7,6,5,4,3,2,1,0]⟩]) .ret))⟩
theorem pf3_is : pfs 3 = some pf3 := by kernel_rfl
-- euclid/euclidlaw55.LambdaSubsts
def pf4 : PF := ⟨27,[.t 4],.seq (.reg [⟨some 2,none,.box (.t 0),0,[]⟩,⟨some 4,none,.mov (.c (.v (.bool false))),0,[]⟩]) (.seq (.seq (.reg [⟨some 5,none,.build [.sl [] .nil,
 .v (.int .i64 0),.v (.int .i64 0),.v (.string (ByteArray.mk #[])),.sl [] .nil,.sl [] .nil] [],0,[]⟩,⟨some 6,none,.load true 5 (.t 2),0,[]⟩,⟨some 7,none,
 .bsl (.agg [.v (.int .i64 0),.v (.int .i64 0),.v (.string (ByteArray.mk #[])),.sl [] .nil,.sl [] .nil]) 1 [(0,5,.t 6)],0,[]⟩,⟨some 8,none,.call (.c (.fn 16 [])) [.t 5,
 .t 7],0,[]⟩,⟨some 9,none,.un .not (.t 8),0,[]⟩,⟨some 10,none,.mov (.t 9),0,[]⟩,⟨some 11,some (10,false),.build [.sl [] .nil,.v (.int .i64 0),.v (.int .i64 0),
 .v (.string (ByteArray.mk #[])),.sl [] .nil,.sl [] .nil] [],0,[]⟩,⟨some 12,some (10,false),.mov (.t 1),0,[]⟩,⟨some 13,some (10,false),.call (.c (.fn 16 [])) [.t 11,
 .t 12],0,[]⟩,⟨some 14,some (10,false),.un .not (.t 13),0,[]⟩,⟨some 15,none,.pick (.t 10) (.c (.v (.bool true))) (.t 14),0,[]⟩]) (.cond (.t 15) (.seq (.reg [⟨some 16,
 none,.call (.c (.fn 13 [])) [],0,[]⟩,⟨some 4,none,.mov (.t 16),0,[]⟩]) .ret) .skip)) (.seq (.dreg [5,0,0,0,0,0] [⟨some 17,none,.load true 5 (.t 2),0,[]⟩,⟨some 18,none,
 .mov (.t 1),1,[]⟩,⟨some 19,none,.call (.c (.fn 18 [])) [.t 17,.t 18],2,[1,0]⟩,⟨some 20,none,.load true 5 (.t 2),3,[]⟩,⟨some 21,none,.mov (.t 1),4,[]⟩,⟨some 22,none,
 .call (.c (.fn 19 [])) [.t 20,.t 21],5,[2,1,0,4,3]⟩,⟨some 23,none,.call (.c (.fn 17 [])) [.t 19,.t 22],6,[5,4,3,2,1,0]⟩,⟨some 24,none,.mov (.t 23),7,[6,5,4,3,2,1,0]⟩,
 ⟨some 25,some (24,true),.call (.c (.fn 13 [])) [],8,[7,6,5,4,3,2,1,0]⟩,⟨some 26,none,.pick (.t 24) (.t 25) (.c (.v (.bool false))),9,[8,7,6,5,4,3,2,1,0]⟩,⟨some 4,none,
 .mov (.t 26),10,[9,8,7,6,5,4,3,2,1,0]⟩]) .ret))⟩
theorem pf4_is : pfs 4 = some pf4 := by kernel_rfl
-- euclid/euclidlaw55.LambdaMoves
def pf5 : PF := ⟨57,[.t 4],.seq (.reg [⟨some 2,none,.box (.t 0),0,[]⟩,⟨some 3,none,.box (.t 1),0,[]⟩,⟨some 4,none,.mov (.c (.v (.bool false))),0,[]⟩]) (.seq (.seq (.reg [⟨some 11,none,
 .load true 6 (.t 2),0,[]⟩,⟨some 12,none,.call (.c (.fn 12 [])) [.t 11],0,[]⟩,⟨some 13,none,.un .not (.t 12),0,[]⟩,⟨some 14,none,.mov (.t 13),0,[]⟩,⟨some 15,some (14,
 false),.load true 6 (.t 2),0,[]⟩,⟨some 16,some (14,false),.call (.c (.fn 15 [])) [.t 15],0,[]⟩,⟨some 17,some (14,false),.bin .neq (.t 16) (.c (.v (.int .i64 0))),0,[]⟩,
 ⟨some 18,none,.pick (.t 14) (.c (.v (.bool true))) (.t 17),0,[]⟩,⟨some 19,none,.mov (.t 18),0,[]⟩,⟨some 20,some (19,false),.load true 6 (.t 2),0,[]⟩,⟨some 21,some (19,
 false),.load true 5 (.t 3),0,[]⟩,⟨some 22,some (19,false),.bsl (.agg [.v (.int .i64 0),.v (.int .i64 0),.v (.string (ByteArray.mk #[])),.sl [] .nil,.sl [] .nil]) 1 [(0,
 5,.t 21)],0,[]⟩,⟨some 23,some (19,false),.call (.c (.fn 16 [])) [.t 20,.t 22],0,[]⟩,⟨some 24,some (19,false),.un .not (.t 23),0,[]⟩,⟨some 25,none,.pick (.t 19)
  (.c (.v (.bool true))) (.t 24),0,[]⟩]) (.cond (.t 25) (.seq (.reg [⟨some 26,none,.call (.c (.fn 13 [])) [],0,[]⟩,⟨some 4,none,.mov (.t 26),0,[]⟩]) .ret) .skip))
  (.seq (.reg [⟨some 28,none,.load true 6 (.t 2),0,[]⟩,⟨some 29,none,.load true 5 (.t 3),0,[]⟩,⟨some 30,none,.call (.c (.fn 20 [])) [.t 28,.t 29],0,[]⟩,⟨some 27,none,
 .mov (.t 30),0,[]⟩,⟨some 31,none,.ext (.t 27) 0,0,[]⟩,⟨some 32,none,.ext (.t 27) 1,0,[]⟩,⟨some 33,none,.ext (.t 27) 2,0,[]⟩,⟨some 5,none,.alloc [.v (.int .i64 0),
 .v (.int .i64 0),.v (.string (ByteArray.mk #[])),.sl [] .nil,.sl [] .nil],0,[]⟩,⟨none,none,.store 5 (.t 5) (.t 31),0,[]⟩,⟨some 6,none,.mov (.t 32),0,[]⟩,⟨some 7,none,
 .mov (.t 33),0,[]⟩]) (.seq (.reg [⟨some 35,none,.load true 6 (.t 2),0,[]⟩,⟨some 36,none,.load true 5 (.t 3),0,[]⟩,⟨some 37,none,.call (.c (.fn 21 [])) [.t 35,.t 36],0,[]
 ⟩,⟨some 34,none,.mov (.t 37),0,[]⟩,⟨some 38,none,.ext (.t 34) 0,0,[]⟩,⟨some 39,none,.ext (.t 34) 1,0,[]⟩,⟨some 40,none,.ext (.t 34) 2,0,[]⟩,⟨some 8,none,
 .alloc [.v (.int .i64 0),.v (.int .i64 0),.v (.string (ByteArray.mk #[])),.sl [] .nil,.sl [] .nil],0,[]⟩,⟨none,none,.store 5 (.t 8) (.t 38),0,[]⟩,⟨some 9,none,
 .mov (.t 39),0,[]⟩,⟨some 10,none,.mov (.t 40),0,[]⟩]) (.seq (.reg [⟨some 41,none,.load true 5 (.t 5),0,[]⟩,⟨some 42,none,.load true 5 (.t 8),0,[]⟩,⟨some 43,none,
 .call (.c (.fn 17 [])) [.t 41,.t 42],0,[]⟩,⟨some 44,none,.mov (.t 43),0,[]⟩,⟨some 45,some (44,true),.mov (.t 6),0,[]⟩,⟨some 46,some (44,true),.mov (.t 9),0,[]⟩,⟨some 47,
 some (44,true),.eqb false (.t 45) (.t 46),0,[]⟩,⟨some 48,none,.pick (.t 44) (.t 47) (.c (.v (.bool false))),0,[]⟩,⟨some 49,none,.mov (.t 48),0,[]⟩,⟨some 50,some (49,
 true),.mov (.t 7),0,[]⟩,⟨some 51,some (49,true),.mov (.t 10),0,[]⟩,⟨some 52,some (49,true),.bin .eql (.t 50) (.t 51),0,[]⟩,⟨some 53,none,.pick (.t 49) (.t 52)
  (.c (.v (.bool false))),0,[]⟩,⟨some 54,none,.mov (.t 53),0,[]⟩,⟨some 55,some (54,true),.call (.c (.fn 13 [])) [],0,[]⟩,⟨some 56,none,.pick (.t 54) (.t 55)
  (.c (.v (.bool false))),0,[]⟩,⟨some 4,none,.mov (.t 56),0,[]⟩]) .ret))))⟩
theorem pf5_is : pfs 5 = some pf5 := by kernel_rfl
-- euclid/euclidlaw55.LambdaEvals
def pf6 : PF := ⟨48,[.t 4],.seq (.reg [⟨some 2,none,.box (.t 0),0,[]⟩,⟨some 4,none,.mov (.c (.v (.bool false))),0,[]⟩]) (.seq (.seq (.reg [⟨some 10,none,.load true 6 (.t 2),0,[]⟩,
 ⟨some 11,none,.call (.c (.fn 12 [])) [.t 10],0,[]⟩,⟨some 12,none,.un .not (.t 11),0,[]⟩,⟨some 13,none,.mov (.t 12),0,[]⟩,⟨some 14,some (13,false),.mov (.t 1),0,[]⟩,
 ⟨some 15,some (13,false),.bin .gtr (.t 14) (.c (.v (.int .i64 300))),0,[]⟩,⟨some 16,some (13,false),.mov (.t 15),0,[]⟩,⟨some 17,some (16,true),.mov (.t 1),0,[]⟩,
 ⟨some 18,some (16,true),.bin .leq (.t 17) (.c (.v (.int .i64 1000000))),0,[]⟩,⟨some 19,some (13,false),.pick (.t 16) (.t 18) (.c (.v (.bool false))),0,[]⟩,⟨some 20,none,
 .pick (.t 13) (.c (.v (.bool true))) (.t 19),0,[]⟩]) (.cond (.t 20) (.seq (.reg [⟨some 21,none,.call (.c (.fn 13 [])) [],0,[]⟩,⟨some 4,none,.mov (.t 21),0,[]⟩]) .ret)
  .skip)) (.seq (.reg [⟨some 23,none,.load true 6 (.t 2),0,[]⟩,⟨some 24,none,.mov (.t 1),0,[]⟩,⟨some 25,none,.call (.c (.fn 22 [])) [.t 23,.t 24],0,[]⟩,⟨some 22,none,
 .mov (.t 25),0,[]⟩,⟨some 26,none,.ext (.t 22) 0,0,[]⟩,⟨some 27,none,.ext (.t 22) 1,0,[]⟩,⟨some 5,none,.alloc [.v (.int .i64 0),.v (.int .i64 0),
 .v (.string (ByteArray.mk #[])),.sl [] .nil,.sl [] .nil],0,[]⟩,⟨none,none,.store 5 (.t 5) (.t 26),0,[]⟩,⟨some 6,none,.mov (.t 27),0,[]⟩]) (.seq (.reg [⟨some 29,none,
 .load true 6 (.t 2),0,[]⟩,⟨some 30,none,.mov (.t 1),0,[]⟩,⟨some 31,none,.call (.c (.fn 23 [])) [.t 29,.t 30],0,[]⟩,⟨some 28,none,.mov (.t 31),0,[]⟩,⟨some 32,none,
 .ext (.t 28) 0,0,[]⟩,⟨some 33,none,.ext (.t 28) 1,0,[]⟩,⟨some 34,none,.ext (.t 28) 2,0,[]⟩,⟨some 7,none,.alloc [.v (.int .i64 0),.v (.int .i64 0),
 .v (.string (ByteArray.mk #[])),.sl [] .nil,.sl [] .nil],0,[]⟩,⟨none,none,.store 5 (.t 7) (.t 32),0,[]⟩,⟨some 8,none,.mov (.t 33),0,[]⟩,⟨some 9,none,.mov (.t 34),0,[]⟩])
  (.seq (.seq (.reg [⟨some 35,none,.mov (.t 8),0,[]⟩]) (.cond (.t 35) (.seq (.reg [⟨some 36,none,.call (.c (.fn 13 [])) [],0,[]⟩,⟨some 4,none,.mov (.t 36),0,[]⟩]) .ret)
  .skip)) (.seq (.reg [⟨some 37,none,.load true 5 (.t 5),0,[]⟩,⟨some 38,none,.load true 5 (.t 7),0,[]⟩,⟨some 39,none,.call (.c (.fn 17 [])) [.t 37,.t 38],0,[]⟩,⟨some 40,
 none,.mov (.t 39),0,[]⟩,⟨some 41,some (40,true),.mov (.t 6),0,[]⟩,⟨some 42,some (40,true),.mov (.t 9),0,[]⟩,⟨some 43,some (40,true),.bin .eql (.t 41) (.t 42),0,[]⟩,
 ⟨some 44,none,.pick (.t 40) (.t 43) (.c (.v (.bool false))),0,[]⟩,⟨some 45,none,.mov (.t 44),0,[]⟩,⟨some 46,some (45,true),.call (.c (.fn 13 [])) [],0,[]⟩,⟨some 47,none,
 .pick (.t 45) (.t 46) (.c (.v (.bool false))),0,[]⟩,⟨some 4,none,.mov (.t 47),0,[]⟩]) .ret)))))⟩
theorem pf6_is : pfs 6 = some pf6 := by kernel_rfl
-- euclid/euclidlaw55.LambdaTraces
def pf7 : PF := ⟨115,[.t 4],.seq (.reg [⟨some 2,none,.box (.t 0),0,[]⟩,⟨some 4,none,.mov (.c (.v (.bool false))),0,[]⟩]) (.seq (.seq (.reg [⟨some 19,none,.load true 6 (.t 2),0,[]⟩,
 ⟨some 20,none,.call (.c (.fn 12 [])) [.t 19],0,[]⟩,⟨some 21,none,.un .not (.t 20),0,[]⟩,⟨some 22,none,.mov (.t 21),0,[]⟩,⟨some 23,some (22,false),.load true 6 (.t 2),0,
 []⟩,⟨some 24,some (22,false),.call (.c (.fn 15 [])) [.t 23],0,[]⟩,⟨some 25,some (22,false),.bin .neq (.t 24) (.c (.v (.int .i64 0))),0,[]⟩,⟨some 26,none,.pick (.t 22)
  (.c (.v (.bool true))) (.t 25),0,[]⟩]) (.cond (.t 26) (.seq (.reg [⟨some 27,none,.call (.c (.fn 13 [])) [],0,[]⟩,⟨some 4,none,.mov (.t 27),0,[]⟩]) .ret) .skip))
  (.seq (.reg [⟨some 28,none,.mov (.t 1),0,[]⟩,⟨some 29,none,.conv .i64 (.t 28),0,[]⟩,⟨some 30,none,.bin .rem (.t 29) (.c (.v (.int .i64 120))),0,[]⟩,⟨some 5,none,
 .mov (.t 30),0,[]⟩]) (.seq (.reg [⟨some 31,none,.faddr 1 (.t 2),0,[]⟩,⟨some 32,none,.load true 5 (.t 31),0,[]⟩,⟨some 6,none,.alloc [.v (.int .i64 0),.v (.int .i64 0),
 .v (.string (ByteArray.mk #[])),.sl [] .nil,.sl [] .nil],0,[]⟩,⟨none,none,.store 5 (.t 6) (.t 32),0,[]⟩,⟨some 7,none,.mov (.c (.v (.int .i64 0))),0,[]⟩])
  (.seq (.block 0 (.loop (.block 1 (.seq (.seq (.reg [⟨some 33,none,.load true 5 (.t 6),0,[]⟩,⟨some 34,none,.call (.c (.fn 24 [])) [.t 33],0,[]⟩,⟨some 35,none,
 .bin .gtr (.t 34) (.c (.v (.int .i64 4096))),0,[]⟩]) (.cond (.t 35) (.seq (.reg [⟨some 36,none,.call (.c (.fn 13 [])) [],0,[]⟩,⟨some 4,none,.mov (.t 36),0,[]⟩]) .ret)
  .skip)) (.seq (.reg [⟨some 38,none,.load true 6 (.t 2),0,[]⟩,⟨some 39,none,.load true 5 (.t 6),0,[]⟩,⟨some 40,none,.call (.c (.fn 20 [])) [.t 38,.t 39],0,[]⟩,⟨some 37,
 none,.mov (.t 40),0,[]⟩,⟨some 41,none,.ext (.t 37) 0,0,[]⟩,⟨some 42,none,.ext (.t 37) 1,0,[]⟩,⟨some 43,none,.ext (.t 37) 2,0,[]⟩,⟨some 8,none,.alloc [.v (.int .i64 0),
 .v (.int .i64 0),.v (.string (ByteArray.mk #[])),.sl [] .nil,.sl [] .nil],0,[]⟩,⟨none,none,.store 5 (.t 8) (.t 41),0,[]⟩,⟨some 9,none,.mov (.t 42),0,[]⟩,⟨some 10,none,
 .mov (.t 43),0,[]⟩]) (.seq (.seq (.reg [⟨some 44,none,.mov (.t 10),0,[]⟩,⟨some 45,none,.bin .neq (.t 44) (.c (.v (.int .i64 0))),0,[]⟩]) (.cond (.t 45)
  (.seq (.reg [⟨some 47,none,.load true 6 (.t 2),0,[]⟩,⟨some 48,none,.mov (.t 5),0,[]⟩,⟨some 49,none,.call (.c (.fn 22 [])) [.t 47,.t 48],0,[]⟩,⟨some 46,none,.mov (.t 49)
 ,0,[]⟩,⟨some 50,none,.ext (.t 46) 0,0,[]⟩,⟨some 51,none,.ext (.t 46) 1,0,[]⟩,⟨some 11,none,.alloc [.v (.int .i64 0),.v (.int .i64 0),.v (.string (ByteArray.mk #[])),
 .sl [] .nil,.sl [] .nil],0,[]⟩,⟨none,none,.store 5 (.t 11) (.t 50),0,[]⟩,⟨some 12,none,.mov (.t 51),0,[]⟩]) (.seq (.reg [⟨some 52,none,.mov (.t 12),0,[]⟩,⟨some 53,none,
 .mov (.t 10),0,[]⟩,⟨some 54,none,.bin .eql (.t 52) (.t 53),0,[]⟩,⟨some 55,none,.mov (.t 54),0,[]⟩,⟨some 56,some (55,false),.mov (.t 12),0,[]⟩,⟨some 57,some (55,false),
 .bin .eql (.t 56) (.c (.v (.int .i64 11))),0,[]⟩,⟨some 58,some (55,false),.mov (.t 57),0,[]⟩,⟨some 59,some (58,true),.mov (.t 7),0,[]⟩,⟨some 60,some (58,true),
 .mov (.t 5),0,[]⟩,⟨some 61,some (58,true),.bin .geq (.t 59) (.t 60),0,[]⟩,⟨some 62,some (55,false),.pick (.t 58) (.t 61) (.c (.v (.bool false))),0,[]⟩,⟨some 63,none,
 .pick (.t 55) (.c (.v (.bool true))) (.t 62),0,[]⟩,⟨some 64,none,.mov (.t 63),0,[]⟩,⟨some 65,some (64,true),.call (.c (.fn 13 [])) [],0,[]⟩,⟨some 66,none,.pick (.t 64)
  (.t 65) (.c (.v (.bool false))),0,[]⟩,⟨some 4,none,.mov (.t 66),0,[]⟩]) .ret)) .skip)) (.seq (.seq (.reg [⟨some 67,none,.mov (.t 9),0,[]⟩,⟨some 68,none,.un .not (.t 67)
 ,0,[]⟩]) (.cond (.t 68) (.exit 0) .skip)) (.seq (.seq (.reg [⟨some 69,none,.mov (.t 7),0,[]⟩,⟨some 70,none,.mov (.t 5),0,[]⟩,⟨some 71,none,.bin .eql (.t 69) (.t 70),0,[]
 ⟩]) (.cond (.t 71) (.seq (.reg [⟨some 73,none,.load true 6 (.t 2),0,[]⟩,⟨some 74,none,.mov (.t 5),0,[]⟩,⟨some 75,none,.call (.c (.fn 22 [])) [.t 73,.t 74],0,[]⟩,
 ⟨some 72,none,.mov (.t 75),0,[]⟩,⟨some 76,none,.ext (.t 72) 0,0,[]⟩,⟨some 77,none,.ext (.t 72) 1,0,[]⟩,⟨some 13,none,.alloc [.v (.int .i64 0),.v (.int .i64 0),
 .v (.string (ByteArray.mk #[])),.sl [] .nil,.sl [] .nil],0,[]⟩,⟨none,none,.store 5 (.t 13) (.t 76),0,[]⟩,⟨some 14,none,.mov (.t 77),0,[]⟩]) (.seq (.reg [⟨some 78,none,
 .mov (.t 14),0,[]⟩,⟨some 79,none,.bin .eql (.t 78) (.c (.v (.int .i64 11))),0,[]⟩,⟨some 80,none,.mov (.t 79),0,[]⟩,⟨some 81,some (80,true),.call (.c (.fn 13 [])) [],0,[]
 ⟩,⟨some 82,none,.pick (.t 80) (.t 81) (.c (.v (.bool false))),0,[]⟩,⟨some 4,none,.mov (.t 82),0,[]⟩]) .ret)) .skip)) (.seq (.reg [⟨some 83,none,.load true 5 (.t 8),0,[]⟩
 ,⟨none,none,.store 5 (.t 6) (.t 83),0,[]⟩]) (.reg [⟨some 84,none,.mov (.t 7),0,[]⟩,⟨some 85,none,.bin .add (.t 84) (.c (.v (.int .i64 1))),0,[]⟩,⟨some 7,none,
 .mov (.t 85),0,[]⟩])))))))))) (.seq (.reg [⟨some 87,none,.load true 6 (.t 2),0,[]⟩,⟨some 88,none,.mov (.t 7),0,[]⟩,⟨some 89,none,.call (.c (.fn 22 [])) [.t 87,.t 88],0,
 []⟩,⟨some 86,none,.mov (.t 89),0,[]⟩,⟨some 90,none,.ext (.t 86) 0,0,[]⟩,⟨some 91,none,.ext (.t 86) 1,0,[]⟩,⟨some 15,none,.alloc [.v (.int .i64 0),.v (.int .i64 0),
 .v (.string (ByteArray.mk #[])),.sl [] .nil,.sl [] .nil],0,[]⟩,⟨none,none,.store 5 (.t 15) (.t 90),0,[]⟩,⟨some 16,none,.mov (.t 91),0,[]⟩]) (.seq (.seq (.reg [⟨some 92,
 none,.mov (.t 16),0,[]⟩,⟨some 93,none,.bin .neq (.t 92) (.c (.v (.int .i64 0))),0,[]⟩,⟨some 94,none,.mov (.t 93),0,[]⟩,⟨some 95,some (94,false),.load true 5 (.t 15),0,[]
 ⟩,⟨some 96,some (94,false),.load true 5 (.t 6),0,[]⟩,⟨some 97,some (94,false),.call (.c (.fn 17 [])) [.t 95,.t 96],0,[]⟩,⟨some 98,some (94,false),.un .not (.t 97),0,[]⟩,
 ⟨some 99,none,.pick (.t 94) (.c (.v (.bool true))) (.t 98),0,[]⟩]) (.cond (.t 99) (.seq (.reg [⟨some 4,none,.mov (.c (.v (.bool false))),0,[]⟩]) .ret) .skip))
  (.seq (.seq (.reg [⟨some 100,none,.mov (.t 7),0,[]⟩,⟨some 101,none,.bin .eql (.t 100) (.c (.v (.int .i64 0))),0,[]⟩]) (.cond (.t 101) (.seq (.reg [⟨some 102,none,
 .call (.c (.fn 13 [])) [],0,[]⟩,⟨some 4,none,.mov (.t 102),0,[]⟩]) .ret) .skip)) (.seq (.reg [⟨some 104,none,.load true 6 (.t 2),0,[]⟩,⟨some 105,none,.mov (.t 7),0,[]⟩,
 ⟨some 106,none,.bin .sub (.t 105) (.c (.v (.int .i64 1))),0,[]⟩,⟨some 107,none,.call (.c (.fn 22 [])) [.t 104,.t 106],0,[]⟩,⟨some 103,none,.mov (.t 107),0,[]⟩,⟨some 108,
 none,.ext (.t 103) 0,0,[]⟩,⟨some 109,none,.ext (.t 103) 1,0,[]⟩,⟨some 17,none,.alloc [.v (.int .i64 0),.v (.int .i64 0),.v (.string (ByteArray.mk #[])),.sl [] .nil,
 .sl [] .nil],0,[]⟩,⟨none,none,.store 5 (.t 17) (.t 108),0,[]⟩,⟨some 18,none,.mov (.t 109),0,[]⟩]) (.seq (.reg [⟨some 110,none,.mov (.t 18),0,[]⟩,⟨some 111,none,
 .bin .eql (.t 110) (.c (.v (.int .i64 11))),0,[]⟩,⟨some 112,none,.mov (.t 111),0,[]⟩,⟨some 113,some (112,true),.call (.c (.fn 13 [])) [],0,[]⟩,⟨some 114,none,
 .pick (.t 112) (.t 113) (.c (.v (.bool false))),0,[]⟩,⟨some 4,none,.mov (.t 114),0,[]⟩]) .ret)))))))))⟩
theorem pf7_is : pfs 7 = some pf7 := by kernel_rfl
-- euclid/euclidlaw55.LambdaComposes
def pf8 : PF := ⟨61,[.t 4],.seq (.reg [⟨some 2,none,.box (.t 0),0,[]⟩,⟨some 4,none,.mov (.c (.v (.bool false))),0,[]⟩]) (.seq (.seq (.reg [⟨some 11,none,.build [.sl [] .nil,
 .v (.int .i64 0),.v (.int .i64 0),.v (.string (ByteArray.mk #[])),.sl [] .nil,.sl [] .nil] [],0,[]⟩,⟨some 12,none,.load true 5 (.t 2),0,[]⟩,⟨some 13,none,
 .bsl (.agg [.v (.int .i64 0),.v (.int .i64 0),.v (.string (ByteArray.mk #[])),.sl [] .nil,.sl [] .nil]) 1 [(0,5,.t 12)],0,[]⟩,⟨some 14,none,.call (.c (.fn 16 []))
  [.t 11,.t 13],0,[]⟩,⟨some 15,none,.un .not (.t 14),0,[]⟩,⟨some 16,none,.mov (.t 15),0,[]⟩,⟨some 17,some (16,false),.build [.sl [] .nil,.v (.int .i64 0),.v (.int .i64 0)
 ,.v (.string (ByteArray.mk #[])),.sl [] .nil,.sl [] .nil] [],0,[]⟩,⟨some 18,some (16,false),.mov (.t 1),0,[]⟩,⟨some 19,some (16,false),.call (.c (.fn 16 [])) [.t 17,
 .t 18],0,[]⟩,⟨some 20,some (16,false),.un .not (.t 19),0,[]⟩,⟨some 21,none,.pick (.t 16) (.c (.v (.bool true))) (.t 20),0,[]⟩]) (.cond (.t 21) (.seq (.reg [⟨some 22,
 none,.call (.c (.fn 13 [])) [],0,[]⟩,⟨some 4,none,.mov (.t 22),0,[]⟩]) .ret) .skip)) (.seq (.seq (.reg [⟨some 23,none,.mov (.t 1),0,[]⟩,⟨some 24,none,.lenS (.t 23),0,[]⟩
 ,⟨some 25,none,.mov (.c (.v (.int .i64 0))),0,[]⟩]) (.block 0 (.loop (.seq (.reg [⟨some 26,none,.bin .lss (.t 25) (.t 24),0,[]⟩]) (.seq (.cond (.t 26) .skip (.exit 0))
  (.seq (.block 1 (.seq (.reg [⟨some 27,none,.iaddr 5 (.t 23) (.t 25),0,[]⟩,⟨some 28,none,.load true 5 (.t 27),0,[]⟩,⟨some 6,none,.alloc [.v (.int .i64 0),
 .v (.int .i64 0),.v (.string (ByteArray.mk #[])),.sl [] .nil,.sl [] .nil],0,[]⟩,⟨none,none,.store 5 (.t 6) (.t 28),0,[]⟩]) (.seq (.reg [⟨some 29,none,.faddr 4 (.t 6),0,
 []⟩,⟨some 30,none,.load false 1 (.t 29),0,[]⟩,⟨some 31,none,.lenS (.t 30),0,[]⟩,⟨some 32,none,.bin .gtr (.t 31) (.c (.v (.int .i64 0))),0,[]⟩,⟨some 33,none,.mov (.t 32),
 0,[]⟩,⟨some 34,some (33,false),.faddr 0 (.t 6),0,[]⟩,⟨some 35,some (33,false),.load false 1 (.t 34),0,[]⟩,⟨some 36,some (33,false),.bin .eql (.t 35)
  (.c (.v (.int .i64 0))),0,[]⟩,⟨some 37,none,.pick (.t 33) (.c (.v (.bool true))) (.t 36),0,[]⟩]) (.cond (.t 37) (.seq (.reg [⟨some 38,none,.call (.c (.fn 13 [])) [],0,
 []⟩,⟨some 4,none,.mov (.t 38),0,[]⟩]) .ret) .skip)))) (.reg [⟨some 39,none,.bin .add (.t 25) (.c (.v (.int .i64 1))),0,[]⟩,⟨some 25,none,.mov (.t 39),0,[]⟩])))))))
  (.seq (.reg [⟨some 40,none,.load true 5 (.t 2),0,[]⟩,⟨some 41,none,.mov (.t 1),0,[]⟩,⟨some 42,none,.call (.c (.fn 18 [])) [.t 40,.t 41],0,[]⟩,⟨some 7,none,
 .alloc [.v (.int .i64 0),.v (.int .i64 0),.v (.string (ByteArray.mk #[])),.sl [] .nil,.sl [] .nil],0,[]⟩,⟨none,none,.store 5 (.t 7) (.t 42),0,[]⟩])
  (.seq (.reg [⟨some 43,none,.load true 5 (.t 2),0,[]⟩,⟨some 8,none,.alloc [.v (.int .i64 0),.v (.int .i64 0),.v (.string (ByteArray.mk #[])),.sl [] .nil,.sl [] .nil],0,
 []⟩,⟨none,none,.store 5 (.t 8) (.t 43),0,[]⟩]) (.seq (.seq (.reg [⟨some 44,none,.mov (.t 1),0,[]⟩,⟨some 45,none,.lenS (.t 44),0,[]⟩,⟨some 46,none,
 .mov (.c (.v (.int .i64 0))),0,[]⟩]) (.block 2 (.loop (.seq (.reg [⟨some 47,none,.bin .lss (.t 46) (.t 45),0,[]⟩]) (.seq (.cond (.t 47) .skip (.exit 2))
  (.seq (.block 3 (.seq (.reg [⟨some 48,none,.iaddr 5 (.t 44) (.t 46),0,[]⟩,⟨some 49,none,.load true 5 (.t 48),0,[]⟩,⟨some 10,none,.alloc [.v (.int .i64 0),
 .v (.int .i64 0),.v (.string (ByteArray.mk #[])),.sl [] .nil,.sl [] .nil],0,[]⟩,⟨none,none,.store 5 (.t 10) (.t 49),0,[]⟩]) (.reg [⟨some 50,none,.load true 5 (.t 8),0,[]
 ⟩,⟨some 51,none,.load true 5 (.t 10),0,[]⟩,⟨some 52,none,.bsl (.agg [.v (.int .i64 0),.v (.int .i64 0),.v (.string (ByteArray.mk #[])),.sl [] .nil,.sl [] .nil]) 1 [(0,5,
 .t 51)],0,[]⟩,⟨some 53,none,.call (.c (.fn 18 [])) [.t 50,.t 52],0,[]⟩,⟨none,none,.store 5 (.t 8) (.t 53),0,[]⟩]))) (.reg [⟨some 54,none,.bin .add (.t 46)
  (.c (.v (.int .i64 1))),0,[]⟩,⟨some 46,none,.mov (.t 54),0,[]⟩]))))))) (.seq (.reg [⟨some 55,none,.load true 5 (.t 7),0,[]⟩,⟨some 56,none,.load true 5 (.t 8),0,[]⟩,
 ⟨some 57,none,.call (.c (.fn 17 [])) [.t 55,.t 56],0,[]⟩,⟨some 58,none,.mov (.t 57),0,[]⟩,⟨some 59,some (58,true),.call (.c (.fn 13 [])) [],0,[]⟩,⟨some 60,none,
 .pick (.t 58) (.t 59) (.c (.v (.bool false))),0,[]⟩,⟨some 4,none,.mov (.t 60),0,[]⟩]) .ret))))))⟩
theorem pf8_is : pfs 8 = some pf8 := by kernel_rfl
-- euclid/euclidlaw55.LambdaAdds
def pf9 : PF := ⟨54,[.t 4],.seq (.reg [⟨some 4,none,.mov (.c (.v (.bool false))),0,[]⟩]) (.seq (.reg [⟨some 11,none,.mov (.t 0),0,[]⟩,⟨some 12,none,.bin .rem (.t 11)
  (.c (.v (.int .u8 20))),0,[]⟩,⟨some 13,none,.conv .i64 (.t 12),0,[]⟩,⟨some 14,none,.mov (.t 1),0,[]⟩,⟨some 15,none,.bin .rem (.t 14) (.c (.v (.int .u8 20))),0,[]⟩,
 ⟨some 16,none,.conv .i64 (.t 15),0,[]⟩,⟨some 5,none,.mov (.t 13),0,[]⟩,⟨some 6,none,.mov (.t 16),0,[]⟩]) (.seq (.reg [⟨some 18,none,.mov (.t 5),0,[]⟩,⟨some 19,none,
 .mov (.t 6),0,[]⟩,⟨some 20,none,.call (.c (.fn 25 [])) [.t 18,.t 19],0,[]⟩,⟨some 21,none,.mov (.t 5),0,[]⟩,⟨some 22,none,.bin .mul (.c (.v (.int .i64 4))) (.t 21),0,[]⟩,
 ⟨some 23,none,.bin .add (.t 22) (.c (.v (.int .i64 4))),0,[]⟩,⟨some 24,none,.call (.c (.fn 22 [])) [.t 20,.t 23],0,[]⟩,⟨some 17,none,.mov (.t 24),0,[]⟩,⟨some 25,none,
 .ext (.t 17) 0,0,[]⟩,⟨some 26,none,.ext (.t 17) 1,0,[]⟩,⟨some 7,none,.alloc [.v (.int .i64 0),.v (.int .i64 0),.v (.string (ByteArray.mk #[])),.sl [] .nil,.sl [] .nil],
 0,[]⟩,⟨none,none,.store 5 (.t 7) (.t 25),0,[]⟩,⟨some 8,none,.mov (.t 26),0,[]⟩]) (.seq (.reg [⟨some 28,none,.mov (.t 5),0,[]⟩,⟨some 29,none,.mov (.t 6),0,[]⟩,⟨some 30,
 none,.call (.c (.fn 25 [])) [.t 28,.t 29],0,[]⟩,⟨some 31,none,.mov (.t 5),0,[]⟩,⟨some 32,none,.bin .mul (.c (.v (.int .i64 4))) (.t 31),0,[]⟩,⟨some 33,none,
 .bin .add (.t 32) (.c (.v (.int .i64 3))),0,[]⟩,⟨some 34,none,.call (.c (.fn 22 [])) [.t 30,.t 33],0,[]⟩,⟨some 27,none,.mov (.t 34),0,[]⟩,⟨some 35,none,.ext (.t 27) 0,0,
 []⟩,⟨some 36,none,.ext (.t 27) 1,0,[]⟩,⟨some 9,none,.alloc [.v (.int .i64 0),.v (.int .i64 0),.v (.string (ByteArray.mk #[])),.sl [] .nil,.sl [] .nil],0,[]⟩,⟨none,none,
 .store 5 (.t 9) (.t 35),0,[]⟩,⟨some 10,none,.mov (.t 36),0,[]⟩]) (.seq (.dreg [0,0,0,5,0,0,0,0,0,0,0,0,0] [⟨some 37,none,.mov (.t 8),0,[]⟩,⟨some 38,none,
 .bin .eql (.t 37) (.c (.v (.int .i64 0))),1,[0]⟩,⟨some 39,none,.mov (.t 38),2,[1,0]⟩,⟨some 40,some (39,true),.load true 5 (.t 7),3,[2,1,0]⟩,⟨some 41,some (39,true),
 .mov (.t 5),4,[2,1,0]⟩,⟨some 42,some (39,true),.mov (.t 6),5,[2,1,0]⟩,⟨some 43,some (39,true),.bin .add (.t 41) (.t 42),6,[5,4,2,1,0]⟩,⟨some 44,some (39,true),
 .call (.c (.fn 26 [])) [.t 43],7,[6,5,4,2,1,0]⟩,⟨some 45,some (39,true),.call (.c (.fn 17 [])) [.t 40,.t 44],8,[7,6,5,4,3,2,1,0]⟩,⟨some 46,none,.pick (.t 39) (.t 45)
  (.c (.v (.bool false))),9,[8,7,6,5,4,3,2,1,0]⟩,⟨some 47,none,.mov (.t 46),10,[9,8,7,6,5,4,3,2,1,0]⟩,⟨some 48,some (47,true),.mov (.t 10),11,[10,9,8,7,6,5,4,3,2,1,0]⟩,
 ⟨some 49,some (47,true),.bin .eql (.t 48) (.c (.v (.int .i64 11))),12,[11,10,9,8,7,6,5,4,3,2,1,0]⟩,⟨some 50,none,.pick (.t 47) (.t 49) (.c (.v (.bool false))),13,[12,11,
 10,9,8,7,6,5,4,3,2,1,0]⟩,⟨some 51,none,.mov (.t 50),14,[13,12,11,10,9,8,7,6,5,4,3,2,1,0]⟩,⟨some 52,some (51,true),.call (.c (.fn 13 [])) [],15,[14,13,12,11,10,9,8,7,6,5,
 4,3,2,1,0]⟩,⟨some 53,none,.pick (.t 51) (.t 52) (.c (.v (.bool false))),16,[15,14,13,12,11,10,9,8,7,6,5,4,3,2,1,0]⟩,⟨some 4,none,.mov (.t 53),17,[16,15,14,13,12,11,10,9,
 8,7,6,5,4,3,2,1,0]⟩]) .ret))))⟩
theorem pf9_is : pfs 9 = some pf9 := by kernel_rfl
-- euclid/euclidlaw55.LambdaDatas
def pf10 : PF := ⟨38,[.t 2],.seq (.reg [⟨some 1,none,.box (.t 0),0,[]⟩,⟨some 2,none,.mov (.c (.v (.bool false))),0,[]⟩]) (.seq (.seq (.reg [⟨some 10,none,.load true 5 (.t 1),0,[]⟩,
 ⟨some 11,none,.call (.c (.fn 27 [])) [.t 10,.c (.v (.int .i64 60)),.c (.v (.int .i64 60))],0,[]⟩,⟨some 9,none,.mov (.t 11),0,[]⟩,⟨some 12,none,.ext (.t 9) 0,0,[]⟩,
 ⟨some 13,none,.ext (.t 9) 1,0,[]⟩,⟨some 3,none,.mov (.t 12),0,[]⟩,⟨some 4,none,.mov (.t 13),0,[]⟩]) (.seq (.reg [⟨some 14,none,.mov (.t 4),0,[]⟩,⟨some 15,none,
 .un .not (.t 14),0,[]⟩]) (.cond (.t 15) (.seq (.reg [⟨some 16,none,.call (.c (.fn 13 [])) [],0,[]⟩,⟨some 2,none,.mov (.t 16),0,[]⟩]) .ret) .skip)))
  (.seq (.reg [⟨some 18,none,.load true 5 (.t 1),0,[]⟩,⟨some 19,none,.call (.c (.fn 28 [])) [.t 18],0,[]⟩,⟨some 17,none,.mov (.t 19),0,[]⟩,⟨some 20,none,.ext (.t 17) 0,0,
 []⟩,⟨some 21,none,.ext (.t 17) 1,0,[]⟩,⟨some 5,none,.alloc [.v (.string (ByteArray.mk #[])),.sl [] .nil],0,[]⟩,⟨none,none,.store 2 (.t 5) (.t 20),0,[]⟩,⟨some 6,none,
 .mov (.t 21),0,[]⟩]) (.seq (.reg [⟨some 23,none,.load true 5 (.t 1),0,[]⟩,⟨some 24,none,.call (.c (.fn 29 [])) [.t 23],0,[]⟩,⟨some 22,none,.mov (.t 24),0,[]⟩,⟨some 25,
 none,.ext (.t 22) 0,0,[]⟩,⟨some 26,none,.ext (.t 22) 1,0,[]⟩,⟨some 7,none,.alloc [.v (.string (ByteArray.mk #[])),.sl [] .nil],0,[]⟩,⟨none,none,.store 2 (.t 7) (.t 25),
 0,[]⟩,⟨some 8,none,.mov (.t 26),0,[]⟩]) (.seq (.reg [⟨some 27,none,.load true 2 (.t 5),0,[]⟩,⟨some 28,none,.load true 2 (.t 7),0,[]⟩,⟨some 29,none,.call (.c (.fn 30 []))
  [.t 27,.t 28],0,[]⟩,⟨some 30,none,.mov (.t 29),0,[]⟩,⟨some 31,some (30,true),.mov (.t 6),0,[]⟩,⟨some 32,some (30,true),.mov (.t 8),0,[]⟩,⟨some 33,some (30,true),
 .eqb false (.t 31) (.t 32),0,[]⟩,⟨some 34,none,.pick (.t 30) (.t 33) (.c (.v (.bool false))),0,[]⟩,⟨some 35,none,.mov (.t 34),0,[]⟩,⟨some 36,some (35,true),
 .call (.c (.fn 13 [])) [],0,[]⟩,⟨some 37,none,.pick (.t 35) (.t 36) (.c (.v (.bool false))),0,[]⟩,⟨some 2,none,.mov (.t 37),0,[]⟩]) .ret))))⟩
theorem pf10_is : pfs 10 = some pf10 := by kernel_rfl
-- euclid/euclidlaw55.LambdaTrees
def pf11 : PF := ⟨50,[.t 2],.seq (.reg [⟨some 1,none,.box (.t 0),0,[]⟩,⟨some 2,none,.mov (.c (.v (.bool false))),0,[]⟩]) (.seq (.seq (.reg [⟨some 11,none,.load true 2 (.t 1),0,[]⟩,
 ⟨some 12,none,.call (.c (.fn 31 [])) [.t 11,.c (.v (.int .i64 40))],0,[]⟩,⟨some 10,none,.mov (.t 12),0,[]⟩,⟨some 13,none,.ext (.t 10) 0,0,[]⟩,⟨some 14,none,.ext (.t 10)
  1,0,[]⟩,⟨some 3,none,.mov (.t 13),0,[]⟩,⟨some 4,none,.mov (.t 14),0,[]⟩]) (.seq (.reg [⟨some 15,none,.mov (.t 4),0,[]⟩,⟨some 16,none,.un .not (.t 15),0,[]⟩])
  (.cond (.t 16) (.seq (.reg [⟨some 17,none,.call (.c (.fn 13 [])) [],0,[]⟩,⟨some 2,none,.mov (.t 17),0,[]⟩]) .ret) .skip))) (.seq (.reg [⟨some 18,none,
 .load true 2 (.t 1),0,[]⟩,⟨some 19,none,.call (.c (.fn 32 [])) [.t 18],0,[]⟩,⟨some 5,none,.alloc [.v (.int .i64 0),.v (.int .i64 0),.v (.string (ByteArray.mk #[])),
 .sl [] .nil,.sl [] .nil],0,[]⟩,⟨none,none,.store 5 (.t 5) (.t 19),0,[]⟩]) (.seq (.reg [⟨some 21,none,.load true 5 (.t 5),0,[]⟩,⟨some 22,none,.call (.c (.fn 28 []))
  [.t 21],0,[]⟩,⟨some 20,none,.mov (.t 22),0,[]⟩,⟨some 23,none,.ext (.t 20) 0,0,[]⟩,⟨some 24,none,.ext (.t 20) 1,0,[]⟩,⟨some 6,none,.alloc [.v (.string (ByteArray.mk #[])
 ),.sl [] .nil],0,[]⟩,⟨none,none,.store 2 (.t 6) (.t 23),0,[]⟩,⟨some 7,none,.mov (.t 24),0,[]⟩]) (.seq (.reg [⟨some 26,none,.load true 5 (.t 5),0,[]⟩,⟨some 27,none,
 .build [.sl [] .nil,.v (.int .i64 0),.v (.int .i64 0),.v (.string (ByteArray.mk #[])),.sl [] .nil,.sl [] .nil] [(1,5,.t 26)],0,[]⟩,⟨some 28,none,.call (.c (.fn 22 []))
  [.t 27,.c (.v (.int .i64 0))],0,[]⟩,⟨some 25,none,.mov (.t 28),0,[]⟩,⟨some 29,none,.ext (.t 25) 0,0,[]⟩,⟨some 30,none,.ext (.t 25) 1,0,[]⟩,⟨some 8,none,
 .alloc [.v (.int .i64 0),.v (.int .i64 0),.v (.string (ByteArray.mk #[])),.sl [] .nil,.sl [] .nil],0,[]⟩,⟨none,none,.store 5 (.t 8) (.t 29),0,[]⟩,⟨some 9,none,
 .mov (.t 30),0,[]⟩]) (.seq (.seq (.reg [⟨some 31,none,.mov (.t 7),0,[]⟩,⟨some 32,none,.mov (.t 9),0,[]⟩,⟨some 33,none,.bin .eql (.t 32) (.c (.v (.int .i64 0))),0,[]⟩,
 ⟨some 34,none,.eqb true (.t 31) (.t 33),0,[]⟩]) (.cond (.t 34) (.seq (.reg [⟨some 2,none,.mov (.c (.v (.bool false))),0,[]⟩]) .ret) .skip)) (.seq (.reg [⟨some 35,none,
 .mov (.t 7),0,[]⟩,⟨some 36,none,.un .not (.t 35),0,[]⟩,⟨some 37,none,.mov (.t 36),0,[]⟩,⟨some 38,some (37,false),.load true 2 (.t 6),0,[]⟩,⟨some 39,some (37,false),
 .load true 2 (.t 1),0,[]⟩,⟨some 40,some (37,false),.call (.c (.fn 30 [])) [.t 38,.t 39],0,[]⟩,⟨some 41,some (37,false),.mov (.t 40),0,[]⟩,⟨some 42,some (41,true),
 .load true 5 (.t 8),0,[]⟩,⟨some 43,some (41,true),.load true 5 (.t 5),0,[]⟩,⟨some 44,some (41,true),.call (.c (.fn 17 [])) [.t 42,.t 43],0,[]⟩,⟨some 45,some (37,false),
 .pick (.t 41) (.t 44) (.c (.v (.bool false))),0,[]⟩,⟨some 46,none,.pick (.t 37) (.c (.v (.bool true))) (.t 45),0,[]⟩,⟨some 47,none,.mov (.t 46),0,[]⟩,⟨some 48,some (47,
 true),.call (.c (.fn 13 [])) [],0,[]⟩,⟨some 49,none,.pick (.t 47) (.t 48) (.c (.v (.bool false))),0,[]⟩,⟨some 2,none,.mov (.t 49),0,[]⟩]) .ret))))))⟩
theorem pf11_is : pfs 11 = some pf11 := by kernel_rfl
-- euclid/euclidlaw55.Few
def pf12 : PF := ⟨46,[.t 2],.seq (.reg [⟨some 1,none,.box (.t 0),0,[]⟩,⟨some 2,none,.mov (.c (.v (.bool false))),0,[]⟩]) (.seq (.reg [⟨some 10,none,.faddr 1 (.t 1),0,[]⟩,⟨some 11,none,
 .load true 5 (.t 10),0,[]⟩,⟨some 12,none,.call (.c (.fn 27 [])) [.t 11,.c (.v (.int .i64 60)),.c (.v (.int .i64 60))],0,[]⟩,⟨some 9,none,.mov (.t 12),0,[]⟩,⟨some 13,
 none,.ext (.t 9) 0,0,[]⟩,⟨some 14,none,.ext (.t 9) 1,0,[]⟩,⟨some 3,none,.mov (.t 13),0,[]⟩,⟨some 4,none,.mov (.t 14),0,[]⟩]) (.seq (.seq (.reg [⟨some 15,none,
 .faddr 0 (.t 1),0,[]⟩,⟨some 16,none,.load false 1 (.t 15),0,[]⟩,⟨some 17,none,.lenS (.t 16),0,[]⟩,⟨some 18,none,.mov (.c (.v (.int .i64 0))),0,[]⟩])
  (.block 0 (.loop (.seq (.reg [⟨some 19,none,.bin .lss (.t 18) (.t 17),0,[]⟩]) (.seq (.cond (.t 19) .skip (.exit 0)) (.seq (.block 1 (.seq (.reg [⟨some 20,none,
 .iaddr 6 (.t 16) (.t 18),0,[]⟩,⟨some 21,none,.load true 6 (.t 20),0,[]⟩,⟨some 6,none,.alloc [.v (.string (ByteArray.mk #[])),.v (.int .i64 0),.v (.int .i64 0),
 .v (.string (ByteArray.mk #[])),.sl [] .nil,.sl [] .nil],0,[]⟩,⟨none,none,.store 6 (.t 6) (.t 21),0,[]⟩]) (.seq (.reg [⟨some 23,none,.faddr 1 (.t 6),0,[]⟩,⟨some 24,none,
 .load true 5 (.t 23),0,[]⟩,⟨some 25,none,.call (.c (.fn 27 [])) [.t 24,.c (.v (.int .i64 60)),.c (.v (.int .i64 60))],0,[]⟩,⟨some 22,none,.mov (.t 25),0,[]⟩,⟨some 26,
 none,.ext (.t 22) 0,0,[]⟩,⟨some 27,none,.ext (.t 22) 1,0,[]⟩,⟨some 7,none,.mov (.t 26),0,[]⟩,⟨some 8,none,.mov (.t 27),0,[]⟩]) (.reg [⟨some 28,none,.mov (.t 4),0,[]⟩,
 ⟨some 29,none,.mov (.t 28),0,[]⟩,⟨some 30,some (29,true),.mov (.t 8),0,[]⟩,⟨some 31,none,.pick (.t 29) (.t 30) (.c (.v (.bool false))),0,[]⟩,⟨some 32,none,.mov (.t 31),
 0,[]⟩,⟨some 33,some (32,true),.faddr 0 (.t 6),0,[]⟩,⟨some 34,some (32,true),.load false 1 (.t 33),0,[]⟩,⟨some 35,some (32,true),.lenT (.t 34),0,[]⟩,⟨some 36,some (32,
 true),.bin .leq (.t 35) (.c (.v (.int .i64 80))),0,[]⟩,⟨some 37,none,.pick (.t 32) (.t 36) (.c (.v (.bool false))),0,[]⟩,⟨some 4,none,.mov (.t 37),0,[]⟩]))))
  (.reg [⟨some 38,none,.bin .add (.t 18) (.c (.v (.int .i64 1))),0,[]⟩,⟨some 18,none,.mov (.t 38),0,[]⟩]))))))) (.seq (.reg [⟨some 39,none,.mov (.t 4),0,[]⟩,⟨some 40,
 none,.mov (.t 39),0,[]⟩,⟨some 41,some (40,true),.faddr 0 (.t 1),0,[]⟩,⟨some 42,some (40,true),.load false 1 (.t 41),0,[]⟩,⟨some 43,some (40,true),.lenS (.t 42),0,[]⟩,
 ⟨some 44,some (40,true),.bin .leq (.t 43) (.c (.v (.int .i64 6))),0,[]⟩,⟨some 45,none,.pick (.t 40) (.t 44) (.c (.v (.bool false))),0,[]⟩,⟨some 2,none,.mov (.t 45),0,[]⟩
 ]) .ret)))⟩
theorem pf12_is : pfs 12 = some pf12 := by kernel_rfl
-- euclid/euclidlaw55.awake
def pf13 : PF := ⟨106,[.t 0],.seq (.reg [⟨some 0,none,.mov (.c (.v (.bool false))),0,[]⟩]) (.seq (.reg [⟨some 14,none,.call (.c (.fn 25 [])) [.c (.v (.int .i64 1)),.c (.v (.int .i64 1))]
 ,0,[]⟩,⟨some 15,none,.call (.c (.fn 22 [])) [.t 14,.c (.v (.int .i64 8))],0,[]⟩,⟨some 13,none,.mov (.t 15),0,[]⟩,⟨some 16,none,.ext (.t 13) 0,0,[]⟩,⟨some 17,none,
 .ext (.t 13) 1,0,[]⟩,⟨some 1,none,.alloc [.v (.int .i64 0),.v (.int .i64 0),.v (.string (ByteArray.mk #[])),.sl [] .nil,.sl [] .nil],0,[]⟩,⟨none,none,.store 5 (.t 1)
  (.t 16),0,[]⟩,⟨some 2,none,.mov (.t 17),0,[]⟩]) (.seq (.reg [⟨some 19,none,.call (.c (.fn 25 [])) [.c (.v (.int .i64 1)),.c (.v (.int .i64 1))],0,[]⟩,⟨some 20,none,
 .call (.c (.fn 22 [])) [.t 19,.c (.v (.int .i64 7))],0,[]⟩,⟨some 18,none,.mov (.t 20),0,[]⟩,⟨some 21,none,.ext (.t 18) 0,0,[]⟩,⟨some 22,none,.ext (.t 18) 1,0,[]⟩,
 ⟨some 3,none,.alloc [.v (.int .i64 0),.v (.int .i64 0),.v (.string (ByteArray.mk #[])),.sl [] .nil,.sl [] .nil],0,[]⟩,⟨none,none,.store 5 (.t 3) (.t 21),0,[]⟩,⟨some 4,
 none,.mov (.t 22),0,[]⟩]) (.seq (.reg [⟨some 23,none,.call (.c (.fn 34 [])) [.c (.v (.int .i64 0))],0,[]⟩,⟨some 24,none,.call (.c (.fn 34 [])) [.c (.v (.int .i64 2))],0,
 []⟩,⟨some 25,none,.bsl (.agg [.v (.int .i64 0),.v (.int .i64 0),.v (.string (ByteArray.mk #[])),.sl [] .nil,.sl [] .nil]) 2 [(0,5,.t 23),(5,5,.t 24)],0,[]⟩,⟨some 26,
 none,.call (.c (.fn 33 [])) [.c (.v (.int .i64 2)),.t 25],0,[]⟩,⟨some 27,none,.call (.c (.fn 34 [])) [.c (.v (.int .i64 0))],0,[]⟩,⟨some 28,none,
 .bsl (.agg [.v (.int .i64 0),.v (.int .i64 0),.v (.string (ByteArray.mk #[])),.sl [] .nil,.sl [] .nil]) 1 [(0,5,.t 27)],0,[]⟩,⟨some 29,none,.call (.c (.fn 33 []))
  [.c (.v (.int .i64 1)),.t 28],0,[]⟩,⟨some 30,none,.bsl (.agg [.v (.int .i64 0),.v (.int .i64 0),.v (.string (ByteArray.mk #[])),.sl [] .nil,.sl [] .nil]) 1 [(0,5,.t 29)
 ],0,[]⟩,⟨some 31,none,.call (.c (.fn 18 [])) [.t 26,.t 30],0,[]⟩,⟨some 5,none,.alloc [.v (.int .i64 0),.v (.int .i64 0),.v (.string (ByteArray.mk #[])),.sl [] .nil,
 .sl [] .nil],0,[]⟩,⟨none,none,.store 5 (.t 5) (.t 31),0,[]⟩]) (.seq (.reg [⟨some 32,none,.call (.c (.fn 34 [])) [.c (.v (.int .i64 0))],0,[]⟩,⟨some 33,none,
 .call (.c (.fn 34 [])) [.c (.v (.int .i64 1))],0,[]⟩,⟨some 34,none,.bsl (.agg [.v (.int .i64 0),.v (.int .i64 0),.v (.string (ByteArray.mk #[])),.sl [] .nil,.sl [] .nil]
 ) 2 [(0,5,.t 32),(5,5,.t 33)],0,[]⟩,⟨some 35,none,.call (.c (.fn 33 [])) [.c (.v (.int .i64 2)),.t 34],0,[]⟩,⟨some 36,none,.bsl (.agg [.v (.int .i64 0),.v (.int .i64 0),
 .v (.string (ByteArray.mk #[])),.sl [] .nil,.sl [] .nil]) 1 [(0,5,.t 35)],0,[]⟩,⟨some 37,none,.call (.c (.fn 33 [])) [.c (.v (.int .i64 1)),.t 36],0,[]⟩,⟨some 38,none,
 .call (.c (.fn 34 [])) [.c (.v (.int .i64 3))],0,[]⟩,⟨some 39,none,.bsl (.agg [.v (.int .i64 0),.v (.int .i64 0),.v (.string (ByteArray.mk #[])),.sl [] .nil,.sl [] .nil]
 ) 1 [(0,5,.t 38)],0,[]⟩,⟨some 40,none,.call (.c (.fn 18 [])) [.t 37,.t 39],0,[]⟩,⟨some 6,none,.alloc [.v (.int .i64 0),.v (.int .i64 0),.v (.string (ByteArray.mk #[])),
 .sl [] .nil,.sl [] .nil],0,[]⟩,⟨none,none,.store 5 (.t 6) (.t 40),0,[]⟩]) (.seq (.reg [⟨some 42,none,.build [.sl [] .nil,.v (.int .i64 0),.v (.int .i64 0),
 .v (.string (ByteArray.mk #[])),.sl [] .nil,.sl [] .nil] [],0,[]⟩,⟨some 43,none,.call (.c (.fn 33 [])) [.c (.v (.int .i64 6)),.c (.sl [] .nil)],0,[]⟩,⟨some 44,none,
 .bsl (.agg [.v (.int .i64 0),.v (.int .i64 0),.v (.string (ByteArray.mk #[])),.sl [] .nil,.sl [] .nil]) 1 [(0,5,.t 43)],0,[]⟩,⟨some 45,none,.build [.v (.int .i64 0),
 .v (.int .i64 0),.v (.string (ByteArray.mk #[])),.sl [] .nil,.sl [] .nil] [(0,1,.c (.v (.int .i64 4))),(4,1,.t 44)],0,[]⟩,⟨some 46,none,.call (.c (.fn 20 [])) [.t 42,
 .t 45],0,[]⟩,⟨some 41,none,.mov (.t 46),0,[]⟩,⟨some 47,none,.ext (.t 41) 0,0,[]⟩,⟨some 48,none,.ext (.t 41) 1,0,[]⟩,⟨some 49,none,.ext (.t 41) 2,0,[]⟩,⟨some 7,none,
 .alloc [.v (.int .i64 0),.v (.int .i64 0),.v (.string (ByteArray.mk #[])),.sl [] .nil,.sl [] .nil],0,[]⟩,⟨none,none,.store 5 (.t 7) (.t 47),0,[]⟩,⟨some 8,none,
 .mov (.t 48),0,[]⟩,⟨some 9,none,.mov (.t 49),0,[]⟩]) (.seq (.reg [⟨some 51,none,.build [.sl [] .nil,.v (.int .i64 0),.v (.int .i64 0),.v (.string (ByteArray.mk #[])),
 .sl [] .nil,.sl [] .nil] [],0,[]⟩,⟨some 52,none,.call (.c (.fn 33 [])) [.c (.v (.int .i64 6)),.c (.sl [] .nil)],0,[]⟩,⟨some 53,none,.bsl (.agg [.v (.int .i64 0),
 .v (.int .i64 0),.v (.string (ByteArray.mk #[])),.sl [] .nil,.sl [] .nil]) 1 [(0,5,.t 52)],0,[]⟩,⟨some 54,none,.call (.c (.fn 33 [])) [.c (.v (.int .i64 9)),.t 53],0,[]⟩
 ,⟨some 55,none,.call (.c (.fn 20 [])) [.t 51,.t 54],0,[]⟩,⟨some 50,none,.mov (.t 55),0,[]⟩,⟨some 56,none,.ext (.t 50) 0,0,[]⟩,⟨some 57,none,.ext (.t 50) 1,0,[]⟩,
 ⟨some 58,none,.ext (.t 50) 2,0,[]⟩,⟨some 10,none,.alloc [.v (.int .i64 0),.v (.int .i64 0),.v (.string (ByteArray.mk #[])),.sl [] .nil,.sl [] .nil],0,[]⟩,⟨none,none,
 .store 5 (.t 10) (.t 56),0,[]⟩,⟨some 11,none,.mov (.t 57),0,[]⟩,⟨some 12,none,.mov (.t 58),0,[]⟩]) (.seq (.dreg [0,0,0,2,0,0,0,0,0,0,7,0,0,7,0,0,0,0,0,0,0,0,0,0,0,0,0,2,
 0,0] [⟨some 59,none,.mov (.t 2),0,[]⟩,⟨some 60,none,.bin .eql (.t 59) (.c (.v (.int .i64 0))),1,[0]⟩,⟨some 61,none,.mov (.t 60),2,[1,0]⟩,⟨some 62,some (61,true),
 .load true 5 (.t 1),3,[2,1,0]⟩,⟨some 63,some (61,true),.call (.c (.fn 26 [])) [.c (.v (.int .i64 2))],4,[2,1,0]⟩,⟨some 64,some (61,true),.call (.c (.fn 17 [])) [.t 62,
 .t 63],5,[4,3,2,1,0]⟩,⟨some 65,none,.pick (.t 61) (.t 64) (.c (.v (.bool false))),6,[5,4,3,2,1,0]⟩,⟨some 66,none,.mov (.t 65),7,[6,5,4,3,2,1,0]⟩,⟨some 67,some (66,true),
 .mov (.t 4),8,[7,6,5,4,3,2,1,0]⟩,⟨some 68,some (66,true),.bin .eql (.t 67) (.c (.v (.int .i64 11))),9,[8,7,6,5,4,3,2,1,0]⟩,⟨some 69,none,.pick (.t 66) (.t 68)
  (.c (.v (.bool false))),10,[9,8,7,6,5,4,3,2,1,0]⟩,⟨some 70,none,.mov (.t 69),11,[10,9,8,7,6,5,4,3,2,1,0]⟩,⟨some 71,some (70,true),.load true 5 (.t 5),12,[11,10,9,8,7,6,
 5,4,3,2,1,0]⟩,⟨some 72,some (70,true),.call (.c (.fn 34 [])) [.c (.v (.int .i64 0))],13,[11,10,9,8,7,6,5,4,3,2,1,0]⟩,⟨some 73,some (70,true),.bsl (.agg [.v (.int .i64 0)
 ,.v (.int .i64 0),.v (.string (ByteArray.mk #[])),.sl [] .nil,.sl [] .nil]) 1 [(0,5,.t 72)],14,[13,11,10,9,8,7,6,5,4,3,2,1,0]⟩,⟨some 74,some (70,true),
 .call (.c (.fn 33 [])) [.c (.v (.int .i64 1)),.t 73],15,[14,13,11,10,9,8,7,6,5,4,3,2,1,0]⟩,⟨some 75,some (70,true),.call (.c (.fn 34 [])) [.c (.v (.int .i64 1))],16,[15,
 14,13,11,10,9,8,7,6,5,4,3,2,1,0]⟩,⟨some 76,some (70,true),.bsl (.agg [.v (.int .i64 0),.v (.int .i64 0),.v (.string (ByteArray.mk #[])),.sl [] .nil,.sl [] .nil]) 2 [(0,
 5,.t 74),(5,5,.t 75)],17,[16,15,14,13,11,10,9,8,7,6,5,4,3,2,1,0]⟩,⟨some 77,some (70,true),.call (.c (.fn 33 [])) [.c (.v (.int .i64 2)),.t 76],18,[17,16,15,14,13,11,10,
 9,8,7,6,5,4,3,2,1,0]⟩,⟨some 78,some (70,true),.call (.c (.fn 17 [])) [.t 71,.t 77],19,[18,17,16,15,14,13,12,11,10,9,8,7,6,5,4,3,2,1,0]⟩,⟨some 79,none,.pick (.t 70)
  (.t 78) (.c (.v (.bool false))),20,[19,18,17,16,15,14,13,12,11,10,9,8,7,6,5,4,3,2,1,0]⟩,⟨some 80,none,.mov (.t 79),21,[20,19,18,17,16,15,14,13,12,11,10,9,8,7,6,5,4,3,2,
 1,0]⟩,⟨some 81,some (80,true),.load true 5 (.t 6),22,[21,20,19,18,17,16,15,14,13,12,11,10,9,8,7,6,5,4,3,2,1,0]⟩,⟨some 82,some (80,true),.call (.c (.fn 34 []))
  [.c (.v (.int .i64 0))],23,[21,20,19,18,17,16,15,14,13,12,11,10,9,8,7,6,5,4,3,2,1,0]⟩,⟨some 83,some (80,true),.call (.c (.fn 34 [])) [.c (.v (.int .i64 4))],24,[23,21,
 20,19,18,17,16,15,14,13,12,11,10,9,8,7,6,5,4,3,2,1,0]⟩,⟨some 84,some (80,true),.bsl (.agg [.v (.int .i64 0),.v (.int .i64 0),.v (.string (ByteArray.mk #[])),.sl [] .nil,
 .sl [] .nil]) 2 [(0,5,.t 82),(5,5,.t 83)],25,[24,23,21,20,19,18,17,16,15,14,13,12,11,10,9,8,7,6,5,4,3,2,1,0]⟩,⟨some 85,some (80,true),.call (.c (.fn 33 []))
  [.c (.v (.int .i64 2)),.t 84],26,[25,24,23,21,20,19,18,17,16,15,14,13,12,11,10,9,8,7,6,5,4,3,2,1,0]⟩,⟨some 86,some (80,true),.bsl (.agg [.v (.int .i64 0),
 .v (.int .i64 0),.v (.string (ByteArray.mk #[])),.sl [] .nil,.sl [] .nil]) 1 [(0,5,.t 85)],27,[26,25,24,23,21,20,19,18,17,16,15,14,13,12,11,10,9,8,7,6,5,4,3,2,1,0]⟩,
 ⟨some 87,some (80,true),.call (.c (.fn 33 [])) [.c (.v (.int .i64 1)),.t 86],28,[27,26,25,24,23,21,20,19,18,17,16,15,14,13,12,11,10,9,8,7,6,5,4,3,2,1,0]⟩,⟨some 88,
 some (80,true),.call (.c (.fn 17 [])) [.t 81,.t 87],29,[28,27,26,25,24,23,22,21,20,19,18,17,16,15,14,13,12,11,10,9,8,7,6,5,4,3,2,1,0]⟩,⟨some 89,none,.pick (.t 80)
  (.t 88) (.c (.v (.bool false))),30,[29,28,27,26,25,24,23,22,21,20,19,18,17,16,15,14,13,12,11,10,9,8,7,6,5,4,3,2,1,0]⟩,⟨some 90,none,.mov (.t 89),31,[30,29,28,27,26,25,
 24,23,22,21,20,19,18,17,16,15,14,13,12,11,10,9,8,7,6,5,4,3,2,1,0]⟩,⟨some 91,some (90,true),.mov (.t 9),32,[31,30,29,28,27,26,25,24,23,22,21,20,19,18,17,16,15,14,13,12,
 11,10,9,8,7,6,5,4,3,2,1,0]⟩,⟨some 92,some (90,true),.bin .eql (.t 91) (.c (.v (.int .i64 10))),33,[32,31,30,29,28,27,26,25,24,23,22,21,20,19,18,17,16,15,14,13,12,11,10,
 9,8,7,6,5,4,3,2,1,0]⟩,⟨some 93,none,.pick (.t 90) (.t 92) (.c (.v (.bool false))),34,[33,32,31,30,29,28,27,26,25,24,23,22,21,20,19,18,17,16,15,14,13,12,11,10,9,8,7,6,5,
 4,3,2,1,0]⟩,⟨some 94,none,.mov (.t 93),35,[34,33,32,31,30,29,28,27,26,25,24,23,22,21,20,19,18,17,16,15,14,13,12,11,10,9,8,7,6,5,4,3,2,1,0]⟩,⟨some 95,some (94,true),
 .mov (.t 11),36,[35,34,33,32,31,30,29,28,27,26,25,24,23,22,21,20,19,18,17,16,15,14,13,12,11,10,9,8,7,6,5,4,3,2,1,0]⟩,⟨some 96,none,.pick (.t 94) (.t 95)
  (.c (.v (.bool false))),37,[36,35,34,33,32,31,30,29,28,27,26,25,24,23,22,21,20,19,18,17,16,15,14,13,12,11,10,9,8,7,6,5,4,3,2,1,0]⟩,⟨some 97,none,.mov (.t 96),38,[37,36,
 35,34,33,32,31,30,29,28,27,26,25,24,23,22,21,20,19,18,17,16,15,14,13,12,11,10,9,8,7,6,5,4,3,2,1,0]⟩,⟨some 98,some (97,true),.mov (.t 12),39,[38,37,36,35,34,33,32,31,30,
 29,28,27,26,25,24,23,22,21,20,19,18,17,16,15,14,13,12,11,10,9,8,7,6,5,4,3,2,1,0]⟩,⟨some 99,some (97,true),.bin .eql (.t 98) (.c (.v (.int .i64 0))),40,[39,38,37,36,35,
 34,33,32,31,30,29,28,27,26,25,24,23,22,21,20,19,18,17,16,15,14,13,12,11,10,9,8,7,6,5,4,3,2,1,0]⟩,⟨some 100,none,.pick (.t 97) (.t 99) (.c (.v (.bool false))),41,[40,39,
 38,37,36,35,34,33,32,31,30,29,28,27,26,25,24,23,22,21,20,19,18,17,16,15,14,13,12,11,10,9,8,7,6,5,4,3,2,1,0]⟩,⟨some 101,none,.mov (.t 100),42,[41,40,39,38,37,36,35,34,33,
 32,31,30,29,28,27,26,25,24,23,22,21,20,19,18,17,16,15,14,13,12,11,10,9,8,7,6,5,4,3,2,1,0]⟩,⟨some 102,some (101,true),.load true 5 (.t 10),43,[42,41,40,39,38,37,36,35,34,
 33,32,31,30,29,28,27,26,25,24,23,22,21,20,19,18,17,16,15,14,13,12,11,10,9,8,7,6,5,4,3,2,1,0]⟩,⟨some 103,some (101,true),.call (.c (.fn 33 [])) [.c (.v (.int .i64 6)),
 .c (.sl [] .nil)],44,[42,41,40,39,38,37,36,35,34,33,32,31,30,29,28,27,26,25,24,23,22,21,20,19,18,17,16,15,14,13,12,11,10,9,8,7,6,5,4,3,2,1,0]⟩,⟨some 104,some (101,true),
 .call (.c (.fn 17 [])) [.t 102,.t 103],45,[44,43,42,41,40,39,38,37,36,35,34,33,32,31,30,29,28,27,26,25,24,23,22,21,20,19,18,17,16,15,14,13,12,11,10,9,8,7,6,5,4,3,2,1,0]⟩
 ,⟨some 105,none,.pick (.t 101) (.t 104) (.c (.v (.bool false))),46,[45,44,43,42,41,40,39,38,37,36,35,34,33,32,31,30,29,28,27,26,25,24,23,22,21,20,19,18,17,16,15,14,13,
 12,11,10,9,8,7,6,5,4,3,2,1,0]⟩,⟨some 0,none,.mov (.t 105),47,[46,45,44,43,42,41,40,39,38,37,36,35,34,33,32,31,30,29,28,27,26,25,24,23,22,21,20,19,18,17,16,15,14,13,12,
 11,10,9,8,7,6,5,4,3,2,1,0]⟩]) .ret)))))))⟩
theorem pf13_is : pfs 13 = some pf13 := by kernel_rfl
-- euclid/lambda.Check
def pf14 : PF := ⟨5,[.t 2],.seq (.reg [⟨some 1,none,.box (.t 0),0,[]⟩,⟨some 2,none,.mov (.c (.v (.int .i64 0))),0,[]⟩]) (.seq (.reg [⟨some 3,none,.mkfn 36 [.t 1],0,[]⟩,⟨some 4,none,
 .call (.c (.fn 35 [])) [.t 3],0,[]⟩,⟨some 2,none,.mov (.t 4),0,[]⟩]) .ret)⟩
theorem pf14_is : pfs 14 = some pf14 := by kernel_rfl
-- euclid/euclidref55.Check
def pf15 : PF := ⟨58,[.t 2],.seq (.reg [⟨some 1,none,.box (.t 0),0,[]⟩,⟨some 2,none,.mov (.c (.v (.int .i64 0))),0,[]⟩]) (.seq (.seq (.reg [⟨some 6,none,.faddr 0 (.t 1),0,[]⟩,⟨some 7,
 none,.load false 1 (.t 6),0,[]⟩,⟨some 8,none,.lenS (.t 7),0,[]⟩,⟨some 9,none,.bin .gtr (.t 8) (.c (.v (.int .i64 1000))),0,[]⟩]) (.cond (.t 9) (.seq (.reg [⟨some 2,none,
 .mov (.c (.v (.int .i64 6))),0,[]⟩]) .ret) .skip)) (.seq (.seq (.reg [⟨some 3,none,.mov (.c (.v (.int .i64 0))),0,[]⟩]) (.block 0 (.loop (.seq (.seq (.reg [⟨some 10,
 none,.mov (.t 3),0,[]⟩,⟨some 11,none,.faddr 0 (.t 1),0,[]⟩,⟨some 12,none,.load false 1 (.t 11),0,[]⟩,⟨some 13,none,.lenS (.t 12),0,[]⟩,⟨some 14,none,.bin .lss (.t 10)
  (.t 13),0,[]⟩]) (.cond (.t 14) .skip (.exit 0))) (.seq (.block 1 (.seq (.seq (.reg [⟨some 17,none,.faddr 0 (.t 1),0,[]⟩,⟨some 18,none,.load false 1 (.t 17),0,[]⟩,
 ⟨some 19,none,.mov (.t 3),0,[]⟩,⟨some 20,none,.iaddr 6 (.t 18) (.t 19),0,[]⟩,⟨some 21,none,.faddr 0 (.t 20),0,[]⟩,⟨some 22,none,.load false 1 (.t 21),0,[]⟩,⟨some 23,
 none,.call (.c (.fn 41 [])) [.t 22],0,[]⟩,⟨some 24,none,.un .not (.t 23),0,[]⟩]) (.cond (.t 24) (.seq (.reg [⟨some 2,none,.mov (.c (.v (.int .i64 29))),0,[]⟩]) .ret)
  .skip)) (.seq (.seq (.reg [⟨some 4,none,.mov (.c (.v (.int .i64 0))),0,[]⟩]) (.block 2 (.loop (.seq (.seq (.reg [⟨some 25,none,.mov (.t 4),0,[]⟩,⟨some 26,none,
 .mov (.t 3),0,[]⟩,⟨some 27,none,.bin .lss (.t 25) (.t 26),0,[]⟩]) (.cond (.t 27) .skip (.exit 2))) (.seq (.block 3 (.seq (.dreg [12] [⟨some 30,none,.faddr 0 (.t 1),0,[]⟩
 ,⟨some 31,none,.load false 1 (.t 30),1,[0]⟩,⟨some 32,none,.mov (.t 4),2,[]⟩,⟨some 33,none,.iaddr 6 (.t 31) (.t 32),3,[2,1,0]⟩,⟨some 34,none,.faddr 0 (.t 33),4,[3,2,1,0]⟩
 ,⟨some 35,none,.load false 1 (.t 34),5,[4,3,2,1,0]⟩,⟨some 36,none,.faddr 0 (.t 1),6,[]⟩,⟨some 37,none,.load false 1 (.t 36),7,[6]⟩,⟨some 38,none,.mov (.t 3),8,[]⟩,
 ⟨some 39,none,.iaddr 6 (.t 37) (.t 38),9,[8,7,6]⟩,⟨some 40,none,.faddr 0 (.t 39),10,[9,8,7,6]⟩,⟨some 41,none,.load false 1 (.t 40),11,[10,9,8,7,6]⟩,⟨some 42,none,
 .bin .eql (.t 35) (.t 41),12,[11,10,9,8,7,6,5,4,3,2,1,0]⟩]) (.cond (.t 42) (.seq (.reg [⟨some 2,none,.mov (.c (.v (.int .i64 8))),0,[]⟩]) .ret) .skip))) (.reg [⟨some 28,
 none,.mov (.t 4),0,[]⟩,⟨some 29,none,.bin .add (.t 28) (.c (.v (.int .i64 1))),0,[]⟩,⟨some 4,none,.mov (.t 29),0,[]⟩])))))) (.seq (.dreg [7,0] [⟨some 43,none,
 .load true 6 (.t 1),0,[]⟩,⟨some 44,none,.faddr 0 (.t 1),1,[]⟩,⟨some 45,none,.load false 1 (.t 44),2,[1]⟩,⟨some 46,none,.mov (.t 3),3,[]⟩,⟨some 47,none,.iaddr 6 (.t 45)
  (.t 46),4,[3,2,1]⟩,⟨some 48,none,.faddr 1 (.t 47),5,[4,3,2,1]⟩,⟨some 49,none,.load true 5 (.t 48),6,[5,4,3,2,1]⟩,⟨some 50,none,.call (.c (.fn 42 [])) [.t 43,.t 49],7,
 [6,5,4,3,2,1,0]⟩,⟨some 5,none,.mov (.t 50),8,[7,6,5,4,3,2,1,0]⟩]) (.seq (.reg [⟨some 51,none,.mov (.t 5),0,[]⟩,⟨some 52,none,.bin .neq (.t 51) (.c (.v (.int .i64 0))),0,
 []⟩]) (.cond (.t 52) (.seq (.reg [⟨some 53,none,.mov (.t 5),0,[]⟩,⟨some 2,none,.mov (.t 53),0,[]⟩]) .ret) .skip)))))) (.reg [⟨some 15,none,.mov (.t 3),0,[]⟩,⟨some 16,
 none,.bin .add (.t 15) (.c (.v (.int .i64 1))),0,[]⟩,⟨some 3,none,.mov (.t 16),0,[]⟩])))))) (.seq (.reg [⟨some 54,none,.load true 6 (.t 1),0,[]⟩,⟨some 55,none,
 .faddr 1 (.t 1),0,[]⟩,⟨some 56,none,.load true 5 (.t 55),0,[]⟩,⟨some 57,none,.call (.c (.fn 42 [])) [.t 54,.t 56],0,[]⟩,⟨some 2,none,.mov (.t 57),0,[]⟩]) .ret)))⟩
theorem pf15_is : pfs 15 = some pf15 := by kernel_rfl
-- euclid/euclidlaw55.few
def pf16 : PF := ⟨32,[.t 4],.seq (.reg [⟨some 2,none,.box (.t 0),0,[]⟩,⟨some 4,none,.mov (.c (.v (.bool false))),0,[]⟩]) (.seq (.seq (.reg [⟨some 9,none,.mov (.t 1),0,[]⟩,⟨some 10,none,
 .lenS (.t 9),0,[]⟩,⟨some 11,none,.mov (.c (.v (.int .i64 0))),0,[]⟩]) (.block 0 (.loop (.seq (.reg [⟨some 12,none,.bin .lss (.t 11) (.t 10),0,[]⟩]) (.seq (.cond (.t 12)
  .skip (.exit 0)) (.seq (.block 1 (.seq (.reg [⟨some 13,none,.iaddr 5 (.t 9) (.t 11),0,[]⟩,⟨some 14,none,.load true 5 (.t 13),0,[]⟩,⟨some 6,none,.alloc [.v (.int .i64 0)
 ,.v (.int .i64 0),.v (.string (ByteArray.mk #[])),.sl [] .nil,.sl [] .nil],0,[]⟩,⟨none,none,.store 5 (.t 6) (.t 14),0,[]⟩]) (.seq (.reg [⟨some 16,none,
 .load true 5 (.t 6),0,[]⟩,⟨some 17,none,.call (.c (.fn 27 [])) [.t 16,.c (.v (.int .i64 60)),.c (.v (.int .i64 60))],0,[]⟩,⟨some 15,none,.mov (.t 17),0,[]⟩,⟨some 18,
 none,.ext (.t 15) 0,0,[]⟩,⟨some 19,none,.ext (.t 15) 1,0,[]⟩,⟨some 7,none,.mov (.t 18),0,[]⟩,⟨some 8,none,.mov (.t 19),0,[]⟩]) (.seq (.reg [⟨some 20,none,.mov (.t 8),0,
 []⟩,⟨some 21,none,.un .not (.t 20),0,[]⟩,⟨some 22,none,.mov (.t 21),0,[]⟩,⟨some 23,some (22,false),.load true 6 (.t 2),0,[]⟩,⟨some 24,some (22,false),.load true 5 (.t 6)
 ,0,[]⟩,⟨some 25,some (22,false),.call (.c (.fn 43 [])) [.t 23,.t 24],0,[]⟩,⟨some 26,some (22,false),.un .not (.t 25),0,[]⟩,⟨some 27,none,.pick (.t 22)
  (.c (.v (.bool true))) (.t 26),0,[]⟩]) (.cond (.t 27) (.seq (.reg [⟨some 4,none,.mov (.c (.v (.bool false))),0,[]⟩]) .ret) .skip))))) (.reg [⟨some 28,none,
 .bin .add (.t 11) (.c (.v (.int .i64 1))),0,[]⟩,⟨some 11,none,.mov (.t 28),0,[]⟩]))))))) (.seq (.reg [⟨some 29,none,.mov (.t 1),0,[]⟩,⟨some 30,none,.lenS (.t 29),0,[]⟩,
 ⟨some 31,none,.bin .leq (.t 30) (.c (.v (.int .i64 6))),0,[]⟩,⟨some 4,none,.mov (.t 31),0,[]⟩]) .ret))⟩
theorem pf16_is : pfs 16 = some pf16 := by kernel_rfl
-- euclid/euclidref55.Same
def pf17 : PF := ⟨81,[.t 4],.seq (.reg [⟨some 2,none,.box (.t 0),0,[]⟩,⟨some 3,none,.box (.t 1),0,[]⟩,⟨some 4,none,.mov (.c (.v (.bool false))),0,[]⟩]) (.seq (.seq (.reg [⟨some 7,none,
 .faddr 0 (.t 2),0,[]⟩,⟨some 8,none,.load false 1 (.t 7),0,[]⟩,⟨some 9,none,.faddr 0 (.t 3),0,[]⟩,⟨some 10,none,.load false 1 (.t 9),0,[]⟩,⟨some 11,none,.bin .neq (.t 8)
  (.t 10),0,[]⟩,⟨some 12,none,.mov (.t 11),0,[]⟩,⟨some 13,some (12,false),.faddr 1 (.t 2),0,[]⟩,⟨some 14,some (12,false),.load false 1 (.t 13),0,[]⟩,⟨some 15,some (12,
 false),.faddr 1 (.t 3),0,[]⟩,⟨some 16,some (12,false),.load false 1 (.t 15),0,[]⟩,⟨some 17,some (12,false),.bin .neq (.t 14) (.t 16),0,[]⟩,⟨some 18,none,.pick (.t 12)
  (.c (.v (.bool true))) (.t 17),0,[]⟩,⟨some 19,none,.mov (.t 18),0,[]⟩,⟨some 20,some (19,false),.faddr 2 (.t 2),0,[]⟩,⟨some 21,some (19,false),.load false 1 (.t 20),0,[]
 ⟩,⟨some 22,some (19,false),.faddr 2 (.t 3),0,[]⟩,⟨some 23,some (19,false),.load false 1 (.t 22),0,[]⟩,⟨some 24,some (19,false),.bin .neq (.t 21) (.t 23),0,[]⟩,⟨some 25,
 none,.pick (.t 19) (.c (.v (.bool true))) (.t 24),0,[]⟩,⟨some 26,none,.mov (.t 25),0,[]⟩,⟨some 27,some (26,false),.faddr 3 (.t 2),0,[]⟩,⟨some 28,some (26,false),
 .load false 1 (.t 27),0,[]⟩,⟨some 29,some (26,false),.lenS (.t 28),0,[]⟩,⟨some 30,some (26,false),.faddr 3 (.t 3),0,[]⟩,⟨some 31,some (26,false),.load false 1 (.t 30),0,
 []⟩,⟨some 32,some (26,false),.lenS (.t 31),0,[]⟩,⟨some 33,some (26,false),.bin .neq (.t 29) (.t 32),0,[]⟩,⟨some 34,none,.pick (.t 26) (.c (.v (.bool true))) (.t 33),0,[]
 ⟩,⟨some 35,none,.mov (.t 34),0,[]⟩,⟨some 36,some (35,false),.faddr 4 (.t 2),0,[]⟩,⟨some 37,some (35,false),.load false 1 (.t 36),0,[]⟩,⟨some 38,some (35,false),
 .lenS (.t 37),0,[]⟩,⟨some 39,some (35,false),.faddr 4 (.t 3),0,[]⟩,⟨some 40,some (35,false),.load false 1 (.t 39),0,[]⟩,⟨some 41,some (35,false),.lenS (.t 40),0,[]⟩,
 ⟨some 42,some (35,false),.bin .neq (.t 38) (.t 41),0,[]⟩,⟨some 43,none,.pick (.t 35) (.c (.v (.bool true))) (.t 42),0,[]⟩]) (.cond (.t 43) (.seq (.reg [⟨some 4,none,
 .mov (.c (.v (.bool false))),0,[]⟩]) .ret) .skip)) (.seq (.seq (.reg [⟨some 5,none,.mov (.c (.v (.int .i64 0))),0,[]⟩]) (.block 0 (.loop (.seq (.seq (.reg [⟨some 44,
 none,.mov (.t 5),0,[]⟩,⟨some 45,none,.faddr 3 (.t 2),0,[]⟩,⟨some 46,none,.load false 1 (.t 45),0,[]⟩,⟨some 47,none,.lenS (.t 46),0,[]⟩,⟨some 48,none,.bin .lss (.t 44)
  (.t 47),0,[]⟩]) (.cond (.t 48) .skip (.exit 0))) (.seq (.block 1 (.seq (.dreg [10] [⟨some 51,none,.faddr 3 (.t 2),0,[]⟩,⟨some 52,none,.load false 1 (.t 51),1,[0]⟩,
 ⟨some 53,none,.mov (.t 5),2,[]⟩,⟨some 54,none,.iaddr 1 (.t 52) (.t 53),3,[2,1,0]⟩,⟨some 55,none,.load false 1 (.t 54),4,[3,2,1,0]⟩,⟨some 56,none,.faddr 3 (.t 3),5,[]⟩,
 ⟨some 57,none,.load false 1 (.t 56),6,[5]⟩,⟨some 58,none,.mov (.t 5),7,[]⟩,⟨some 59,none,.iaddr 1 (.t 57) (.t 58),8,[7,6,5]⟩,⟨some 60,none,.load false 1 (.t 59),9,[8,7,
 6,5]⟩,⟨some 61,none,.bin .neq (.t 55) (.t 60),10,[9,8,7,6,5,4,3,2,1,0]⟩]) (.cond (.t 61) (.seq (.reg [⟨some 4,none,.mov (.c (.v (.bool false))),0,[]⟩]) .ret) .skip)))
  (.reg [⟨some 49,none,.mov (.t 5),0,[]⟩,⟨some 50,none,.bin .add (.t 49) (.c (.v (.int .i64 1))),0,[]⟩,⟨some 5,none,.mov (.t 50),0,[]⟩])))))) (.seq (.seq (.reg [⟨some 6,
 none,.mov (.c (.v (.int .i64 0))),0,[]⟩]) (.block 2 (.loop (.seq (.seq (.reg [⟨some 62,none,.mov (.t 6),0,[]⟩,⟨some 63,none,.faddr 4 (.t 2),0,[]⟩,⟨some 64,none,
 .load false 1 (.t 63),0,[]⟩,⟨some 65,none,.lenS (.t 64),0,[]⟩,⟨some 66,none,.bin .lss (.t 62) (.t 65),0,[]⟩]) (.cond (.t 66) .skip (.exit 2)))
  (.seq (.block 3 (.seq (.dreg [10,0] [⟨some 69,none,.faddr 4 (.t 2),0,[]⟩,⟨some 70,none,.load false 1 (.t 69),1,[0]⟩,⟨some 71,none,.mov (.t 6),2,[]⟩,⟨some 72,none,
 .iaddr 5 (.t 70) (.t 71),3,[2,1,0]⟩,⟨some 73,none,.load true 5 (.t 72),4,[3,2,1,0]⟩,⟨some 74,none,.faddr 4 (.t 3),5,[]⟩,⟨some 75,none,.load false 1 (.t 74),6,[5]⟩,
 ⟨some 76,none,.mov (.t 6),7,[]⟩,⟨some 77,none,.iaddr 5 (.t 75) (.t 76),8,[7,6,5]⟩,⟨some 78,none,.load true 5 (.t 77),9,[8,7,6,5]⟩,⟨some 79,none,.call (.c (.fn 17 []))
  [.t 73,.t 78],10,[9,8,7,6,5,4,3,2,1,0]⟩,⟨some 80,none,.un .not (.t 79),11,[10,9,8,7,6,5,4,3,2,1,0]⟩]) (.cond (.t 80) (.seq (.reg [⟨some 4,none,
 .mov (.c (.v (.bool false))),0,[]⟩]) .ret) .skip))) (.reg [⟨some 67,none,.mov (.t 6),0,[]⟩,⟨some 68,none,.bin .add (.t 67) (.c (.v (.int .i64 1))),0,[]⟩,⟨some 6,none,
 .mov (.t 68),0,[]⟩])))))) (.seq (.reg [⟨some 4,none,.mov (.c (.v (.bool true))),0,[]⟩]) .ret))))⟩
theorem pf17_is : pfs 17 = some pf17 := by kernel_rfl
-- euclid/lambda.Subst
def pf18 : PF := ⟨8,[.c 4 true 5],.seq (.reg [⟨some 2,none,.box (.t 0),0,[]⟩,⟨some 3,none,.box (.t 1),0,[]⟩,⟨some 4,none,.alloc [.v (.int .i64 0),.v (.int .i64 0),
 .v (.string (ByteArray.mk #[])),.sl [] .nil,.sl [] .nil],0,[]⟩]) (.seq (.reg [⟨some 5,none,.load true 5 (.t 2),0,[]⟩,⟨some 6,none,.mkfn 45 [.t 3],0,[]⟩,⟨some 7,none,
 .call (.c (.fn 44 [])) [.t 5,.c (.v (.int .i64 0)),.t 6],0,[]⟩,⟨none,none,.store 5 (.t 4) (.t 7),0,[]⟩]) .ret)⟩
theorem pf18_is : pfs 18 = some pf18 := by kernel_rfl
-- euclid/euclidref55.Subst
def pf19 : PF := ⟨8,[.c 4 true 5],.seq (.reg [⟨some 2,none,.box (.t 0),0,[]⟩,⟨some 4,none,.alloc [.v (.int .i64 0),.v (.int .i64 0),.v (.string (ByteArray.mk #[])),.sl [] .nil,.sl []
  .nil],0,[]⟩]) (.seq (.reg [⟨some 5,none,.load true 5 (.t 2),0,[]⟩,⟨some 6,none,.mov (.t 1),0,[]⟩,⟨some 7,none,.call (.c (.fn 48 [])) [.t 5,.t 6,.c (.v (.int .i64 0))],
 0,[]⟩,⟨none,none,.store 5 (.t 4) (.t 7),0,[]⟩]) .ret)⟩
theorem pf19_is : pfs 19 = some pf19 := by kernel_rfl
-- euclid/lambda.Step
def pf20 : PF := ⟨19,[.c 4 true 5,.t 5,.t 6],.seq (.reg [⟨some 2,none,.box (.t 0),0,[]⟩,⟨some 3,none,.box (.t 1),0,[]⟩,⟨some 4,none,.alloc [.v (.int .i64 0),.v (.int .i64 0),
 .v (.string (ByteArray.mk #[])),.sl [] .nil,.sl [] .nil],0,[]⟩,⟨some 5,none,.mov (.c (.v (.bool false))),0,[]⟩,⟨some 6,none,.mov (.c (.v (.int .i64 0))),0,[]⟩])
  (.seq (.seq (.reg [⟨some 9,none,.load true 5 (.t 3),0,[]⟩,⟨some 10,none,.call (.c (.fn 49 [])) [.t 9],0,[]⟩]) (.cond (.t 10) (.seq (.reg [⟨some 11,none,
 .load true 5 (.t 3),0,[]⟩,⟨none,none,.store 5 (.t 4) (.t 11),0,[]⟩,⟨some 5,none,.mov (.c (.v (.bool false))),0,[]⟩,⟨some 6,none,.mov (.c (.v (.int .i64 0))),0,[]⟩])
  .ret) .skip)) (.seq (.reg [⟨some 7,none,.alloc [.v (.int .i64 0),.v (.int .i64 0),.v (.string (ByteArray.mk #[])),.sl [] .nil,.sl [] .nil],0,[]⟩])
  (.seq (.seq (.reg [⟨some 12,none,.mkfn 50 [.t 2,.t 3,.t 7],0,[]⟩,⟨some 13,none,.call (.c (.fn 35 [])) [.t 12],0,[]⟩,⟨some 8,none,.mov (.t 13),0,[]⟩])
  (.seq (.reg [⟨some 14,none,.mov (.t 8),0,[]⟩,⟨some 15,none,.bin .neq (.t 14) (.c (.v (.int .i64 0))),0,[]⟩]) (.cond (.t 15) (.seq (.reg [⟨some 16,none,
 .build [.v (.int .i64 0),.v (.int .i64 0),.v (.string (ByteArray.mk #[])),.sl [] .nil,.sl [] .nil] [],0,[]⟩,⟨some 17,none,.mov (.t 8),0,[]⟩,⟨none,none,.store 5 (.t 4)
  (.t 16),0,[]⟩,⟨some 5,none,.mov (.c (.v (.bool false))),0,[]⟩,⟨some 6,none,.mov (.t 17),0,[]⟩]) .ret) .skip))) (.seq (.reg [⟨some 18,none,.load true 5 (.t 7),0,[]⟩,
 ⟨none,none,.store 5 (.t 4) (.t 18),0,[]⟩,⟨some 5,none,.mov (.c (.v (.bool true))),0,[]⟩,⟨some 6,none,.mov (.c (.v (.int .i64 0))),0,[]⟩]) .ret))))⟩
theorem pf20_is : pfs 20 = some pf20 := by kernel_rfl
-- euclid/euclidref55.Step
def pf21 : PF := ⟨150,[.c 4 true 5,.t 5,.t 6],.seq (.reg [⟨some 2,none,.box (.t 0),0,[]⟩,⟨some 3,none,.box (.t 1),0,[]⟩,⟨some 4,none,.alloc [.v (.int .i64 0),.v (.int .i64 0),
 .v (.string (ByteArray.mk #[])),.sl [] .nil,.sl [] .nil],0,[]⟩,⟨some 5,none,.mov (.c (.v (.bool false))),0,[]⟩,⟨some 6,none,.mov (.c (.v (.int .i64 0))),0,[]⟩])
  (.seq (.seq (.reg [⟨some 11,none,.load true 5 (.t 3),0,[]⟩,⟨some 12,none,.call (.c (.fn 52 [])) [.t 11],0,[]⟩]) (.cond (.t 12) (.seq (.reg [⟨some 13,none,
 .load true 5 (.t 3),0,[]⟩,⟨none,none,.store 5 (.t 4) (.t 13),0,[]⟩,⟨some 5,none,.mov (.c (.v (.bool false))),0,[]⟩,⟨some 6,none,.mov (.c (.v (.int .i64 0))),0,[]⟩])
  .ret) .skip)) (.seq (.seq (.reg [⟨some 14,none,.faddr 0 (.t 3),0,[]⟩,⟨some 15,none,.load false 1 (.t 14),0,[]⟩]) (.block 0 (.seq (.reg [⟨some 17,none,.bin .eql (.t 15)
  (.c (.v (.int .i64 11))),0,[]⟩,⟨some 16,none,.mov (.t 17),0,[]⟩]) (.cond (.t 16) (.seq (.reg [⟨some 18,none,.build [.v (.int .i64 0),.v (.int .i64 0),
 .v (.string (ByteArray.mk #[])),.sl [] .nil,.sl [] .nil] [],0,[]⟩,⟨none,none,.store 5 (.t 4) (.t 18),0,[]⟩,⟨some 5,none,.mov (.c (.v (.bool false))),0,[]⟩,⟨some 6,none,
 .mov (.c (.v (.int .i64 30))),0,[]⟩]) .ret) (.seq (.reg [⟨some 20,none,.bin .eql (.t 15) (.c (.v (.int .i64 0))),0,[]⟩,⟨some 19,none,.mov (.t 20),0,[]⟩]) (.cond (.t 19)
  (.seq (.reg [⟨some 21,none,.build [.v (.int .i64 0),.v (.int .i64 0),.v (.string (ByteArray.mk #[])),.sl [] .nil,.sl [] .nil] [],0,[]⟩,⟨none,none,.store 5 (.t 4)
  (.t 21),0,[]⟩,⟨some 5,none,.mov (.c (.v (.bool false))),0,[]⟩,⟨some 6,none,.mov (.c (.v (.int .i64 24))),0,[]⟩]) .ret) (.seq (.reg [⟨some 23,none,.bin .eql (.t 15)
  (.c (.v (.int .i64 5))),0,[]⟩,⟨some 22,none,.mov (.t 23),0,[]⟩]) (.cond (.t 22) (.seq (.reg [⟨some 25,none,.load true 6 (.t 2),0,[]⟩,⟨some 26,none,.faddr 2 (.t 3),0,[]⟩
 ,⟨some 27,none,.load false 1 (.t 26),0,[]⟩,⟨some 28,none,.call (.c (.fn 53 [])) [.t 25,.t 27],0,[]⟩,⟨some 24,none,.mov (.t 28),0,[]⟩,⟨some 29,none,.ext (.t 24) 0,0,[]⟩,
 ⟨some 30,none,.ext (.t 24) 1,0,[]⟩,⟨some 7,none,.alloc [.v (.int .i64 0),.v (.int .i64 0),.v (.string (ByteArray.mk #[])),.sl [] .nil,.sl [] .nil],0,[]⟩,⟨none,none,
 .store 5 (.t 7) (.t 29),0,[]⟩,⟨some 8,none,.mov (.t 30),0,[]⟩]) (.seq (.seq (.reg [⟨some 31,none,.mov (.t 8),0,[]⟩,⟨some 32,none,.un .not (.t 31),0,[]⟩]) (.cond (.t 32)
  (.seq (.reg [⟨some 33,none,.build [.v (.int .i64 0),.v (.int .i64 0),.v (.string (ByteArray.mk #[])),.sl [] .nil,.sl [] .nil] [],0,[]⟩,⟨none,none,.store 5 (.t 4)
  (.t 33),0,[]⟩,⟨some 5,none,.mov (.c (.v (.bool false))),0,[]⟩,⟨some 6,none,.mov (.c (.v (.int .i64 9))),0,[]⟩]) .ret) .skip)) (.seq (.reg [⟨some 34,none,
 .load true 5 (.t 7),0,[]⟩,⟨none,none,.store 5 (.t 4) (.t 34),0,[]⟩,⟨some 5,none,.mov (.c (.v (.bool true))),0,[]⟩,⟨some 6,none,.mov (.c (.v (.int .i64 0))),0,[]⟩]) .ret)
 )) (.seq (.reg [⟨some 36,none,.bin .eql (.t 15) (.c (.v (.int .i64 7))),0,[]⟩,⟨some 35,none,.mov (.t 36),0,[]⟩]) (.cond (.t 35) (.seq (.seq (.reg [⟨some 37,none,
 .faddr 4 (.t 3),0,[]⟩,⟨some 38,none,.load false 1 (.t 37),0,[]⟩,⟨some 39,none,.iaddr 5 (.t 38) (.c (.v (.int .i64 0))),0,[]⟩,⟨some 40,none,.load true 5 (.t 39),0,[]⟩,
 ⟨some 41,none,.call (.c (.fn 52 [])) [.t 40],0,[]⟩,⟨some 42,none,.un .not (.t 41),0,[]⟩]) (.cond (.t 42) (.seq (.reg [⟨some 43,none,.load true 6 (.t 2),0,[]⟩,⟨some 44,
 none,.load true 5 (.t 3),0,[]⟩,⟨some 45,none,.call (.c (.fn 54 [])) [.t 43,.t 44,.c (.v (.int .i64 0))],0,[]⟩,⟨some 46,none,.ext (.t 45) 0,0,[]⟩,⟨some 47,none,
 .ext (.t 45) 1,0,[]⟩,⟨some 48,none,.ext (.t 45) 2,0,[]⟩,⟨none,none,.store 5 (.t 4) (.t 46),0,[]⟩,⟨some 5,none,.mov (.t 47),0,[]⟩,⟨some 6,none,.mov (.t 48),0,[]⟩]) .ret)
  .skip)) (.seq (.dreg [7,0,0,0] [⟨some 49,none,.faddr 4 (.t 3),0,[]⟩,⟨some 50,none,.load false 1 (.t 49),1,[0]⟩,⟨some 51,none,.iaddr 5 (.t 50) (.c (.v (.int .i64 1))),2,
 [1,0]⟩,⟨some 52,none,.load true 5 (.t 51),3,[2,1,0]⟩,⟨some 53,none,.faddr 4 (.t 3),4,[]⟩,⟨some 54,none,.load false 1 (.t 53),5,[4]⟩,⟨some 55,none,.slice 5 (.t 54)
  none (some (.c (.v (.int .i64 1)))) none,6,[5,4]⟩,⟨some 56,none,.call (.c (.fn 19 [])) [.t 52,.t 55],7,[6,5,4,3,2,1,0]⟩,⟨none,none,.store 5 (.t 4) (.t 56),8,[7,6,5,4,3,
 2,1,0]⟩,⟨some 5,none,.mov (.c (.v (.bool true))),9,[8,7,6,5,4,3,2,1,0]⟩,⟨some 6,none,.mov (.c (.v (.int .i64 0))),10,[9,8,7,6,5,4,3,2,1,0]⟩]) .ret))
  (.seq (.reg [⟨some 58,none,.bin .eql (.t 15) (.c (.v (.int .i64 4))),0,[]⟩,⟨some 57,none,.mov (.t 58),0,[]⟩]) (.cond (.t 57) (.seq (.seq (.reg [⟨some 59,none,
 .faddr 4 (.t 3),0,[]⟩,⟨some 60,none,.load false 1 (.t 59),0,[]⟩,⟨some 61,none,.iaddr 5 (.t 60) (.c (.v (.int .i64 0))),0,[]⟩,⟨some 62,none,.load true 5 (.t 61),0,[]⟩,
 ⟨some 63,none,.call (.c (.fn 52 [])) [.t 62],0,[]⟩,⟨some 64,none,.un .not (.t 63),0,[]⟩]) (.cond (.t 64) (.seq (.reg [⟨some 65,none,.load true 6 (.t 2),0,[]⟩,⟨some 66,
 none,.load true 5 (.t 3),0,[]⟩,⟨some 67,none,.call (.c (.fn 54 [])) [.t 65,.t 66,.c (.v (.int .i64 0))],0,[]⟩,⟨some 68,none,.ext (.t 67) 0,0,[]⟩,⟨some 69,none,
 .ext (.t 67) 1,0,[]⟩,⟨some 70,none,.ext (.t 67) 2,0,[]⟩,⟨none,none,.store 5 (.t 4) (.t 68),0,[]⟩,⟨some 5,none,.mov (.t 69),0,[]⟩,⟨some 6,none,.mov (.t 70),0,[]⟩]) .ret)
  .skip)) (.seq (.reg [⟨some 71,none,.load true 5 (.t 3),0,[]⟩,⟨some 72,none,.call (.c (.fn 55 [])) [.t 71],0,[]⟩,⟨some 73,none,.ext (.t 72) 0,0,[]⟩,⟨some 74,none,
 .ext (.t 72) 1,0,[]⟩,⟨some 75,none,.ext (.t 72) 2,0,[]⟩,⟨none,none,.store 5 (.t 4) (.t 73),0,[]⟩,⟨some 5,none,.mov (.t 74),0,[]⟩,⟨some 6,none,.mov (.t 75),0,[]⟩]) .ret))
  .skip)))))))))))) (.seq (.seq (.reg [⟨some 9,none,.mov (.c (.v (.int .i64 0))),0,[]⟩]) (.block 1 (.loop (.seq (.seq (.reg [⟨some 76,none,.mov (.t 9),0,[]⟩,⟨some 77,
 none,.faddr 4 (.t 3),0,[]⟩,⟨some 78,none,.load false 1 (.t 77),0,[]⟩,⟨some 79,none,.lenS (.t 78),0,[]⟩,⟨some 80,none,.bin .lss (.t 76) (.t 79),0,[]⟩]) (.cond (.t 80)
  .skip (.exit 1))) (.seq (.block 2 (.seq (.reg [⟨some 83,none,.faddr 4 (.t 3),0,[]⟩,⟨some 84,none,.load false 1 (.t 83),0,[]⟩,⟨some 85,none,.mov (.t 9),0,[]⟩,⟨some 86,
 none,.iaddr 5 (.t 84) (.t 85),0,[]⟩,⟨some 87,none,.load true 5 (.t 86),0,[]⟩,⟨some 88,none,.call (.c (.fn 52 [])) [.t 87],0,[]⟩,⟨some 89,none,.un .not (.t 88),0,[]⟩])
  (.cond (.t 89) (.seq (.reg [⟨some 90,none,.load true 6 (.t 2),0,[]⟩,⟨some 91,none,.load true 5 (.t 3),0,[]⟩,⟨some 92,none,.mov (.t 9),0,[]⟩,⟨some 93,none,
 .call (.c (.fn 54 [])) [.t 90,.t 91,.t 92],0,[]⟩,⟨some 94,none,.ext (.t 93) 0,0,[]⟩,⟨some 95,none,.ext (.t 93) 1,0,[]⟩,⟨some 96,none,.ext (.t 93) 2,0,[]⟩,⟨none,none,
 .store 5 (.t 4) (.t 94),0,[]⟩,⟨some 5,none,.mov (.t 95),0,[]⟩,⟨some 6,none,.mov (.t 96),0,[]⟩]) .ret) .skip))) (.reg [⟨some 81,none,.mov (.t 9),0,[]⟩,⟨some 82,none,
 .bin .add (.t 81) (.c (.v (.int .i64 1))),0,[]⟩,⟨some 9,none,.mov (.t 82),0,[]⟩])))))) (.seq (.reg [⟨some 97,none,.faddr 4 (.t 3),0,[]⟩,⟨some 98,none,
 .load false 1 (.t 97),0,[]⟩,⟨some 99,none,.iaddr 5 (.t 98) (.c (.v (.int .i64 0))),0,[]⟩,⟨some 100,none,.load true 5 (.t 99),0,[]⟩,⟨some 10,none,.alloc [.v (.int .i64 0)
 ,.v (.int .i64 0),.v (.string (ByteArray.mk #[])),.sl [] .nil,.sl [] .nil],0,[]⟩,⟨none,none,.store 5 (.t 10) (.t 100),0,[]⟩]) (.seq (.block 3 (.seq (.reg [⟨some 102,
 none,.faddr 0 (.t 10),0,[]⟩,⟨some 103,none,.load false 1 (.t 102),0,[]⟩,⟨some 104,none,.bin .eql (.t 103) (.c (.v (.int .i64 6))),0,[]⟩,⟨some 101,none,.mov (.t 104),0,[]
 ⟩]) (.cond (.t 101) (.seq (.reg [⟨some 105,none,.load true 5 (.t 10),0,[]⟩,⟨none,none,.store 5 (.t 4) (.t 105),0,[]⟩,⟨some 5,none,.mov (.c (.v (.bool true))),0,[]⟩,
 ⟨some 6,none,.mov (.c (.v (.int .i64 0))),0,[]⟩]) .ret) (.seq (.reg [⟨some 107,none,.faddr 0 (.t 3),0,[]⟩,⟨some 108,none,.load false 1 (.t 107),0,[]⟩,⟨some 109,none,
 .bin .eql (.t 108) (.c (.v (.int .i64 2))),0,[]⟩,⟨some 110,none,.mov (.t 109),0,[]⟩,⟨some 111,some (110,true),.faddr 0 (.t 10),0,[]⟩,⟨some 112,some (110,true),
 .load false 1 (.t 111),0,[]⟩,⟨some 113,some (110,true),.bin .eql (.t 112) (.c (.v (.int .i64 1))),0,[]⟩,⟨some 114,none,.pick (.t 110) (.t 113) (.c (.v (.bool false))),0,
 []⟩,⟨some 106,none,.mov (.t 114),0,[]⟩]) (.cond (.t 106) (.seq (.dreg [7,0,0,0] [⟨some 115,none,.faddr 4 (.t 10),0,[]⟩,⟨some 116,none,.load false 1 (.t 115),1,[0]⟩,
 ⟨some 117,none,.iaddr 5 (.t 116) (.c (.v (.int .i64 0))),2,[1,0]⟩,⟨some 118,none,.load true 5 (.t 117),3,[2,1,0]⟩,⟨some 119,none,.faddr 4 (.t 3),4,[]⟩,⟨some 120,none,
 .load false 1 (.t 119),5,[4]⟩,⟨some 121,none,.slice 5 (.t 120) (some (.c (.v (.int .i64 1)))) none none,6,[5,4]⟩,⟨some 122,none,.call (.c (.fn 19 [])) [.t 118,.t 121],7,
 [6,5,4,3,2,1,0]⟩,⟨none,none,.store 5 (.t 4) (.t 122),8,[7,6,5,4,3,2,1,0]⟩,⟨some 5,none,.mov (.c (.v (.bool true))),9,[8,7,6,5,4,3,2,1,0]⟩,⟨some 6,none,
 .mov (.c (.v (.int .i64 0))),10,[9,8,7,6,5,4,3,2,1,0]⟩]) .ret) (.seq (.reg [⟨some 124,none,.faddr 0 (.t 3),0,[]⟩,⟨some 125,none,.load false 1 (.t 124),0,[]⟩,⟨some 126,
 none,.bin .eql (.t 125) (.c (.v (.int .i64 9))),0,[]⟩,⟨some 127,none,.mov (.t 126),0,[]⟩,⟨some 128,some (127,true),.faddr 0 (.t 10),0,[]⟩,⟨some 129,some (127,true),
 .load false 1 (.t 128),0,[]⟩,⟨some 130,some (127,true),.bin .eql (.t 129) (.c (.v (.int .i64 8))),0,[]⟩,⟨some 131,none,.pick (.t 127) (.t 130) (.c (.v (.bool false))),0,
 []⟩,⟨some 123,none,.mov (.t 131),0,[]⟩]) (.cond (.t 123) (.seq (.reg [⟨some 132,none,.faddr 4 (.t 10),0,[]⟩,⟨some 133,none,.load false 1 (.t 132),0,[]⟩,⟨some 134,none,
 .iaddr 5 (.t 133) (.c (.v (.int .i64 0))),0,[]⟩,⟨some 135,none,.load true 5 (.t 134),0,[]⟩,⟨none,none,.store 5 (.t 4) (.t 135),0,[]⟩,⟨some 5,none,
 .mov (.c (.v (.bool true))),0,[]⟩,⟨some 6,none,.mov (.c (.v (.int .i64 0))),0,[]⟩]) .ret) (.seq (.reg [⟨some 137,none,.faddr 0 (.t 3),0,[]⟩,⟨some 138,none,
 .load false 1 (.t 137),0,[]⟩,⟨some 139,none,.bin .eql (.t 138) (.c (.v (.int .i64 10))),0,[]⟩,⟨some 140,none,.mov (.t 139),0,[]⟩,⟨some 141,some (140,true),
 .faddr 0 (.t 10),0,[]⟩,⟨some 142,some (140,true),.load false 1 (.t 141),0,[]⟩,⟨some 143,some (140,true),.bin .eql (.t 142) (.c (.v (.int .i64 8))),0,[]⟩,⟨some 144,none,
 .pick (.t 140) (.t 143) (.c (.v (.bool false))),0,[]⟩,⟨some 136,none,.mov (.t 144),0,[]⟩]) (.cond (.t 136) (.seq (.reg [⟨some 145,none,.faddr 4 (.t 10),0,[]⟩,⟨some 146,
 none,.load false 1 (.t 145),0,[]⟩,⟨some 147,none,.iaddr 5 (.t 146) (.c (.v (.int .i64 1))),0,[]⟩,⟨some 148,none,.load true 5 (.t 147),0,[]⟩,⟨none,none,.store 5 (.t 4)
  (.t 148),0,[]⟩,⟨some 5,none,.mov (.c (.v (.bool true))),0,[]⟩,⟨some 6,none,.mov (.c (.v (.int .i64 0))),0,[]⟩]) .ret) .skip))))))))) (.seq (.reg [⟨some 149,none,
 .build [.v (.int .i64 0),.v (.int .i64 0),.v (.string (ByteArray.mk #[])),.sl [] .nil,.sl [] .nil] [],0,[]⟩,⟨none,none,.store 5 (.t 4) (.t 149),0,[]⟩,⟨some 5,none,
 .mov (.c (.v (.bool false))),0,[]⟩,⟨some 6,none,.mov (.c (.v (.int .i64 10))),0,[]⟩]) .ret))))))⟩
theorem pf21_is : pfs 21 = some pf21 := by kernel_rfl
-- euclid/lambda.Eval
def pf22 : PF := ⟨31,[.c 4 true 5,.t 5],.seq (.reg [⟨some 2,none,.box (.t 0),0,[]⟩,⟨some 3,none,.box (.t 1),0,[]⟩,⟨some 4,none,.alloc [.v (.int .i64 0),.v (.int .i64 0),
 .v (.string (ByteArray.mk #[])),.sl [] .nil,.sl [] .nil],0,[]⟩,⟨some 5,none,.mov (.c (.v (.int .i64 0))),0,[]⟩]) (.seq (.seq (.reg [⟨some 9,none,.load true 6 (.t 2),0,[]
 ⟩,⟨some 10,none,.call (.c (.fn 14 [])) [.t 9],0,[]⟩,⟨some 6,none,.mov (.t 10),0,[]⟩]) (.seq (.reg [⟨some 11,none,.mov (.t 6),0,[]⟩,⟨some 12,none,.bin .neq (.t 11)
  (.c (.v (.int .i64 0))),0,[]⟩]) (.cond (.t 12) (.seq (.reg [⟨some 13,none,.build [.v (.int .i64 0),.v (.int .i64 0),.v (.string (ByteArray.mk #[])),.sl [] .nil,.sl []
  .nil] [],0,[]⟩,⟨some 14,none,.mov (.t 6),0,[]⟩,⟨none,none,.store 5 (.t 4) (.t 13),0,[]⟩,⟨some 5,none,.mov (.t 14),0,[]⟩]) .ret) .skip))) (.seq (.seq (.reg [⟨some 15,
 none,.load false 1 (.t 3),0,[]⟩,⟨some 16,none,.bin .lss (.t 15) (.c (.v (.int .i64 0))),0,[]⟩,⟨some 17,none,.mov (.t 16),0,[]⟩,⟨some 18,some (17,false),
 .load false 1 (.t 3),0,[]⟩,⟨some 19,some (17,false),.bin .gtr (.t 18) (.c (.v (.int .i64 1000000))),0,[]⟩,⟨some 20,none,.pick (.t 17) (.c (.v (.bool true))) (.t 19),0,[]
 ⟩]) (.cond (.t 20) (.seq (.reg [⟨some 21,none,.build [.v (.int .i64 0),.v (.int .i64 0),.v (.string (ByteArray.mk #[])),.sl [] .nil,.sl [] .nil] [],0,[]⟩,⟨none,none,
 .store 5 (.t 4) (.t 21),0,[]⟩,⟨some 5,none,.mov (.c (.v (.int .i64 2))),0,[]⟩]) .ret) .skip)) (.seq (.reg [⟨some 22,none,.faddr 1 (.t 2),0,[]⟩,⟨some 23,none,
 .load true 5 (.t 22),0,[]⟩,⟨some 7,none,.alloc [.v (.int .i64 0),.v (.int .i64 0),.v (.string (ByteArray.mk #[])),.sl [] .nil,.sl [] .nil],0,[]⟩,⟨none,none,
 .store 5 (.t 7) (.t 23),0,[]⟩]) (.seq (.reg [⟨some 24,none,.mkfn 56 [.t 3,.t 7,.t 2],0,[]⟩,⟨some 25,none,.call (.c (.fn 35 [])) [.t 24],0,[]⟩,⟨some 8,none,.mov (.t 25),
 0,[]⟩]) (.seq (.seq (.reg [⟨some 26,none,.mov (.t 8),0,[]⟩,⟨some 27,none,.bin .neq (.t 26) (.c (.v (.int .i64 0))),0,[]⟩]) (.cond (.t 27) (.seq (.reg [⟨some 28,none,
 .build [.v (.int .i64 0),.v (.int .i64 0),.v (.string (ByteArray.mk #[])),.sl [] .nil,.sl [] .nil] [],0,[]⟩,⟨some 29,none,.mov (.t 8),0,[]⟩,⟨none,none,.store 5 (.t 4)
  (.t 28),0,[]⟩,⟨some 5,none,.mov (.t 29),0,[]⟩]) .ret) .skip)) (.seq (.reg [⟨some 30,none,.load true 5 (.t 7),0,[]⟩,⟨none,none,.store 5 (.t 4) (.t 30),0,[]⟩,⟨some 5,
 none,.mov (.c (.v (.int .i64 0))),0,[]⟩]) .ret))))))⟩
theorem pf22_is : pfs 22 = some pf22 := by kernel_rfl
-- euclid/euclidref55.Eval
def pf23 : PF := ⟨58,[.c 4 true 5,.t 5,.t 6],.seq (.reg [⟨some 2,none,.box (.t 0),0,[]⟩,⟨some 4,none,.alloc [.v (.int .i64 0),.v (.int .i64 0),.v (.string (ByteArray.mk #[])),.sl []
  .nil,.sl [] .nil],0,[]⟩,⟨some 5,none,.mov (.c (.v (.bool false))),0,[]⟩,⟨some 6,none,.mov (.c (.v (.int .i64 0))),0,[]⟩]) (.seq (.seq (.reg [⟨some 13,none,
 .load true 6 (.t 2),0,[]⟩,⟨some 14,none,.call (.c (.fn 15 [])) [.t 13],0,[]⟩,⟨some 7,none,.mov (.t 14),0,[]⟩]) (.seq (.reg [⟨some 15,none,.mov (.t 7),0,[]⟩,⟨some 16,
 none,.bin .neq (.t 15) (.c (.v (.int .i64 0))),0,[]⟩]) (.cond (.t 16) (.seq (.reg [⟨some 17,none,.build [.v (.int .i64 0),.v (.int .i64 0),.v (.string (ByteArray.mk #[])
 ),.sl [] .nil,.sl [] .nil] [],0,[]⟩,⟨some 18,none,.mov (.t 7),0,[]⟩,⟨none,none,.store 5 (.t 4) (.t 17),0,[]⟩,⟨some 5,none,.mov (.c (.v (.bool false))),0,[]⟩,⟨some 6,
 none,.mov (.t 18),0,[]⟩]) .ret) .skip))) (.seq (.seq (.reg [⟨some 19,none,.mov (.t 1),0,[]⟩,⟨some 20,none,.bin .lss (.t 19) (.c (.v (.int .i64 0))),0,[]⟩,⟨some 21,none,
 .mov (.t 20),0,[]⟩,⟨some 22,some (21,false),.mov (.t 1),0,[]⟩,⟨some 23,some (21,false),.bin .gtr (.t 22) (.c (.v (.int .i64 1000000))),0,[]⟩,⟨some 24,none,.pick (.t 21)
  (.c (.v (.bool true))) (.t 23),0,[]⟩]) (.cond (.t 24) (.seq (.reg [⟨some 25,none,.build [.v (.int .i64 0),.v (.int .i64 0),.v (.string (ByteArray.mk #[])),.sl [] .nil,
 .sl [] .nil] [],0,[]⟩,⟨none,none,.store 5 (.t 4) (.t 25),0,[]⟩,⟨some 5,none,.mov (.c (.v (.bool false))),0,[]⟩,⟨some 6,none,.mov (.c (.v (.int .i64 2))),0,[]⟩]) .ret)
  .skip)) (.seq (.reg [⟨some 26,none,.faddr 1 (.t 2),0,[]⟩,⟨some 27,none,.load true 5 (.t 26),0,[]⟩,⟨some 8,none,.alloc [.v (.int .i64 0),.v (.int .i64 0),
 .v (.string (ByteArray.mk #[])),.sl [] .nil,.sl [] .nil],0,[]⟩,⟨none,none,.store 5 (.t 8) (.t 27),0,[]⟩]) (.seq (.seq (.reg [⟨some 9,none,.mov (.c (.v (.int .i64 0))),0,
 []⟩]) (.block 0 (.loop (.seq (.seq (.reg [⟨some 28,none,.load true 5 (.t 8),0,[]⟩,⟨some 29,none,.call (.c (.fn 52 [])) [.t 28],0,[]⟩,⟨some 30,none,.un .not (.t 29),0,[]⟩
 ]) (.cond (.t 30) .skip (.exit 0))) (.seq (.block 1 (.seq (.seq (.reg [⟨some 33,none,.load true 5 (.t 8),0,[]⟩,⟨some 34,none,.call (.c (.fn 24 [])) [.t 33],0,[]⟩,
 ⟨some 35,none,.bin .gtr (.t 34) (.c (.v (.int .i64 4096))),0,[]⟩]) (.cond (.t 35) (.seq (.reg [⟨some 36,none,.build [.v (.int .i64 0),.v (.int .i64 0),
 .v (.string (ByteArray.mk #[])),.sl [] .nil,.sl [] .nil] [],0,[]⟩,⟨none,none,.store 5 (.t 4) (.t 36),0,[]⟩,⟨some 5,none,.mov (.c (.v (.bool true))),0,[]⟩,⟨some 6,none,
 .mov (.c (.v (.int .i64 5))),0,[]⟩]) .ret) .skip)) (.seq (.seq (.reg [⟨some 37,none,.mov (.t 9),0,[]⟩,⟨some 38,none,.mov (.t 1),0,[]⟩,⟨some 39,none,.bin .eql (.t 37)
  (.t 38),0,[]⟩]) (.cond (.t 39) (.seq (.reg [⟨some 40,none,.build [.v (.int .i64 0),.v (.int .i64 0),.v (.string (ByteArray.mk #[])),.sl [] .nil,.sl [] .nil] [],0,[]⟩,
 ⟨none,none,.store 5 (.t 4) (.t 40),0,[]⟩,⟨some 5,none,.mov (.c (.v (.bool false))),0,[]⟩,⟨some 6,none,.mov (.c (.v (.int .i64 11))),0,[]⟩]) .ret) .skip))
  (.seq (.reg [⟨some 42,none,.load true 6 (.t 2),0,[]⟩,⟨some 43,none,.load true 5 (.t 8),0,[]⟩,⟨some 44,none,.call (.c (.fn 21 [])) [.t 42,.t 43],0,[]⟩,⟨some 41,none,
 .mov (.t 44),0,[]⟩,⟨some 45,none,.ext (.t 41) 0,0,[]⟩,⟨some 46,none,.ext (.t 41) 1,0,[]⟩,⟨some 47,none,.ext (.t 41) 2,0,[]⟩,⟨some 10,none,.alloc [.v (.int .i64 0),
 .v (.int .i64 0),.v (.string (ByteArray.mk #[])),.sl [] .nil,.sl [] .nil],0,[]⟩,⟨none,none,.store 5 (.t 10) (.t 45),0,[]⟩,⟨some 11,none,.mov (.t 46),0,[]⟩,⟨some 12,none,
 .mov (.t 47),0,[]⟩]) (.seq (.seq (.reg [⟨some 48,none,.mov (.t 12),0,[]⟩,⟨some 49,none,.bin .neq (.t 48) (.c (.v (.int .i64 0))),0,[]⟩]) (.cond (.t 49)
  (.seq (.reg [⟨some 50,none,.build [.v (.int .i64 0),.v (.int .i64 0),.v (.string (ByteArray.mk #[])),.sl [] .nil,.sl [] .nil] [],0,[]⟩,⟨some 51,none,.mov (.t 12),0,[]⟩,
 ⟨none,none,.store 5 (.t 4) (.t 50),0,[]⟩,⟨some 5,none,.mov (.c (.v (.bool false))),0,[]⟩,⟨some 6,none,.mov (.t 51),0,[]⟩]) .ret) .skip)) (.reg [⟨some 52,none,
 .load true 5 (.t 10),0,[]⟩,⟨none,none,.store 5 (.t 8) (.t 52),0,[]⟩])))))) (.reg [⟨some 31,none,.mov (.t 9),0,[]⟩,⟨some 32,none,.bin .add (.t 31) (.c (.v (.int .i64 1)))
 ,0,[]⟩,⟨some 9,none,.mov (.t 32),0,[]⟩])))))) (.seq (.seq (.reg [⟨some 53,none,.load true 5 (.t 8),0,[]⟩,⟨some 54,none,.call (.c (.fn 24 [])) [.t 53],0,[]⟩,⟨some 55,
 none,.bin .gtr (.t 54) (.c (.v (.int .i64 4096))),0,[]⟩]) (.cond (.t 55) (.seq (.reg [⟨some 56,none,.build [.v (.int .i64 0),.v (.int .i64 0),
 .v (.string (ByteArray.mk #[])),.sl [] .nil,.sl [] .nil] [],0,[]⟩,⟨none,none,.store 5 (.t 4) (.t 56),0,[]⟩,⟨some 5,none,.mov (.c (.v (.bool false))),0,[]⟩,⟨some 6,none,
 .mov (.c (.v (.int .i64 5))),0,[]⟩]) .ret) .skip)) (.seq (.reg [⟨some 57,none,.load true 5 (.t 8),0,[]⟩,⟨none,none,.store 5 (.t 4) (.t 57),0,[]⟩,⟨some 5,none,
 .mov (.c (.v (.bool false))),0,[]⟩,⟨some 6,none,.mov (.c (.v (.int .i64 0))),0,[]⟩]) .ret))))))⟩
theorem pf23_is : pfs 23 = some pf23 := by kernel_rfl
-- euclid/euclidref55.Size
def pf24 : PF := ⟨21,[.t 2],.seq (.reg [⟨some 1,none,.box (.t 0),0,[]⟩,⟨some 2,none,.mov (.c (.v (.int .i64 0))),0,[]⟩]) (.seq (.reg [⟨some 3,none,.mov (.c (.v (.int .i64 1))),0,[]⟩])
  (.seq (.seq (.reg [⟨some 4,none,.mov (.c (.v (.int .i64 0))),0,[]⟩]) (.block 0 (.loop (.seq (.seq (.reg [⟨some 5,none,.mov (.t 4),0,[]⟩,⟨some 6,none,.faddr 4 (.t 1),0,
 []⟩,⟨some 7,none,.load false 1 (.t 6),0,[]⟩,⟨some 8,none,.lenS (.t 7),0,[]⟩,⟨some 9,none,.bin .lss (.t 5) (.t 8),0,[]⟩]) (.cond (.t 9) .skip (.exit 0)))
  (.seq (.block 1 (.reg [⟨some 12,none,.mov (.t 3),0,[]⟩,⟨some 13,none,.faddr 4 (.t 1),0,[]⟩,⟨some 14,none,.load false 1 (.t 13),0,[]⟩,⟨some 15,none,.mov (.t 4),0,[]⟩,
 ⟨some 16,none,.iaddr 5 (.t 14) (.t 15),0,[]⟩,⟨some 17,none,.load true 5 (.t 16),0,[]⟩,⟨some 18,none,.call (.c (.fn 24 [])) [.t 17],0,[]⟩,⟨some 19,none,.bin .add (.t 12)
  (.t 18),0,[]⟩,⟨some 3,none,.mov (.t 19),0,[]⟩])) (.reg [⟨some 10,none,.mov (.t 4),0,[]⟩,⟨some 11,none,.bin .add (.t 10) (.c (.v (.int .i64 1))),0,[]⟩,⟨some 4,none,
 .mov (.t 11),0,[]⟩])))))) (.seq (.reg [⟨some 20,none,.mov (.t 3),0,[]⟩,⟨some 2,none,.mov (.t 20),0,[]⟩]) .ret)))⟩
theorem pf24_is : pfs 24 = some pf24 := by kernel_rfl
-- euclid/euclidlaw55.plus
def pf25 : PF := ⟨41,[.c 4 true 6],.seq (.reg [⟨some 4,none,.alloc [.sl [] .nil,.v (.int .i64 0),.v (.int .i64 0),.v (.string (ByteArray.mk #[])),.sl [] .nil,.sl [] .nil],0,[]⟩])
  (.seq (.reg [⟨some 8,none,.build [.v (.int .i64 0),.v (.int .i64 0),.v (.string (ByteArray.mk #[])),.sl [] .nil,.sl [] .nil] [(0,1,.c (.v (.int .i64 5))),(2,1,
 .c (.v (.string (ByteArray.mk #[112,108,117,115]))))],0,[]⟩,⟨some 9,none,.call (.c (.fn 34 [])) [.c (.v (.int .i64 0))],0,[]⟩,⟨some 10,none,.bsl (.agg [.v (.int .i64 0),
 .v (.int .i64 0),.v (.string (ByteArray.mk #[])),.sl [] .nil,.sl [] .nil]) 2 [(0,5,.t 8),(5,5,.t 9)],0,[]⟩,⟨some 11,none,.call (.c (.fn 33 [])) [.c (.v (.int .i64 2)),
 .t 10],0,[]⟩,⟨some 12,none,.call (.c (.fn 34 [])) [.c (.v (.int .i64 1))],0,[]⟩,⟨some 13,none,.bsl (.agg [.v (.int .i64 0),.v (.int .i64 0),.v (.string (ByteArray.mk #[]
 )),.sl [] .nil,.sl [] .nil]) 2 [(0,5,.t 11),(5,5,.t 12)],0,[]⟩,⟨some 14,none,.call (.c (.fn 33 [])) [.c (.v (.int .i64 2)),.t 13],0,[]⟩,⟨some 5,none,
 .alloc [.v (.int .i64 0),.v (.int .i64 0),.v (.string (ByteArray.mk #[])),.sl [] .nil,.sl [] .nil],0,[]⟩,⟨none,none,.store 5 (.t 5) (.t 14),0,[]⟩]) (.seq (.dreg [9]
  [⟨some 6,none,.alloc [.v (.int .i64 0),.v (.int .i64 0),.v (.string (ByteArray.mk #[])),.sl [] .nil,.sl [] .nil],8,[]⟩,⟨some 15,none,.bsl (.v (.int .i64 0)) 2 [(0,1,
 .c (.v (.int .i64 0))),(1,1,.c (.v (.int .i64 1)))],0,[]⟩,⟨some 16,none,.call (.c (.fn 34 [])) [.c (.v (.int .i64 1))],1,[]⟩,⟨some 17,none,.call (.c (.fn 34 []))
  [.c (.v (.int .i64 0))],2,[1]⟩,⟨some 18,none,.load true 5 (.t 5),3,[]⟩,⟨some 19,none,.bsl (.agg [.v (.int .i64 0),.v (.int .i64 0),.v (.string (ByteArray.mk #[])),
 .sl [] .nil,.sl [] .nil]) 1 [(0,5,.t 18)],4,[3]⟩,⟨some 20,none,.call (.c (.fn 58 [])) [.c (.v (.string (ByteArray.mk #[115,117,99,99]))),.c (.v (.int .i64 1)),.t 19],5,
 [2,1,4,3]⟩,⟨some 21,none,.bsl (.agg [.v (.int .i64 0),.v (.int .i64 0),.v (.string (ByteArray.mk #[])),.sl [] .nil,.sl [] .nil]) 3 [(0,5,.t 16),(5,5,.t 17),(10,5,.t 20)]
 ,6,[5,4,3,2,1]⟩,⟨some 22,none,.build [.v (.int .i64 0),.v (.int .i64 0),.v (.string (ByteArray.mk #[])),.sl [] .nil,.sl [] .nil] [(0,1,.c (.v (.int .i64 4))),(3,1,.t 15)
 ,(4,1,.t 21)],7,[6,5,4,3,2,1,0]⟩,⟨none,none,.store 5 (.t 6) (.t 22),9,[7,6,5,4,3,2,1,0,8]⟩]) (.seq (.reg [⟨some 23,none,.build [.v (.int .i64 0),.v (.int .i64 0),
 .v (.string (ByteArray.mk #[])),.sl [] .nil,.sl [] .nil] [(0,1,.c (.v (.int .i64 5))),(2,1,.c (.v (.string (ByteArray.mk #[112,108,117,115]))))],0,[]⟩,⟨some 24,none,
 .mov (.t 0),0,[]⟩,⟨some 25,none,.call (.c (.fn 26 [])) [.t 24],0,[]⟩,⟨some 26,none,.bsl (.agg [.v (.int .i64 0),.v (.int .i64 0),.v (.string (ByteArray.mk #[])),.sl []
  .nil,.sl [] .nil]) 2 [(0,5,.t 23),(5,5,.t 25)],0,[]⟩,⟨some 27,none,.call (.c (.fn 33 [])) [.c (.v (.int .i64 2)),.t 26],0,[]⟩,⟨some 28,none,.mov (.t 1),0,[]⟩,⟨some 29,
 none,.call (.c (.fn 26 [])) [.t 28],0,[]⟩,⟨some 30,none,.bsl (.agg [.v (.int .i64 0),.v (.int .i64 0),.v (.string (ByteArray.mk #[])),.sl [] .nil,.sl [] .nil]) 2 [(0,5,
 .t 27),(5,5,.t 29)],0,[]⟩,⟨some 31,none,.call (.c (.fn 33 [])) [.c (.v (.int .i64 2)),.t 30],0,[]⟩,⟨some 7,none,.alloc [.v (.int .i64 0),.v (.int .i64 0),
 .v (.string (ByteArray.mk #[])),.sl [] .nil,.sl [] .nil],0,[]⟩,⟨none,none,.store 5 (.t 7) (.t 31),0,[]⟩]) (.seq (.dreg [8,0] [⟨some 32,none,.load true 5 (.t 6),0,[]⟩,
 ⟨some 33,none,.bsl (.agg [.v (.int .i64 0),.v (.int .i64 0),.v (.string (ByteArray.mk #[])),.sl [] .nil,.sl [] .nil]) 1 [(0,5,.t 32)],1,[0]⟩,⟨some 34,none,
 .call (.c (.fn 33 [])) [.c (.v (.int .i64 1)),.t 33],2,[1,0]⟩,⟨some 35,none,.bsl (.agg [.v (.int .i64 0),.v (.int .i64 0),.v (.string (ByteArray.mk #[])),.sl [] .nil,
 .sl [] .nil]) 1 [(0,5,.t 34)],3,[2,1,0]⟩,⟨some 36,none,.call (.c (.fn 33 [])) [.c (.v (.int .i64 1)),.t 35],4,[3,2,1,0]⟩,⟨some 37,none,
 .build [.v (.string (ByteArray.mk #[])),.v (.int .i64 0),.v (.int .i64 0),.v (.string (ByteArray.mk #[])),.sl [] .nil,.sl [] .nil] [(0,1,
 .c (.v (.string (ByteArray.mk #[112,108,117,115])))),(1,5,.t 36)],5,[4,3,2,1,0]⟩,⟨some 38,none,.bsl (.agg [.v (.string (ByteArray.mk #[])),.v (.int .i64 0),
 .v (.int .i64 0),.v (.string (ByteArray.mk #[])),.sl [] .nil,.sl [] .nil]) 1 [(0,6,.t 37)],6,[5,4,3,2,1,0]⟩,⟨some 39,none,.load true 5 (.t 7),7,[]⟩,⟨some 40,none,
 .build [.sl [] .nil,.v (.int .i64 0),.v (.int .i64 0),.v (.string (ByteArray.mk #[])),.sl [] .nil,.sl [] .nil] [(0,1,.t 38),(1,5,.t 39)],8,[7,6,5,4,3,2,1,0]⟩,⟨none,none,
 .store 6 (.t 4) (.t 40),9,[8,7,6,5,4,3,2,1,0]⟩]) .ret))))⟩
theorem pf25_is : pfs 25 = some pf25 := by kernel_rfl
-- euclid/euclidlaw55.numeral
def pf26 : PF := ⟨13,[.c 2 true 5],.seq (.reg [⟨some 2,none,.alloc [.v (.int .i64 0),.v (.int .i64 0),.v (.string (ByteArray.mk #[])),.sl [] .nil,.sl [] .nil],0,[]⟩])
  (.seq (.reg [⟨some 4,none,.call (.c (.fn 58 [])) [.c (.v (.string (ByteArray.mk #[122,101,114,111]))),.c (.v (.int .i64 0)),.c (.sl [] .nil)],0,[]⟩,⟨some 3,none,
 .alloc [.v (.int .i64 0),.v (.int .i64 0),.v (.string (ByteArray.mk #[])),.sl [] .nil,.sl [] .nil],0,[]⟩,⟨none,none,.store 5 (.t 3) (.t 4),0,[]⟩])
  (.seq (.seq (.reg [⟨some 5,none,.mov (.t 0),0,[]⟩,⟨some 6,none,.mov (.c (.v (.int .i64 0))),0,[]⟩]) (.block 0 (.loop (.seq (.reg [⟨some 7,none,.bin .lss (.t 6) (.t 5),
 0,[]⟩]) (.seq (.cond (.t 7) .skip (.exit 0)) (.seq (.block 1 (.reg [⟨some 8,none,.load true 5 (.t 3),0,[]⟩,⟨some 9,none,.bsl (.agg [.v (.int .i64 0),.v (.int .i64 0),
 .v (.string (ByteArray.mk #[])),.sl [] .nil,.sl [] .nil]) 1 [(0,5,.t 8)],0,[]⟩,⟨some 10,none,.call (.c (.fn 58 [])) [.c (.v (.string (ByteArray.mk #[115,117,99,99]))),
 .c (.v (.int .i64 1)),.t 9],0,[]⟩,⟨none,none,.store 5 (.t 3) (.t 10),0,[]⟩])) (.reg [⟨some 11,none,.bin .add (.t 6) (.c (.v (.int .i64 1))),0,[]⟩,⟨some 6,none,
 .mov (.t 11),0,[]⟩]))))))) (.seq (.reg [⟨some 12,none,.load true 5 (.t 3),0,[]⟩,⟨none,none,.store 5 (.t 2) (.t 12),0,[]⟩]) .ret)))⟩
theorem pf26_is : pfs 26 = some pf26 := by kernel_rfl
-- euclid/euclidlaw55.small
def pf27 : PF := ⟨52,[.t 6,.t 7],.seq (.reg [⟨some 3,none,.box (.t 0),0,[]⟩,⟨some 6,none,.mov (.c (.v (.int .i64 0))),0,[]⟩,⟨some 7,none,.mov (.c (.v (.bool false))),0,[]⟩])
  (.seq (.seq (.reg [⟨some 12,none,.mov (.t 1),0,[]⟩,⟨some 13,none,.bin .leq (.t 12) (.c (.v (.int .i64 0))),0,[]⟩,⟨some 14,none,.mov (.t 13),0,[]⟩,⟨some 15,some (14,
 false),.mov (.t 2),0,[]⟩,⟨some 16,some (14,false),.bin .leq (.t 15) (.c (.v (.int .i64 0))),0,[]⟩,⟨some 17,none,.pick (.t 14) (.c (.v (.bool true))) (.t 16),0,[]⟩,
 ⟨some 18,none,.mov (.t 17),0,[]⟩,⟨some 19,some (18,false),.faddr 2 (.t 3),0,[]⟩,⟨some 20,some (18,false),.load false 1 (.t 19),0,[]⟩,⟨some 21,some (18,false),
 .lenT (.t 20),0,[]⟩,⟨some 22,some (18,false),.bin .gtr (.t 21) (.c (.v (.int .i64 80))),0,[]⟩,⟨some 23,none,.pick (.t 18) (.c (.v (.bool true))) (.t 22),0,[]⟩,⟨some 24,
 none,.mov (.t 23),0,[]⟩,⟨some 25,some (24,false),.faddr 3 (.t 3),0,[]⟩,⟨some 26,some (24,false),.load false 1 (.t 25),0,[]⟩,⟨some 27,some (24,false),.lenS (.t 26),0,[]⟩,
 ⟨some 28,some (24,false),.bin .gtr (.t 27) (.c (.v (.int .i64 40))),0,[]⟩,⟨some 29,none,.pick (.t 24) (.c (.v (.bool true))) (.t 28),0,[]⟩]) (.cond (.t 29)
  (.seq (.reg [⟨some 6,none,.mov (.c (.v (.int .i64 0))),0,[]⟩,⟨some 7,none,.mov (.c (.v (.bool false))),0,[]⟩]) .ret) .skip)) (.seq (.reg [⟨some 30,none,.mov (.t 1),0,[]
 ⟩,⟨some 31,none,.bin .sub (.t 30) (.c (.v (.int .i64 1))),0,[]⟩,⟨some 1,none,.mov (.t 31),0,[]⟩]) (.seq (.seq (.reg [⟨some 32,none,.faddr 4 (.t 3),0,[]⟩,⟨some 33,none,
 .load false 1 (.t 32),0,[]⟩,⟨some 34,none,.lenS (.t 33),0,[]⟩,⟨some 35,none,.mov (.c (.v (.int .i64 0))),0,[]⟩]) (.block 0 (.loop (.seq (.reg [⟨some 36,none,
 .bin .lss (.t 35) (.t 34),0,[]⟩]) (.seq (.cond (.t 36) .skip (.exit 0)) (.seq (.block 1 (.seq (.reg [⟨some 37,none,.iaddr 5 (.t 33) (.t 35),0,[]⟩,⟨some 38,none,
 .load true 5 (.t 37),0,[]⟩,⟨some 9,none,.alloc [.v (.int .i64 0),.v (.int .i64 0),.v (.string (ByteArray.mk #[])),.sl [] .nil,.sl [] .nil],0,[]⟩,⟨none,none,
 .store 5 (.t 9) (.t 38),0,[]⟩]) (.seq (.reg [⟨some 40,none,.load true 5 (.t 9),0,[]⟩,⟨some 41,none,.mov (.t 1),0,[]⟩,⟨some 42,none,.mov (.t 2),0,[]⟩,⟨some 43,none,
 .bin .sub (.t 42) (.c (.v (.int .i64 1))),0,[]⟩,⟨some 44,none,.call (.c (.fn 27 [])) [.t 40,.t 41,.t 43],0,[]⟩,⟨some 39,none,.mov (.t 44),0,[]⟩,⟨some 45,none,
 .ext (.t 39) 0,0,[]⟩,⟨some 46,none,.ext (.t 39) 1,0,[]⟩,⟨some 10,none,.mov (.t 45),0,[]⟩,⟨some 11,none,.mov (.t 46),0,[]⟩]) (.seq (.seq (.reg [⟨some 47,none,.mov (.t 11)
 ,0,[]⟩,⟨some 48,none,.un .not (.t 47),0,[]⟩]) (.cond (.t 48) (.seq (.reg [⟨some 6,none,.mov (.c (.v (.int .i64 0))),0,[]⟩,⟨some 7,none,.mov (.c (.v (.bool false))),0,[]⟩
 ]) .ret) .skip)) (.reg [⟨some 49,none,.mov (.t 10),0,[]⟩,⟨some 1,none,.mov (.t 49),0,[]⟩]))))) (.reg [⟨some 50,none,.bin .add (.t 35) (.c (.v (.int .i64 1))),0,[]⟩,
 ⟨some 35,none,.mov (.t 50),0,[]⟩]))))))) (.seq (.reg [⟨some 51,none,.mov (.t 1),0,[]⟩,⟨some 6,none,.mov (.t 51),0,[]⟩,⟨some 7,none,.mov (.c (.v (.bool true))),0,[]⟩])
  .ret))))⟩
theorem pf27_is : pfs 27 = some pf27 := by kernel_rfl
-- euclid/lambda.Data
def pf28 : PF := ⟨13,[.c 2 true 2,.t 3],.seq (.reg [⟨some 1,none,.box (.t 0),0,[]⟩,⟨some 2,none,.alloc [.v (.string (ByteArray.mk #[])),.sl [] .nil],0,[]⟩,⟨some 3,none,
 .mov (.c (.v (.bool false))),0,[]⟩]) (.seq (.reg [⟨some 6,none,.call (.c (.fn 38 [])) [],0,[]⟩,⟨some 4,none,.alloc [.v .nilFunc,.v .nilFunc,.v .nilFunc,.v .nilFunc,
 .v .nilFunc,.v .nilFunc,.v .nilFunc,.v .nilFunc,.v .nilFunc,.v .nilFunc,.v .nilFunc,.v .nilFunc],0,[]⟩,⟨none,none,.store 12 (.t 4) (.t 6),0,[]⟩]) (.seq (.reg [⟨some 5,
 none,.alloc [.v .nilFunc],0,[]⟩]) (.seq (.reg [⟨some 7,none,.mkfn 59 [.t 4,.t 5],0,[]⟩,⟨none,none,.store 1 (.t 5) (.t 7),0,[]⟩]) (.seq (.reg [⟨some 8,none,
 .load false 1 (.t 5),0,[]⟩,⟨some 9,none,.load true 5 (.t 1),0,[]⟩,⟨some 10,none,.call (.t 8) [.t 9],0,[]⟩,⟨some 11,none,.ext (.t 10) 0,0,[]⟩,⟨some 12,none,.ext (.t 10)
  1,0,[]⟩,⟨none,none,.store 2 (.t 2) (.t 11),0,[]⟩,⟨some 3,none,.mov (.t 12),0,[]⟩]) .ret))))⟩
theorem pf28_is : pfs 28 = some pf28 := by kernel_rfl
-- euclid/euclidref55.Data
def pf29 : PF := ⟨52,[.c 2 true 2,.t 3],.seq (.reg [⟨some 1,none,.box (.t 0),0,[]⟩,⟨some 2,none,.alloc [.v (.string (ByteArray.mk #[])),.sl [] .nil],0,[]⟩,⟨some 3,none,
 .mov (.c (.v (.bool false))),0,[]⟩]) (.seq (.seq (.reg [⟨some 8,none,.faddr 0 (.t 1),0,[]⟩,⟨some 9,none,.load false 1 (.t 8),0,[]⟩,⟨some 10,none,.bin .neq (.t 9)
  (.c (.v (.int .i64 3))),0,[]⟩,⟨some 11,none,.mov (.t 10),0,[]⟩,⟨some 12,some (11,false),.load true 5 (.t 1),0,[]⟩,⟨some 13,some (11,false),.call (.c (.fn 61 []))
  [.t 12],0,[]⟩,⟨some 14,some (11,false),.un .not (.t 13),0,[]⟩,⟨some 15,none,.pick (.t 11) (.c (.v (.bool true))) (.t 14),0,[]⟩,⟨some 16,none,.mov (.t 15),0,[]⟩,
 ⟨some 17,some (16,false),.faddr 2 (.t 1),0,[]⟩,⟨some 18,some (16,false),.load false 1 (.t 17),0,[]⟩,⟨some 19,some (16,false),.call (.c (.fn 41 [])) [.t 18],0,[]⟩,
 ⟨some 20,some (16,false),.un .not (.t 19),0,[]⟩,⟨some 21,none,.pick (.t 16) (.c (.v (.bool true))) (.t 20),0,[]⟩]) (.cond (.t 21) (.seq (.reg [⟨some 22,none,
 .build [.v (.string (ByteArray.mk #[])),.sl [] .nil] [],0,[]⟩,⟨none,none,.store 2 (.t 2) (.t 22),0,[]⟩,⟨some 3,none,.mov (.c (.v (.bool false))),0,[]⟩]) .ret) .skip))
  (.seq (.reg [⟨some 23,none,.faddr 2 (.t 1),0,[]⟩,⟨some 24,none,.load false 1 (.t 23),0,[]⟩,⟨some 25,none,.build [.v (.string (ByteArray.mk #[])),.sl [] .nil] [(0,1,
 .t 24)],0,[]⟩,⟨some 4,none,.alloc [.v (.string (ByteArray.mk #[])),.sl [] .nil],0,[]⟩,⟨none,none,.store 2 (.t 4) (.t 25),0,[]⟩]) (.seq (.seq (.reg [⟨some 5,none,
 .mov (.c (.v (.int .i64 0))),0,[]⟩]) (.block 0 (.loop (.seq (.seq (.reg [⟨some 26,none,.mov (.t 5),0,[]⟩,⟨some 27,none,.faddr 4 (.t 1),0,[]⟩,⟨some 28,none,
 .load false 1 (.t 27),0,[]⟩,⟨some 29,none,.lenS (.t 28),0,[]⟩,⟨some 30,none,.bin .lss (.t 26) (.t 29),0,[]⟩]) (.cond (.t 30) .skip (.exit 0)))
  (.seq (.block 1 (.seq (.reg [⟨some 34,none,.faddr 4 (.t 1),0,[]⟩,⟨some 35,none,.load false 1 (.t 34),0,[]⟩,⟨some 36,none,.mov (.t 5),0,[]⟩,⟨some 37,none,
 .iaddr 5 (.t 35) (.t 36),0,[]⟩,⟨some 38,none,.load true 5 (.t 37),0,[]⟩,⟨some 39,none,.call (.c (.fn 29 [])) [.t 38],0,[]⟩,⟨some 33,none,.mov (.t 39),0,[]⟩,⟨some 40,
 none,.ext (.t 33) 0,0,[]⟩,⟨some 41,none,.ext (.t 33) 1,0,[]⟩,⟨some 6,none,.alloc [.v (.string (ByteArray.mk #[])),.sl [] .nil],0,[]⟩,⟨none,none,.store 2 (.t 6) (.t 40),
 0,[]⟩,⟨some 7,none,.mov (.t 41),0,[]⟩]) (.seq (.seq (.reg [⟨some 42,none,.mov (.t 7),0,[]⟩,⟨some 43,none,.un .not (.t 42),0,[]⟩]) (.cond (.t 43) (.seq (.reg [⟨some 44,
 none,.build [.v (.string (ByteArray.mk #[])),.sl [] .nil] [],0,[]⟩,⟨none,none,.store 2 (.t 2) (.t 44),0,[]⟩,⟨some 3,none,.mov (.c (.v (.bool false))),0,[]⟩]) .ret)
  .skip)) (.reg [⟨some 45,none,.faddr 1 (.t 4),0,[]⟩,⟨some 46,none,.load false 1 (.t 45),0,[]⟩,⟨some 47,none,.load true 2 (.t 6),0,[]⟩,⟨some 48,none,
 .bsl (.agg [.v (.string (ByteArray.mk #[])),.sl [] .nil]) 1 [(0,2,.t 47)],0,[]⟩,⟨some 49,none,.app 2 none (.t 46) (.t 48),0,[]⟩,⟨some 50,none,.faddr 1 (.t 4),0,[]⟩,
 ⟨none,none,.store 1 (.t 50) (.t 49),0,[]⟩])))) (.reg [⟨some 31,none,.mov (.t 5),0,[]⟩,⟨some 32,none,.bin .add (.t 31) (.c (.v (.int .i64 1))),0,[]⟩,⟨some 5,none,
 .mov (.t 32),0,[]⟩])))))) (.seq (.reg [⟨some 51,none,.load true 2 (.t 4),0,[]⟩,⟨none,none,.store 2 (.t 2) (.t 51),0,[]⟩,⟨some 3,none,.mov (.c (.v (.bool true))),0,[]⟩])
  .ret))))⟩
theorem pf29_is : pfs 29 = some pf29 := by kernel_rfl
-- euclid/euclidref55.SameData
def pf30 : PF := ⟨39,[.t 4],.seq (.reg [⟨some 2,none,.box (.t 0),0,[]⟩,⟨some 3,none,.box (.t 1),0,[]⟩,⟨some 4,none,.mov (.c (.v (.bool false))),0,[]⟩]) (.seq (.seq (.reg [⟨some 6,none,
 .faddr 0 (.t 2),0,[]⟩,⟨some 7,none,.load false 1 (.t 6),0,[]⟩,⟨some 8,none,.faddr 0 (.t 3),0,[]⟩,⟨some 9,none,.load false 1 (.t 8),0,[]⟩,⟨some 10,none,.bin .neq (.t 7)
  (.t 9),0,[]⟩,⟨some 11,none,.mov (.t 10),0,[]⟩,⟨some 12,some (11,false),.faddr 1 (.t 2),0,[]⟩,⟨some 13,some (11,false),.load false 1 (.t 12),0,[]⟩,⟨some 14,some (11,
 false),.lenS (.t 13),0,[]⟩,⟨some 15,some (11,false),.faddr 1 (.t 3),0,[]⟩,⟨some 16,some (11,false),.load false 1 (.t 15),0,[]⟩,⟨some 17,some (11,false),.lenS (.t 16),0,
 []⟩,⟨some 18,some (11,false),.bin .neq (.t 14) (.t 17),0,[]⟩,⟨some 19,none,.pick (.t 11) (.c (.v (.bool true))) (.t 18),0,[]⟩]) (.cond (.t 19) (.seq (.reg [⟨some 4,none,
 .mov (.c (.v (.bool false))),0,[]⟩]) .ret) .skip)) (.seq (.seq (.reg [⟨some 5,none,.mov (.c (.v (.int .i64 0))),0,[]⟩]) (.block 0 (.loop (.seq (.seq (.reg [⟨some 20,
 none,.mov (.t 5),0,[]⟩,⟨some 21,none,.faddr 1 (.t 2),0,[]⟩,⟨some 22,none,.load false 1 (.t 21),0,[]⟩,⟨some 23,none,.lenS (.t 22),0,[]⟩,⟨some 24,none,.bin .lss (.t 20)
  (.t 23),0,[]⟩]) (.cond (.t 24) .skip (.exit 0))) (.seq (.block 1 (.seq (.dreg [10,0] [⟨some 27,none,.faddr 1 (.t 2),0,[]⟩,⟨some 28,none,.load false 1 (.t 27),1,[0]⟩,
 ⟨some 29,none,.mov (.t 5),2,[]⟩,⟨some 30,none,.iaddr 2 (.t 28) (.t 29),3,[2,1,0]⟩,⟨some 31,none,.load true 2 (.t 30),4,[3,2,1,0]⟩,⟨some 32,none,.faddr 1 (.t 3),5,[]⟩,
 ⟨some 33,none,.load false 1 (.t 32),6,[5]⟩,⟨some 34,none,.mov (.t 5),7,[]⟩,⟨some 35,none,.iaddr 2 (.t 33) (.t 34),8,[7,6,5]⟩,⟨some 36,none,.load true 2 (.t 35),9,[8,7,6,
 5]⟩,⟨some 37,none,.call (.c (.fn 30 [])) [.t 31,.t 36],10,[9,8,7,6,5,4,3,2,1,0]⟩,⟨some 38,none,.un .not (.t 37),11,[10,9,8,7,6,5,4,3,2,1,0]⟩]) (.cond (.t 38)
  (.seq (.reg [⟨some 4,none,.mov (.c (.v (.bool false))),0,[]⟩]) .ret) .skip))) (.reg [⟨some 25,none,.mov (.t 5),0,[]⟩,⟨some 26,none,.bin .add (.t 25)
  (.c (.v (.int .i64 1))),0,[]⟩,⟨some 5,none,.mov (.t 26),0,[]⟩])))))) (.seq (.reg [⟨some 4,none,.mov (.c (.v (.bool true))),0,[]⟩]) .ret)))⟩
theorem pf30_is : pfs 30 = some pf30 := by kernel_rfl
-- euclid/euclidlaw55.flat
def pf31 : PF := ⟨38,[.t 4,.t 5],.seq (.reg [⟨some 2,none,.box (.t 0),0,[]⟩,⟨some 4,none,.mov (.c (.v (.int .i64 0))),0,[]⟩,⟨some 5,none,.mov (.c (.v (.bool false))),0,[]⟩])
  (.seq (.seq (.reg [⟨some 10,none,.mov (.t 1),0,[]⟩,⟨some 11,none,.bin .leq (.t 10) (.c (.v (.int .i64 0))),0,[]⟩,⟨some 12,none,.mov (.t 11),0,[]⟩,⟨some 13,some (12,
 false),.faddr 0 (.t 2),0,[]⟩,⟨some 14,some (12,false),.load false 1 (.t 13),0,[]⟩,⟨some 15,some (12,false),.lenT (.t 14),0,[]⟩,⟨some 16,some (12,false),.bin .gtr (.t 15)
  (.c (.v (.int .i64 80))),0,[]⟩,⟨some 17,none,.pick (.t 12) (.c (.v (.bool true))) (.t 16),0,[]⟩]) (.cond (.t 17) (.seq (.reg [⟨some 4,none,.mov (.c (.v (.int .i64 0))),
 0,[]⟩,⟨some 5,none,.mov (.c (.v (.bool false))),0,[]⟩]) .ret) .skip)) (.seq (.reg [⟨some 18,none,.mov (.t 1),0,[]⟩,⟨some 19,none,.bin .sub (.t 18) (.c (.v (.int .i64 1))
 ),0,[]⟩,⟨some 1,none,.mov (.t 19),0,[]⟩]) (.seq (.seq (.reg [⟨some 20,none,.faddr 1 (.t 2),0,[]⟩,⟨some 21,none,.load false 1 (.t 20),0,[]⟩,⟨some 22,none,.lenS (.t 21),0,
 []⟩,⟨some 23,none,.mov (.c (.v (.int .i64 0))),0,[]⟩]) (.block 0 (.loop (.seq (.reg [⟨some 24,none,.bin .lss (.t 23) (.t 22),0,[]⟩]) (.seq (.cond (.t 24) .skip (.exit 0)
 ) (.seq (.block 1 (.seq (.reg [⟨some 25,none,.iaddr 2 (.t 21) (.t 23),0,[]⟩,⟨some 26,none,.load true 2 (.t 25),0,[]⟩,⟨some 7,none,.alloc [.v (.string (ByteArray.mk #[]))
 ,.sl [] .nil],0,[]⟩,⟨none,none,.store 2 (.t 7) (.t 26),0,[]⟩]) (.seq (.reg [⟨some 28,none,.load true 2 (.t 7),0,[]⟩,⟨some 29,none,.mov (.t 1),0,[]⟩,⟨some 30,none,
 .call (.c (.fn 31 [])) [.t 28,.t 29],0,[]⟩,⟨some 27,none,.mov (.t 30),0,[]⟩,⟨some 31,none,.ext (.t 27) 0,0,[]⟩,⟨some 32,none,.ext (.t 27) 1,0,[]⟩,⟨some 8,none,
 .mov (.t 31),0,[]⟩,⟨some 9,none,.mov (.t 32),0,[]⟩]) (.seq (.seq (.reg [⟨some 33,none,.mov (.t 9),0,[]⟩,⟨some 34,none,.un .not (.t 33),0,[]⟩]) (.cond (.t 34)
  (.seq (.reg [⟨some 4,none,.mov (.c (.v (.int .i64 0))),0,[]⟩,⟨some 5,none,.mov (.c (.v (.bool false))),0,[]⟩]) .ret) .skip)) (.reg [⟨some 35,none,.mov (.t 8),0,[]⟩,
 ⟨some 1,none,.mov (.t 35),0,[]⟩]))))) (.reg [⟨some 36,none,.bin .add (.t 23) (.c (.v (.int .i64 1))),0,[]⟩,⟨some 23,none,.mov (.t 36),0,[]⟩])))))))
  (.seq (.reg [⟨some 37,none,.mov (.t 1),0,[]⟩,⟨some 4,none,.mov (.t 37),0,[]⟩,⟨some 5,none,.mov (.c (.v (.bool true))),0,[]⟩]) .ret))))⟩
theorem pf31_is : pfs 31 = some pf31 := by kernel_rfl
-- euclid/euclidlaw55.tree
def pf32 : PF := ⟨25,[.c 2 true 5],.seq (.reg [⟨some 1,none,.box (.t 0),0,[]⟩,⟨some 2,none,.alloc [.v (.int .i64 0),.v (.int .i64 0),.v (.string (ByteArray.mk #[])),.sl [] .nil,.sl []
  .nil],0,[]⟩]) (.seq (.reg [⟨some 6,none,.faddr 0 (.t 1),0,[]⟩,⟨some 7,none,.load false 1 (.t 6),0,[]⟩,⟨some 8,none,.call (.c (.fn 58 [])) [.t 7,.c (.v (.int .i64 0)),
 .c (.sl [] .nil)],0,[]⟩,⟨some 3,none,.alloc [.v (.int .i64 0),.v (.int .i64 0),.v (.string (ByteArray.mk #[])),.sl [] .nil,.sl [] .nil],0,[]⟩,⟨none,none,.store 5 (.t 3)
  (.t 8),0,[]⟩]) (.seq (.seq (.reg [⟨some 9,none,.faddr 1 (.t 1),0,[]⟩,⟨some 10,none,.load false 1 (.t 9),0,[]⟩,⟨some 11,none,.lenS (.t 10),0,[]⟩,⟨some 12,none,
 .mov (.c (.v (.int .i64 0))),0,[]⟩]) (.block 0 (.loop (.seq (.reg [⟨some 13,none,.bin .lss (.t 12) (.t 11),0,[]⟩]) (.seq (.cond (.t 13) .skip (.exit 0))
  (.seq (.block 1 (.seq (.reg [⟨some 14,none,.iaddr 2 (.t 10) (.t 12),0,[]⟩,⟨some 15,none,.load true 2 (.t 14),0,[]⟩,⟨some 5,none,.alloc [.v (.string (ByteArray.mk #[])),
 .sl [] .nil],0,[]⟩,⟨none,none,.store 2 (.t 5) (.t 15),0,[]⟩]) (.dreg [5,0,0] [⟨some 16,none,.faddr 4 (.t 3),0,[]⟩,⟨some 17,none,.load false 1 (.t 16),1,[0]⟩,⟨some 18,
 none,.load true 2 (.t 5),2,[]⟩,⟨some 19,none,.call (.c (.fn 32 [])) [.t 18],3,[2]⟩,⟨some 20,none,.bsl (.agg [.v (.int .i64 0),.v (.int .i64 0),
 .v (.string (ByteArray.mk #[])),.sl [] .nil,.sl [] .nil]) 1 [(0,5,.t 19)],4,[3,2]⟩,⟨some 21,none,.app 5 none (.t 17) (.t 20),5,[4,3,2,1,0]⟩,⟨some 22,none,.faddr 4 (.t 3)
 ,6,[5,4,3,2,1,0]⟩,⟨none,none,.store 1 (.t 22) (.t 21),7,[6,5,4,3,2,1,0]⟩]))) (.reg [⟨some 23,none,.bin .add (.t 12) (.c (.v (.int .i64 1))),0,[]⟩,⟨some 12,none,
 .mov (.t 23),0,[]⟩]))))))) (.seq (.reg [⟨some 24,none,.load true 5 (.t 3),0,[]⟩,⟨none,none,.store 5 (.t 2) (.t 24),0,[]⟩]) .ret)))⟩
theorem pf32_is : pfs 32 = some pf32 := by kernel_rfl
-- euclid/euclidlaw55.node
def pf33 : PF := ⟨8,[.c 4 true 5],.seq (.reg [⟨some 4,none,.alloc [.v (.int .i64 0),.v (.int .i64 0),.v (.string (ByteArray.mk #[])),.sl [] .nil,.sl [] .nil],0,[]⟩])
  (.seq (.reg [⟨some 5,none,.mov (.t 0),0,[]⟩,⟨some 6,none,.mov (.t 1),0,[]⟩,⟨some 7,none,.build [.v (.int .i64 0),.v (.int .i64 0),.v (.string (ByteArray.mk #[])),.sl []
  .nil,.sl [] .nil] [(0,1,.t 5),(4,1,.t 6)],0,[]⟩,⟨none,none,.store 5 (.t 4) (.t 7),0,[]⟩]) .ret)⟩
theorem pf33_is : pfs 33 = some pf33 := by kernel_rfl
-- euclid/euclidlaw55.variable
def pf34 : PF := ⟨5,[.c 2 true 5],.seq (.reg [⟨some 2,none,.alloc [.v (.int .i64 0),.v (.int .i64 0),.v (.string (ByteArray.mk #[])),.sl [] .nil,.sl [] .nil],0,[]⟩])
  (.seq (.reg [⟨some 3,none,.mov (.t 0),0,[]⟩,⟨some 4,none,.build [.v (.int .i64 0),.v (.int .i64 0),.v (.string (ByteArray.mk #[])),.sl [] .nil,.sl [] .nil] [(1,1,.t 3)]
 ,0,[]⟩,⟨none,none,.store 5 (.t 2) (.t 4),0,[]⟩]) .ret)⟩
theorem pf34_is : pfs 34 = some pf34 := by kernel_rfl
-- euclid/lambda.caught
def pf35 : PF := ⟨6,[.c 2 false 1],.seq (.reg [⟨some 2,none,.alloc [.v (.int .i64 0)],0,[]⟩]) (.seq (.reg [⟨some 3,none,.mkfn 62 [.t 2],0,[]⟩,⟨none,none,.dfr (.t 3) [],0,[]⟩])
  (.seq (.reg [⟨some 4,none,.mov (.t 0),0,[]⟩,⟨some 5,none,.call (.t 4) [],0,[]⟩]) (.seq (.reg [⟨none,none,.store 1 (.t 2) (.c (.v (.int .i64 0))),0,[]⟩]) .ret)))⟩
theorem pf35_is : pfs 35 = some pf35 := by kernel_rfl
-- euclid/lambda.Check$1
def pf36 : PF := ⟨60,[],.seq (.reg [⟨some 7,none,.faddr 0 (.t 0),0,[]⟩,⟨some 8,none,.load false 1 (.t 7),0,[]⟩,⟨some 9,none,.lenS (.t 8),0,[]⟩,⟨some 10,none,.bin .leq (.t 9)
  (.c (.v (.int .i64 1000))),0,[]⟩,⟨some 11,none,.call (.c (.fn 37 [])) [.t 10,.c (.v (.int .i64 6))],0,[]⟩]) (.seq (.reg [⟨some 12,none,.call (.c (.fn 38 [])) [],0,[]⟩,
 ⟨some 13,none,.mkmap,0,[]⟩,⟨some 14,none,.build [.v .nilFunc,.v .nilFunc,.v .nilFunc,.v .nilFunc,.v .nilFunc,.v .nilFunc,.v .nilFunc,.v .nilFunc,.v .nilFunc,.v .nilFunc,
 .v .nilFunc,.v .nilFunc,.v (.map none)] [(0,12,.t 12),(12,1,.t 13)],0,[]⟩,⟨some 15,none,.box (.t 14),0,[]⟩,⟨some 1,none,.mov (.t 15),0,[]⟩]) (.seq (.seq (.reg [⟨some 16,
 none,.faddr 0 (.t 0),0,[]⟩,⟨some 17,none,.load false 1 (.t 16),0,[]⟩,⟨some 18,none,.lenS (.t 17),0,[]⟩,⟨some 19,none,.mov (.c (.v (.int .i64 0))),0,[]⟩])
  (.block 0 (.loop (.seq (.reg [⟨some 20,none,.bin .lss (.t 19) (.t 18),0,[]⟩]) (.seq (.cond (.t 20) .skip (.exit 0)) (.seq (.block 1 (.seq (.reg [⟨some 21,none,
 .iaddr 6 (.t 17) (.t 19),0,[]⟩,⟨some 22,none,.load true 6 (.t 21),0,[]⟩,⟨some 3,none,.alloc [.v (.string (ByteArray.mk #[])),.v (.int .i64 0),.v (.int .i64 0),
 .v (.string (ByteArray.mk #[])),.sl [] .nil,.sl [] .nil],0,[]⟩,⟨none,none,.store 6 (.t 3) (.t 22),0,[]⟩]) (.dreg [6] [⟨some 23,none,.mov (.t 1),0,[]⟩,⟨some 24,none,
 .nilck (.t 23),1,[0]⟩,⟨some 25,none,.faddr 12 (.t 24),2,[1,0]⟩,⟨some 26,none,.load false 1 (.t 25),3,[2,1,0]⟩,⟨some 27,none,.faddr 0 (.t 3),4,[]⟩,⟨some 28,none,
 .load false 1 (.t 27),5,[4]⟩,⟨none,none,.mapup true (.t 26) (.t 28) (.c (.v (.bool true))),6,[5,4,3,2,1,0]⟩]))) (.reg [⟨some 29,none,.bin .add (.t 19)
  (.c (.v (.int .i64 1))),0,[]⟩,⟨some 19,none,.mov (.t 29),0,[]⟩]))))))) (.seq (.reg [⟨some 30,none,.mkmap,0,[]⟩,⟨some 4,none,.mov (.t 30),0,[]⟩])
  (.seq (.seq (.reg [⟨some 31,none,.faddr 0 (.t 0),0,[]⟩,⟨some 32,none,.load false 1 (.t 31),0,[]⟩,⟨some 33,none,.lenS (.t 32),0,[]⟩,⟨some 34,none,
 .mov (.c (.v (.int .i64 0))),0,[]⟩]) (.block 2 (.loop (.seq (.reg [⟨some 35,none,.bin .lss (.t 34) (.t 33),0,[]⟩]) (.seq (.cond (.t 35) .skip (.exit 2))
  (.seq (.block 3 (.seq (.reg [⟨some 36,none,.iaddr 6 (.t 32) (.t 34),0,[]⟩,⟨some 37,none,.load true 6 (.t 36),0,[]⟩,⟨some 6,none,.alloc [.v (.string (ByteArray.mk #[])),
 .v (.int .i64 0),.v (.int .i64 0),.v (.string (ByteArray.mk #[])),.sl [] .nil,.sl [] .nil],0,[]⟩,⟨none,none,.store 6 (.t 6) (.t 37),0,[]⟩]) (.seq (.reg [⟨some 38,none,
 .faddr 0 (.t 6),0,[]⟩,⟨some 39,none,.load false 1 (.t 38),0,[]⟩,⟨some 40,none,.call (.c (.fn 39 [])) [.t 39],0,[]⟩,⟨some 41,none,.call (.c (.fn 37 [])) [.t 40,
 .c (.v (.int .i64 29))],0,[]⟩]) (.seq (.reg [⟨some 42,none,.mov (.t 4),0,[]⟩,⟨some 43,none,.faddr 0 (.t 6),0,[]⟩,⟨some 44,none,.load false 1 (.t 43),0,[]⟩,⟨some 45,none,
 .look (.v (.bool false)) false true (.t 42) (.t 44),0,[]⟩,⟨some 46,none,.un .not (.t 45),0,[]⟩,⟨some 47,none,.call (.c (.fn 37 [])) [.t 46,.c (.v (.int .i64 8))],0,[]⟩])
  (.seq (.reg [⟨some 48,none,.mov (.t 4),0,[]⟩,⟨some 49,none,.faddr 0 (.t 6),0,[]⟩,⟨some 50,none,.load false 1 (.t 49),0,[]⟩,⟨none,none,.mapup true (.t 48) (.t 50)
  (.c (.v (.bool true))),0,[]⟩]) (.reg [⟨some 51,none,.mov (.t 1),0,[]⟩,⟨some 52,none,.faddr 1 (.t 6),0,[]⟩,⟨some 53,none,.load true 5 (.t 52),0,[]⟩,⟨some 54,none,
 .call (.c (.fn 40 [])) [.t 51,.t 53],0,[]⟩])))))) (.reg [⟨some 55,none,.bin .add (.t 34) (.c (.v (.int .i64 1))),0,[]⟩,⟨some 34,none,.mov (.t 55),0,[]⟩])))))))
  (.reg [⟨some 56,none,.mov (.t 1),0,[]⟩,⟨some 57,none,.faddr 1 (.t 0),0,[]⟩,⟨some 58,none,.load true 5 (.t 57),0,[]⟩,⟨some 59,none,.call (.c (.fn 40 [])) [.t 56,.t 58],
 0,[]⟩])))))⟩
theorem pf36_is : pfs 36 = some pf36 := by kernel_rfl
-- euclid/lambda.demand
def pf37 : PF := ⟨9,[],.seq (.reg [⟨some 4,none,.mov (.t 0),0,[]⟩,⟨some 5,none,.un .not (.t 4),0,[]⟩]) (.cond (.t 5) (.reg [⟨some 6,none,.mov (.t 1),0,[]⟩,⟨some 7,none,
 .build [.v (.int .i64 0)] [(0,1,.t 6)],0,[]⟩,⟨some 8,none,.mkif 90 (.t 7),0,[]⟩,⟨none,none,.panic (.t 8),0,[]⟩]) .skip)⟩
theorem pf37_is : pfs 37 = some pf37 := by kernel_rfl
-- euclid/lambda.checks
def pf38 : PF := ⟨23,[.c 0 true 12],.seq (.reg [⟨some 0,none,.alloc [.v .nilFunc,.v .nilFunc,.v .nilFunc,.v .nilFunc,.v .nilFunc,.v .nilFunc,.v .nilFunc,.v .nilFunc,.v .nilFunc,
 .v .nilFunc,.v .nilFunc,.v .nilFunc],0,[]⟩]) (.seq (.reg [⟨some 1,none,.mov (.c (.fn 63 [])),0,[]⟩]) (.seq (.reg [⟨some 2,none,.mov (.t 1),0,[]⟩,⟨some 3,none,
 .call (.t 2) [.c (.v (.int .i64 0))],0,[]⟩,⟨some 4,none,.mov (.t 1),0,[]⟩,⟨some 5,none,.call (.t 4) [.c (.v (.int .i64 1))],0,[]⟩,⟨some 6,none,.mov (.t 1),0,[]⟩,⟨some 7,
 none,.call (.t 6) [.c (.v (.int .i64 2))],0,[]⟩,⟨some 8,none,.mov (.t 1),0,[]⟩,⟨some 9,none,.call (.t 8) [.c (.v (.int .i64 0))],0,[]⟩,⟨some 10,none,.mov (.t 1),0,[]⟩,
 ⟨some 11,none,.call (.t 10) [.c (.v (.int .i64 0))],0,[]⟩,⟨some 12,none,.mov (.t 1),0,[]⟩,⟨some 13,none,.call (.t 12) [.c (.v (.int .i64 2))],0,[]⟩,⟨some 14,none,
 .mov (.t 1),0,[]⟩,⟨some 15,none,.call (.t 14) [.c (.v (.int .i64 2))],0,[]⟩,⟨some 16,none,.mov (.t 1),0,[]⟩,⟨some 17,none,.call (.t 16) [.c (.v (.int .i64 1))],0,[]⟩,
 ⟨some 18,none,.mov (.t 1),0,[]⟩,⟨some 19,none,.call (.t 18) [.c (.v (.int .i64 1))],0,[]⟩,⟨some 20,none,.mov (.t 1),0,[]⟩,⟨some 21,none,.call (.t 20)
  [.c (.v (.int .i64 0))],0,[]⟩,⟨some 22,none,.build [.v .nilFunc,.v .nilFunc,.v .nilFunc,.v .nilFunc,.v .nilFunc,.v .nilFunc,.v .nilFunc,.v .nilFunc,.v .nilFunc,
 .v .nilFunc,.v .nilFunc,.v .nilFunc] [(0,1,.t 3),(1,1,.t 5),(2,1,.t 7),(3,1,.c (.fn 65 [])),(4,1,.c (.fn 66 [])),(5,1,.t 9),(6,1,.t 11),(7,1,.t 13),(8,1,.t 15),(9,1,
 .t 17),(10,1,.t 19),(11,1,.t 21)],0,[]⟩,⟨none,none,.store 12 (.t 0) (.t 22),0,[]⟩]) .ret))⟩
theorem pf38_is : pfs 38 = some pf38 := by kernel_rfl
-- euclid/term.Name
def pf39 : PF := ⟨39,[.t 2],.seq (.reg [⟨some 2,none,.mov (.c (.v (.bool false))),0,[]⟩]) (.seq (.reg [⟨some 3,none,.mov (.c (.v (.bool true))),0,[]⟩]) (.seq (.seq (.reg [⟨some 6,none,
 .mov (.t 0),0,[]⟩,⟨some 7,none,.lenT (.t 6),0,[]⟩,⟨some 8,none,.mov (.c (.v (.int .i64 0))),0,[]⟩]) (.block 0 (.loop (.seq (.reg [⟨some 9,none,.bin .lss (.t 8) (.t 7),0,
 []⟩]) (.seq (.cond (.t 9) .skip (.exit 0)) (.seq (.block 1 (.seq (.reg [⟨some 10,none,.mov (.t 8),0,[]⟩,⟨some 4,none,.mov (.t 10),0,[]⟩]) (.seq (.reg [⟨some 11,none,
 .mov (.t 0),0,[]⟩,⟨some 12,none,.mov (.t 4),0,[]⟩,⟨some 13,none,.idxS (.t 11) (.t 12),0,[]⟩,⟨some 5,none,.mov (.t 13),0,[]⟩]) (.block 2 (.seq (.reg [⟨some 15,none,
 .mov (.t 5),0,[]⟩,⟨some 16,none,.call (.c (.fn 67 [])) [.t 15],0,[]⟩,⟨some 14,none,.mov (.t 16),0,[]⟩]) (.cond (.t 14) (.reg [⟨some 3,none,.mov (.c (.v (.bool false))),
 0,[]⟩]) (.seq (.reg [⟨some 18,none,.mov (.t 3),0,[]⟩,⟨some 17,none,.mov (.t 18),0,[]⟩]) (.cond (.t 17) (.seq (.reg [⟨some 2,none,.mov (.c (.v (.bool false))),0,[]⟩])
  .ret) (.seq (.reg [⟨some 20,none,.mov (.t 5),0,[]⟩,⟨some 21,none,.bin .eql (.t 20) (.c (.v (.int .u8 46))),0,[]⟩,⟨some 19,none,.mov (.t 21),0,[]⟩]) (.cond (.t 19)
  (.reg [⟨some 3,none,.mov (.c (.v (.bool true))),0,[]⟩]) (.seq (.reg [⟨some 23,none,.mov (.t 5),0,[]⟩,⟨some 24,none,.bin .lss (.t 23) (.c (.v (.int .u8 48))),0,[]⟩,
 ⟨some 25,none,.mov (.t 24),0,[]⟩,⟨some 26,some (25,false),.mov (.t 5),0,[]⟩,⟨some 27,some (25,false),.bin .gtr (.t 26) (.c (.v (.int .u8 57))),0,[]⟩,⟨some 28,none,
 .pick (.t 25) (.c (.v (.bool true))) (.t 27),0,[]⟩,⟨some 22,none,.mov (.t 28),0,[]⟩]) (.cond (.t 22) (.seq (.reg [⟨some 29,none,.mov (.t 5),0,[]⟩,⟨some 30,none,
 .bin .neq (.t 29) (.c (.v (.int .u8 39))),0,[]⟩]) (.cond (.t 30) (.seq (.reg [⟨some 2,none,.mov (.c (.v (.bool false))),0,[]⟩]) .ret) .skip)) .skip))))))))))))
  (.reg [⟨some 31,none,.bin .add (.t 8) (.c (.v (.int .i64 1))),0,[]⟩,⟨some 8,none,.mov (.t 31),0,[]⟩]))))))) (.seq (.reg [⟨some 32,none,.mov (.t 3),0,[]⟩,⟨some 33,none,
 .un .not (.t 32),0,[]⟩,⟨some 34,none,.mov (.t 33),0,[]⟩,⟨some 35,some (34,true),.mov (.t 0),0,[]⟩,⟨some 36,some (34,true),.lenT (.t 35),0,[]⟩,⟨some 37,some (34,true),
 .bin .leq (.t 36) (.c (.v (.int .i64 64))),0,[]⟩,⟨some 38,none,.pick (.t 34) (.t 37) (.c (.v (.bool false))),0,[]⟩,⟨some 2,none,.mov (.t 38),0,[]⟩]) .ret)))⟩
theorem pf39_is : pfs 39 = some pf39 := by kernel_rfl
-- (*euclid/lambda.checker).whole
def pf40 : PF := ⟨18,[],.seq (.reg [⟨some 3,none,.box (.t 1),0,[]⟩]) (.seq (.reg [⟨some 7,none,.mov (.t 0),0,[]⟩,⟨some 8,none,.load true 5 (.t 3),0,[]⟩,⟨some 9,none,.call (.c (.fn 68 [])
 ) [.t 7,.t 8,.c (.v (.int .i64 0))],0,[]⟩,⟨some 6,none,.mov (.t 9),0,[]⟩,⟨some 10,none,.ext (.t 6) 0,0,[]⟩,⟨some 11,none,.ext (.t 6) 1,0,[]⟩,⟨some 4,none,.mov (.t 10),0,
 []⟩,⟨some 5,none,.mov (.t 11),0,[]⟩]) (.seq (.reg [⟨some 12,none,.mov (.t 4),0,[]⟩,⟨some 13,none,.bin .leq (.t 12) (.c (.v (.int .i64 4096))),0,[]⟩,⟨some 14,none,
 .call (.c (.fn 37 [])) [.t 13,.c (.v (.int .i64 5))],0,[]⟩]) (.reg [⟨some 15,none,.mov (.t 5),0,[]⟩,⟨some 16,none,.bin .leq (.t 15) (.c (.v (.int .i64 200))),0,[]⟩,
 ⟨some 17,none,.call (.c (.fn 37 [])) [.t 16,.c (.v (.int .i64 7))],0,[]⟩])))⟩
theorem pf40_is : pfs 40 = some pf40 := by kernel_rfl
-- euclid/euclidref03.Name
def pf41 : PF := ⟨45,[.t 2],.seq (.reg [⟨some 2,none,.mov (.c (.v (.bool false))),0,[]⟩]) (.seq (.seq (.reg [⟨some 6,none,.mov (.t 0),0,[]⟩,⟨some 7,none,.bin .eql (.t 6)
  (.c (.v (.string (ByteArray.mk #[])))),0,[]⟩,⟨some 8,none,.mov (.t 7),0,[]⟩,⟨some 9,some (8,false),.mov (.t 0),0,[]⟩,⟨some 10,some (8,false),.lenT (.t 9),0,[]⟩,
 ⟨some 11,some (8,false),.bin .gtr (.t 10) (.c (.v (.int .i64 64))),0,[]⟩,⟨some 12,none,.pick (.t 8) (.c (.v (.bool true))) (.t 11),0,[]⟩]) (.cond (.t 12)
  (.seq (.reg [⟨some 2,none,.mov (.c (.v (.bool false))),0,[]⟩]) .ret) .skip)) (.seq (.reg [⟨some 3,none,.mov (.c (.v (.bool true))),0,[]⟩]) (.seq (.seq (.reg [⟨some 4,
 none,.mov (.c (.v (.int .i64 0))),0,[]⟩]) (.block 0 (.loop (.seq (.seq (.reg [⟨some 13,none,.mov (.t 4),0,[]⟩,⟨some 14,none,.mov (.t 0),0,[]⟩,⟨some 15,none,.lenT (.t 14)
 ,0,[]⟩,⟨some 16,none,.bin .lss (.t 13) (.t 15),0,[]⟩]) (.cond (.t 16) .skip (.exit 0))) (.seq (.block 1 (.seq (.reg [⟨some 19,none,.mov (.t 0),0,[]⟩,⟨some 20,none,
 .mov (.t 4),0,[]⟩,⟨some 21,none,.idxS (.t 19) (.t 20),0,[]⟩,⟨some 5,none,.mov (.t 21),0,[]⟩]) (.seq (.seq (.reg [⟨some 22,none,.mov (.t 3),0,[]⟩]) (.cond (.t 22)
  (.seq (.seq (.reg [⟨some 23,none,.mov (.t 5),0,[]⟩,⟨some 24,none,.call (.c (.fn 69 [])) [.t 23],0,[]⟩,⟨some 25,none,.un .not (.t 24),0,[]⟩]) (.cond (.t 25)
  (.seq (.reg [⟨some 2,none,.mov (.c (.v (.bool false))),0,[]⟩]) .ret) .skip)) (.seq (.reg [⟨some 3,none,.mov (.c (.v (.bool false))),0,[]⟩]) (.exit 1))) .skip))
  (.seq (.seq (.reg [⟨some 26,none,.mov (.t 5),0,[]⟩,⟨some 27,none,.bin .eql (.t 26) (.c (.v (.int .u8 46))),0,[]⟩]) (.cond (.t 27) (.seq (.reg [⟨some 3,none,
 .mov (.c (.v (.bool true))),0,[]⟩]) (.exit 1)) .skip)) (.seq (.reg [⟨some 28,none,.mov (.t 5),0,[]⟩,⟨some 29,none,.call (.c (.fn 69 [])) [.t 28],0,[]⟩,⟨some 30,none,
 .un .not (.t 29),0,[]⟩,⟨some 31,none,.mov (.t 30),0,[]⟩,⟨some 32,some (31,true),.mov (.t 5),0,[]⟩,⟨some 33,some (31,true),.bin .neq (.t 32) (.c (.v (.int .u8 39))),0,[]⟩
 ,⟨some 34,none,.pick (.t 31) (.t 33) (.c (.v (.bool false))),0,[]⟩,⟨some 35,none,.mov (.t 34),0,[]⟩,⟨some 36,some (35,true),.mov (.t 5),0,[]⟩,⟨some 37,some (35,true),
 .bin .lss (.t 36) (.c (.v (.int .u8 48))),0,[]⟩,⟨some 38,some (35,true),.mov (.t 37),0,[]⟩,⟨some 39,some (38,false),.mov (.t 5),0,[]⟩,⟨some 40,some (38,false),
 .bin .gtr (.t 39) (.c (.v (.int .u8 57))),0,[]⟩,⟨some 41,some (35,true),.pick (.t 38) (.c (.v (.bool true))) (.t 40),0,[]⟩,⟨some 42,none,.pick (.t 35) (.t 41)
  (.c (.v (.bool false))),0,[]⟩]) (.cond (.t 42) (.seq (.reg [⟨some 2,none,.mov (.c (.v (.bool false))),0,[]⟩]) .ret) .skip)))))) (.reg [⟨some 17,none,.mov (.t 4),0,[]⟩,
 ⟨some 18,none,.bin .add (.t 17) (.c (.v (.int .i64 1))),0,[]⟩,⟨some 4,none,.mov (.t 18),0,[]⟩])))))) (.seq (.reg [⟨some 43,none,.mov (.t 3),0,[]⟩,⟨some 44,none,
 .un .not (.t 43),0,[]⟩,⟨some 2,none,.mov (.t 44),0,[]⟩]) .ret))))⟩
theorem pf41_is : pfs 41 = some pf41 := by kernel_rfl
-- euclid/euclidref55.whole
def pf42 : PF := ⟨18,[.t 4],.seq (.reg [⟨some 2,none,.box (.t 0),0,[]⟩,⟨some 3,none,.box (.t 1),0,[]⟩,⟨some 4,none,.mov (.c (.v (.int .i64 0))),0,[]⟩]) (.seq (.seq (.reg [⟨some 6,none,
 .load true 6 (.t 2),0,[]⟩,⟨some 7,none,.load true 5 (.t 3),0,[]⟩,⟨some 8,none,.call (.c (.fn 70 [])) [.t 6,.t 7,.c (.v (.int .i64 0))],0,[]⟩,⟨some 5,none,.mov (.t 8),0,
 []⟩]) (.seq (.reg [⟨some 9,none,.mov (.t 5),0,[]⟩,⟨some 10,none,.bin .neq (.t 9) (.c (.v (.int .i64 0))),0,[]⟩]) (.cond (.t 10) (.seq (.reg [⟨some 11,none,.mov (.t 5),0,
 []⟩,⟨some 4,none,.mov (.t 11),0,[]⟩]) .ret) .skip))) (.seq (.seq (.reg [⟨some 12,none,.load true 5 (.t 3),0,[]⟩,⟨some 13,none,.call (.c (.fn 24 [])) [.t 12],0,[]⟩,
 ⟨some 14,none,.bin .gtr (.t 13) (.c (.v (.int .i64 4096))),0,[]⟩]) (.cond (.t 14) (.seq (.reg [⟨some 4,none,.mov (.c (.v (.int .i64 5))),0,[]⟩]) .ret) .skip))
  (.seq (.seq (.reg [⟨some 15,none,.load true 5 (.t 3),0,[]⟩,⟨some 16,none,.call (.c (.fn 71 [])) [.t 15],0,[]⟩,⟨some 17,none,.bin .gtr (.t 16) (.c (.v (.int .i64 200))),
 0,[]⟩]) (.cond (.t 17) (.seq (.reg [⟨some 4,none,.mov (.c (.v (.int .i64 7))),0,[]⟩]) .ret) .skip)) (.seq (.reg [⟨some 4,none,.mov (.c (.v (.int .i64 0))),0,[]⟩]) .ret))
 ))⟩
theorem pf42_is : pfs 42 = some pf42 := by kernel_rfl
-- euclid/euclidref55.Open
def pf43 : PF := ⟨9,[.t 4],.seq (.reg [⟨some 2,none,.box (.t 0),0,[]⟩,⟨some 3,none,.box (.t 1),0,[]⟩,⟨some 4,none,.mov (.c (.v (.bool false))),0,[]⟩]) (.seq (.reg [⟨some 5,none,
 .load true 6 (.t 2),0,[]⟩,⟨some 6,none,.load true 5 (.t 3),0,[]⟩,⟨some 7,none,.call (.c (.fn 70 [])) [.t 5,.t 6,.c (.v (.int .i64 1073741824))],0,[]⟩,⟨some 8,none,
 .bin .eql (.t 7) (.c (.v (.int .i64 0))),0,[]⟩,⟨some 4,none,.mov (.t 8),0,[]⟩]) .ret)⟩
theorem pf43_is : pfs 43 = some pf43 := by kernel_rfl
-- euclid/lambda.mapVars
def pf44 : PF := ⟨50,[.c 6 true 5],.seq (.reg [⟨some 3,none,.box (.t 0),0,[]⟩,⟨some 6,none,.alloc [.v (.int .i64 0),.v (.int .i64 0),.v (.string (ByteArray.mk #[])),.sl [] .nil,.sl []
  .nil],0,[]⟩]) (.seq (.seq (.reg [⟨some 10,none,.faddr 0 (.t 3),0,[]⟩,⟨some 11,none,.load false 1 (.t 10),0,[]⟩,⟨some 12,none,.bin .eql (.t 11) (.c (.v (.int .i64 0))),
 0,[]⟩]) (.cond (.t 12) (.seq (.reg [⟨some 13,none,.mov (.t 2),0,[]⟩,⟨some 14,none,.faddr 1 (.t 3),0,[]⟩,⟨some 15,none,.load false 1 (.t 14),0,[]⟩,⟨some 16,none,
 .mov (.t 1),0,[]⟩,⟨some 17,none,.call (.t 13) [.t 15,.t 16],0,[]⟩,⟨none,none,.store 5 (.t 6) (.t 17),0,[]⟩]) .ret) .skip)) (.seq (.seq (.reg [⟨some 18,none,
 .faddr 4 (.t 3),0,[]⟩,⟨some 19,none,.load false 1 (.t 18),0,[]⟩,⟨some 20,none,.lenS (.t 19),0,[]⟩,⟨some 21,none,.bin .eql (.t 20) (.c (.v (.int .i64 0))),0,[]⟩])
  (.cond (.t 21) (.seq (.reg [⟨some 22,none,.load true 5 (.t 3),0,[]⟩,⟨none,none,.store 5 (.t 6) (.t 22),0,[]⟩]) .ret) .skip)) (.seq (.reg [⟨some 23,none,.faddr 4 (.t 3),
 0,[]⟩,⟨some 24,none,.load false 1 (.t 23),0,[]⟩,⟨some 25,none,.lenS (.t 24),0,[]⟩,⟨some 26,none,.mksl (.agg [.v (.int .i64 0),.v (.int .i64 0),
 .v (.string (ByteArray.mk #[])),.sl [] .nil,.sl [] .nil]) 5 true (.t 25),0,[]⟩,⟨some 7,none,.mov (.t 26),0,[]⟩]) (.seq (.seq (.reg [⟨some 27,none,.faddr 4 (.t 3),0,[]⟩,
 ⟨some 28,none,.load false 1 (.t 27),0,[]⟩,⟨some 29,none,.lenS (.t 28),0,[]⟩,⟨some 30,none,.mov (.c (.v (.int .i64 0))),0,[]⟩]) (.block 0 (.loop (.seq (.reg [⟨some 31,
 none,.bin .lss (.t 30) (.t 29),0,[]⟩]) (.seq (.cond (.t 31) .skip (.exit 0)) (.seq (.block 1 (.seq (.reg [⟨some 32,none,.mov (.t 30),0,[]⟩,⟨some 33,none,.iaddr 5 (.t 28)
  (.t 30),0,[]⟩,⟨some 34,none,.load true 5 (.t 33),0,[]⟩,⟨some 9,none,.alloc [.v (.int .i64 0),.v (.int .i64 0),.v (.string (ByteArray.mk #[])),.sl [] .nil,.sl [] .nil],
 0,[]⟩,⟨some 8,none,.mov (.t 32),0,[]⟩,⟨none,none,.store 5 (.t 9) (.t 34),0,[]⟩]) (.dreg [10,0] [⟨some 35,none,.mov (.t 7),0,[]⟩,⟨some 36,none,.mov (.t 8),1,[]⟩,⟨some 37,
 none,.load true 5 (.t 9),2,[]⟩,⟨some 38,none,.mov (.t 1),3,[]⟩,⟨some 39,none,.load true 5 (.t 3),4,[]⟩,⟨some 40,none,.mov (.t 8),5,[]⟩,⟨some 41,none,.call (.c (.fn 72 []
 )) [.t 39,.t 40],6,[5,4]⟩,⟨some 42,none,.bin .add (.t 38) (.t 41),7,[6,5,4,3]⟩,⟨some 43,none,.mov (.t 2),8,[]⟩,⟨some 44,none,.call (.c (.fn 44 [])) [.t 37,.t 42,.t 43],
 9,[8,7,6,5,4,3,2]⟩,⟨some 45,none,.iaddr 5 (.t 35) (.t 36),10,[9,8,7,6,5,4,3,2,1,0]⟩,⟨none,none,.store 5 (.t 45) (.t 44),11,[10,9,8,7,6,5,4,3,2,1,0]⟩]))) (.reg [⟨some 46,
 none,.bin .add (.t 30) (.c (.v (.int .i64 1))),0,[]⟩,⟨some 30,none,.mov (.t 46),0,[]⟩]))))))) (.seq (.reg [⟨some 47,none,.mov (.t 7),0,[]⟩,⟨some 48,none,.faddr 4 (.t 3),
 0,[]⟩,⟨none,none,.store 1 (.t 48) (.t 47),0,[]⟩]) (.seq (.reg [⟨some 49,none,.load true 5 (.t 3),0,[]⟩,⟨none,none,.store 5 (.t 6) (.t 49),0,[]⟩]) .ret))))))⟩
theorem pf44_is : pfs 44 = some pf44 := by kernel_rfl
-- euclid/lambda.Subst$1
def pf45 : PF := ⟨32,[.c 5 true 5],.seq (.reg [⟨some 5,none,.alloc [.v (.int .i64 0),.v (.int .i64 0),.v (.string (ByteArray.mk #[])),.sl [] .nil,.sl [] .nil],0,[]⟩])
  (.seq (.block 0 (.seq (.reg [⟨some 7,none,.mov (.t 0),0,[]⟩,⟨some 8,none,.mov (.t 1),0,[]⟩,⟨some 9,none,.bin .lss (.t 7) (.t 8),0,[]⟩,⟨some 6,none,.mov (.t 9),0,[]⟩])
  (.cond (.t 6) (.seq (.reg [⟨some 10,none,.mov (.t 0),0,[]⟩,⟨some 11,none,.call (.c (.fn 46 [])) [.t 10],0,[]⟩,⟨none,none,.store 5 (.t 5) (.t 11),0,[]⟩]) .ret)
  (.seq (.reg [⟨some 13,none,.mov (.t 0),0,[]⟩,⟨some 14,none,.mov (.t 1),0,[]⟩,⟨some 15,none,.bin .sub (.t 13) (.t 14),0,[]⟩,⟨some 16,none,.load false 1 (.t 2),0,[]⟩,
 ⟨some 17,none,.lenS (.t 16),0,[]⟩,⟨some 18,none,.bin .lss (.t 15) (.t 17),0,[]⟩,⟨some 12,none,.mov (.t 18),0,[]⟩]) (.cond (.t 12) (.seq (.reg [⟨some 19,none,
 .load false 1 (.t 2),0,[]⟩,⟨some 20,none,.mov (.t 0),0,[]⟩,⟨some 21,none,.mov (.t 1),0,[]⟩,⟨some 22,none,.bin .sub (.t 20) (.t 21),0,[]⟩,⟨some 23,none,.iaddr 5 (.t 19)
  (.t 22),0,[]⟩,⟨some 24,none,.load true 5 (.t 23),0,[]⟩,⟨some 25,none,.mov (.t 1),0,[]⟩,⟨some 26,none,.call (.c (.fn 47 [])) [.t 24,.t 25],0,[]⟩,⟨none,none,
 .store 5 (.t 5) (.t 26),0,[]⟩]) .ret) .skip))))) (.seq (.reg [⟨some 27,none,.mov (.t 0),0,[]⟩,⟨some 28,none,.load false 1 (.t 2),0,[]⟩,⟨some 29,none,.lenS (.t 28),0,[]⟩,
 ⟨some 30,none,.bin .sub (.t 27) (.t 29),0,[]⟩,⟨some 31,none,.call (.c (.fn 46 [])) [.t 30],0,[]⟩,⟨none,none,.store 5 (.t 5) (.t 31),0,[]⟩]) .ret))⟩
theorem pf45_is : pfs 45 = some pf45 := by kernel_rfl
-- euclid/lambda.variable
def pf46 : PF := ⟨5,[.c 2 true 5],.seq (.reg [⟨some 2,none,.alloc [.v (.int .i64 0),.v (.int .i64 0),.v (.string (ByteArray.mk #[])),.sl [] .nil,.sl [] .nil],0,[]⟩])
  (.seq (.reg [⟨some 3,none,.mov (.t 0),0,[]⟩,⟨some 4,none,.build [.v (.int .i64 0),.v (.int .i64 0),.v (.string (ByteArray.mk #[])),.sl [] .nil,.sl [] .nil] [(0,1,
 .c (.v (.int .i64 0))),(1,1,.t 3)],0,[]⟩,⟨none,none,.store 5 (.t 2) (.t 4),0,[]⟩]) .ret)⟩
theorem pf46_is : pfs 46 = some pf46 := by kernel_rfl
-- euclid/lambda.lift
def pf47 : PF := ⟨11,[.c 4 true 5],.seq (.reg [⟨some 2,none,.box (.t 0),0,[]⟩,⟨some 3,none,.box (.t 1),0,[]⟩,⟨some 4,none,.alloc [.v (.int .i64 0),.v (.int .i64 0),
 .v (.string (ByteArray.mk #[])),.sl [] .nil,.sl [] .nil],0,[]⟩]) (.seq (.seq (.reg [⟨some 5,none,.load false 1 (.t 3),0,[]⟩,⟨some 6,none,.bin .eql (.t 5)
  (.c (.v (.int .i64 0))),0,[]⟩]) (.cond (.t 6) (.seq (.reg [⟨some 7,none,.load true 5 (.t 2),0,[]⟩,⟨none,none,.store 5 (.t 4) (.t 7),0,[]⟩]) .ret) .skip))
  (.seq (.reg [⟨some 8,none,.load true 5 (.t 2),0,[]⟩,⟨some 9,none,.mkfn 73 [.t 3],0,[]⟩,⟨some 10,none,.call (.c (.fn 44 [])) [.t 8,.c (.v (.int .i64 0)),.t 9],0,[]⟩,
 ⟨none,none,.store 5 (.t 4) (.t 10),0,[]⟩]) .ret))⟩
theorem pf47_is : pfs 47 = some pf47 := by kernel_rfl
-- euclid/euclidref55.subst
def pf48 : PF := ⟨65,[.c 6 true 5],.seq (.reg [⟨some 3,none,.box (.t 0),0,[]⟩,⟨some 6,none,.alloc [.v (.int .i64 0),.v (.int .i64 0),.v (.string (ByteArray.mk #[])),.sl [] .nil,.sl []
  .nil],0,[]⟩]) (.seq (.seq (.reg [⟨some 9,none,.faddr 0 (.t 3),0,[]⟩,⟨some 10,none,.load false 1 (.t 9),0,[]⟩,⟨some 11,none,.bin .eql (.t 10) (.c (.v (.int .i64 0))),0,
 []⟩]) (.cond (.t 11) (.seq (.seq (.reg [⟨some 12,none,.faddr 1 (.t 3),0,[]⟩,⟨some 13,none,.load false 1 (.t 12),0,[]⟩,⟨some 14,none,.mov (.t 2),0,[]⟩,⟨some 15,none,
 .bin .lss (.t 13) (.t 14),0,[]⟩]) (.cond (.t 15) (.seq (.reg [⟨some 16,none,.load true 5 (.t 3),0,[]⟩,⟨none,none,.store 5 (.t 6) (.t 16),0,[]⟩]) .ret) .skip))
  (.seq (.seq (.reg [⟨some 17,none,.faddr 1 (.t 3),0,[]⟩,⟨some 18,none,.load false 1 (.t 17),0,[]⟩,⟨some 19,none,.mov (.t 2),0,[]⟩,⟨some 20,none,.bin .sub (.t 18) (.t 19)
 ,0,[]⟩,⟨some 21,none,.mov (.t 1),0,[]⟩,⟨some 22,none,.lenS (.t 21),0,[]⟩,⟨some 23,none,.bin .lss (.t 20) (.t 22),0,[]⟩]) (.cond (.t 23) (.seq (.reg [⟨some 24,none,
 .mov (.t 1),0,[]⟩,⟨some 25,none,.faddr 1 (.t 3),0,[]⟩,⟨some 26,none,.load false 1 (.t 25),0,[]⟩,⟨some 27,none,.mov (.t 2),0,[]⟩,⟨some 28,none,.bin .sub (.t 26) (.t 27),
 0,[]⟩,⟨some 29,none,.iaddr 5 (.t 24) (.t 28),0,[]⟩,⟨some 30,none,.load true 5 (.t 29),0,[]⟩,⟨some 31,none,.mov (.t 2),0,[]⟩,⟨some 32,none,.call (.c (.fn 74 [])) [.t 30,
 .t 31,.c (.v (.int .i64 0))],0,[]⟩,⟨none,none,.store 5 (.t 6) (.t 32),0,[]⟩]) .ret) .skip)) (.seq (.reg [⟨some 33,none,.faddr 1 (.t 3),0,[]⟩,⟨some 34,none,
 .load false 1 (.t 33),0,[]⟩,⟨some 35,none,.mov (.t 1),0,[]⟩,⟨some 36,none,.lenS (.t 35),0,[]⟩,⟨some 37,none,.bin .sub (.t 34) (.t 36),0,[]⟩,⟨some 38,none,.faddr 1 (.t 3)
 ,0,[]⟩,⟨none,none,.store 1 (.t 38) (.t 37),0,[]⟩]) (.seq (.reg [⟨some 39,none,.load true 5 (.t 3),0,[]⟩,⟨none,none,.store 5 (.t 6) (.t 39),0,[]⟩]) .ret)))) .skip))
  (.seq (.reg [⟨some 7,none,.mov (.c (.sl [] .nil)),0,[]⟩]) (.seq (.seq (.reg [⟨some 8,none,.mov (.c (.v (.int .i64 0))),0,[]⟩])
  (.block 0 (.loop (.seq (.seq (.reg [⟨some 40,none,.mov (.t 8),0,[]⟩,⟨some 41,none,.faddr 4 (.t 3),0,[]⟩,⟨some 42,none,.load false 1 (.t 41),0,[]⟩,⟨some 43,none,
 .lenS (.t 42),0,[]⟩,⟨some 44,none,.bin .lss (.t 40) (.t 43),0,[]⟩]) (.cond (.t 44) .skip (.exit 0))) (.seq (.block 1 (.dreg [14,0] [⟨some 47,none,.mov (.t 7),0,[]⟩,
 ⟨some 48,none,.faddr 4 (.t 3),1,[]⟩,⟨some 49,none,.load false 1 (.t 48),2,[1]⟩,⟨some 50,none,.mov (.t 8),3,[]⟩,⟨some 51,none,.iaddr 5 (.t 49) (.t 50),4,[3,2,1]⟩,
 ⟨some 52,none,.load true 5 (.t 51),5,[4,3,2,1]⟩,⟨some 53,none,.mov (.t 1),6,[]⟩,⟨some 54,none,.mov (.t 2),7,[]⟩,⟨some 55,none,.load true 5 (.t 3),8,[]⟩,⟨some 56,none,
 .mov (.t 8),9,[]⟩,⟨some 57,none,.call (.c (.fn 75 [])) [.t 55,.t 56],10,[9,8]⟩,⟨some 58,none,.bin .add (.t 54) (.t 57),11,[10,9,8,7]⟩,⟨some 59,none,.call (.c (.fn 48 [])
 ) [.t 52,.t 53,.t 58],12,[11,10,9,8,7,6,5,4,3,2,1]⟩,⟨some 60,none,.bsl (.agg [.v (.int .i64 0),.v (.int .i64 0),.v (.string (ByteArray.mk #[])),.sl [] .nil,.sl [] .nil])
  1 [(0,5,.t 59)],13,[12,11,10,9,8,7,6,5,4,3,2,1]⟩,⟨some 61,none,.app 5 none (.t 47) (.t 60),14,[13,12,11,10,9,8,7,6,5,4,3,2,1,0]⟩,⟨some 7,none,.mov (.t 61),15,[14,13,12,
 11,10,9,8,7,6,5,4,3,2,1,0]⟩])) (.reg [⟨some 45,none,.mov (.t 8),0,[]⟩,⟨some 46,none,.bin .add (.t 45) (.c (.v (.int .i64 1))),0,[]⟩,⟨some 8,none,.mov (.t 46),0,[]⟩])))))
 ) (.seq (.reg [⟨some 62,none,.load true 5 (.t 3),0,[]⟩,⟨some 63,none,.mov (.t 7),0,[]⟩,⟨some 64,none,.call (.c (.fn 76 [])) [.t 62,.t 63],0,[]⟩,⟨none,none,
 .store 5 (.t 6) (.t 64),0,[]⟩]) .ret))))⟩
theorem pf48_is : pfs 48 = some pf48 := by kernel_rfl
-- euclid/lambda.isValue
def pf49 : PF := ⟨15,[.t 2],.seq (.reg [⟨some 1,none,.box (.t 0),0,[]⟩,⟨some 2,none,.mov (.c (.v (.bool false))),0,[]⟩]) (.seq (.seq (.reg [⟨some 3,none,.faddr 0 (.t 1),0,[]⟩,⟨some 4,
 none,.load false 1 (.t 3),0,[]⟩]) (.block 0 (.seq (.seq (.reg [⟨some 6,none,.bin .eql (.t 4) (.c (.v (.int .i64 1))),0,[]⟩,⟨some 5,none,.mov (.t 6),0,[]⟩]) (.cond (.t 5)
  .skip (.reg [⟨some 7,none,.bin .eql (.t 4) (.c (.v (.int .i64 6))),0,[]⟩,⟨some 5,none,.mov (.t 7),0,[]⟩]))) (.cond (.t 5) (.seq (.reg [⟨some 2,none,
 .mov (.c (.v (.bool true))),0,[]⟩]) .ret) (.seq (.seq (.reg [⟨some 9,none,.bin .eql (.t 4) (.c (.v (.int .i64 3))),0,[]⟩,⟨some 8,none,.mov (.t 9),0,[]⟩]) (.cond (.t 8)
  .skip (.reg [⟨some 10,none,.bin .eql (.t 4) (.c (.v (.int .i64 8))),0,[]⟩,⟨some 8,none,.mov (.t 10),0,[]⟩]))) (.cond (.t 8) (.seq (.reg [⟨some 11,none,.faddr 4 (.t 1),
 0,[]⟩,⟨some 12,none,.load false 1 (.t 11),0,[]⟩,⟨some 13,none,.call (.c (.fn 77 [])) [.t 12,.c (.fn 78 [])],0,[]⟩,⟨some 14,none,.un .not (.t 13),0,[]⟩,⟨some 2,none,
 .mov (.t 14),0,[]⟩]) .ret) .skip)))))) (.seq (.reg [⟨some 2,none,.mov (.c (.v (.bool false))),0,[]⟩]) .ret))⟩
theorem pf49_is : pfs 49 = some pf49 := by kernel_rfl
-- euclid/lambda.Step$1
def pf50 : PF := ⟨6,[],.reg [⟨some 3,none,.load true 6 (.t 0),0,[]⟩,⟨some 4,none,.load true 5 (.t 1),0,[]⟩,⟨some 5,none,.call (.c (.fn 51 [])) [.t 3,.t 4],0,[]⟩,⟨none,none,
 .store 5 (.t 2) (.t 5),0,[]⟩]⟩
theorem pf50_is : pfs 50 = some pf50 := by kernel_rfl
-- euclid/lambda.step
def pf51 : PF := ⟨65,[.c 4 true 5],.seq (.reg [⟨some 2,none,.box (.t 0),0,[]⟩,⟨some 3,none,.box (.t 1),0,[]⟩,⟨some 4,none,.alloc [.v (.int .i64 0),.v (.int .i64 0),
 .v (.string (ByteArray.mk #[])),.sl [] .nil,.sl [] .nil],0,[]⟩]) (.seq (.seq (.reg [⟨some 9,none,.faddr 0 (.t 3),0,[]⟩,⟨some 10,none,.load false 1 (.t 9),0,[]⟩])
  (.block 0 (.seq (.reg [⟨some 12,none,.bin .eql (.t 10) (.c (.v (.int .i64 0))),0,[]⟩,⟨some 11,none,.mov (.t 12),0,[]⟩]) (.cond (.t 11) (.reg [⟨some 13,none,
 .build [.v (.int .i64 0)] [(0,1,.c (.v (.int .i64 24)))],0,[]⟩,⟨some 14,none,.mkif 90 (.t 13),0,[]⟩,⟨none,none,.panic (.t 14),0,[]⟩]) (.seq (.reg [⟨some 16,none,
 .bin .eql (.t 10) (.c (.v (.int .i64 11))),0,[]⟩,⟨some 15,none,.mov (.t 16),0,[]⟩]) (.cond (.t 15) (.reg [⟨some 17,none,.build [.v (.int .i64 0)] [(0,1,
 .c (.v (.int .i64 30)))],0,[]⟩,⟨some 18,none,.mkif 90 (.t 17),0,[]⟩,⟨none,none,.panic (.t 18),0,[]⟩]) (.seq (.reg [⟨some 20,none,.bin .eql (.t 10) (.c (.v (.int .i64 5))
 ),0,[]⟩,⟨some 19,none,.mov (.t 20),0,[]⟩]) (.cond (.t 19) (.seq (.reg [⟨some 21,none,.load true 6 (.t 2),0,[]⟩,⟨some 22,none,.faddr 2 (.t 3),0,[]⟩,⟨some 23,none,
 .load false 1 (.t 22),0,[]⟩,⟨some 24,none,.call (.c (.fn 79 [])) [.t 21,.t 23],0,[]⟩,⟨none,none,.store 5 (.t 4) (.t 24),0,[]⟩]) .ret) .skip))))))))
  (.seq (.reg [⟨some 25,none,.faddr 4 (.t 3),0,[]⟩,⟨some 26,none,.load false 1 (.t 25),0,[]⟩,⟨some 27,none,.lenS (.t 26),0,[]⟩,⟨some 5,none,.mov (.t 27),0,[]⟩])
  (.seq (.seq (.reg [⟨some 28,none,.faddr 0 (.t 3),0,[]⟩,⟨some 29,none,.load false 1 (.t 28),0,[]⟩,⟨some 30,none,.bin .eql (.t 29) (.c (.v (.int .i64 4))),0,[]⟩,⟨some 31,
 none,.mov (.t 30),0,[]⟩,⟨some 32,some (31,false),.faddr 0 (.t 3),0,[]⟩,⟨some 33,some (31,false),.load false 1 (.t 32),0,[]⟩,⟨some 34,some (31,false),.bin .eql (.t 33)
  (.c (.v (.int .i64 7))),0,[]⟩,⟨some 35,none,.pick (.t 31) (.c (.v (.bool true))) (.t 34),0,[]⟩]) (.cond (.t 35) (.reg [⟨some 5,none,.mov (.c (.v (.int .i64 1))),0,[]⟩])
  .skip)) (.seq (.seq (.reg [⟨some 36,none,.faddr 4 (.t 3),0,[]⟩,⟨some 37,none,.load false 1 (.t 36),0,[]⟩,⟨some 38,none,.mov (.t 5),0,[]⟩,⟨some 39,none,.slice 5 (.t 37)
  none (some (.t 38)) none,0,[]⟩,⟨some 40,none,.lenS (.t 39),0,[]⟩,⟨some 41,none,.mov (.c (.v (.int .i64 0))),0,[]⟩]) (.block 1 (.loop (.seq (.reg [⟨some 42,none,
 .bin .lss (.t 41) (.t 40),0,[]⟩]) (.seq (.cond (.t 42) .skip (.exit 1)) (.seq (.block 2 (.seq (.reg [⟨some 43,none,.mov (.t 41),0,[]⟩,⟨some 44,none,.iaddr 5 (.t 39)
  (.t 41),0,[]⟩,⟨some 45,none,.load true 5 (.t 44),0,[]⟩,⟨some 7,none,.alloc [.v (.int .i64 0),.v (.int .i64 0),.v (.string (ByteArray.mk #[])),.sl [] .nil,.sl [] .nil],
 0,[]⟩,⟨some 6,none,.mov (.t 43),0,[]⟩,⟨none,none,.store 5 (.t 7) (.t 45),0,[]⟩]) (.seq (.reg [⟨some 46,none,.load true 5 (.t 7),0,[]⟩,⟨some 47,none,.call (.c (.fn 49 [])
 ) [.t 46],0,[]⟩,⟨some 48,none,.un .not (.t 47),0,[]⟩]) (.cond (.t 48) (.seq (.reg [⟨some 49,none,.load true 5 (.t 3),0,[]⟩,⟨some 8,none,.alloc [.v (.int .i64 0),
 .v (.int .i64 0),.v (.string (ByteArray.mk #[])),.sl [] .nil,.sl [] .nil],0,[]⟩,⟨none,none,.store 5 (.t 8) (.t 49),0,[]⟩]) (.seq (.reg [⟨some 50,none,.faddr 4 (.t 3),0,
 []⟩,⟨some 51,none,.load false 1 (.t 50),0,[]⟩,⟨some 52,none,.clone 5 true (.t 51),0,[]⟩,⟨some 53,none,.faddr 4 (.t 8),0,[]⟩,⟨none,none,.store 1 (.t 53) (.t 52),0,[]⟩])
  (.seq (.dreg [6,0] [⟨some 54,none,.faddr 4 (.t 8),0,[]⟩,⟨some 55,none,.load false 1 (.t 54),1,[0]⟩,⟨some 56,none,.mov (.t 6),2,[]⟩,⟨some 57,none,.load true 6 (.t 2),3,
 []⟩,⟨some 58,none,.load true 5 (.t 7),4,[]⟩,⟨some 59,none,.call (.c (.fn 51 [])) [.t 57,.t 58],5,[4,3]⟩,⟨some 60,none,.iaddr 5 (.t 55) (.t 56),6,[5,4,3,2,1,0]⟩,⟨none,
 none,.store 5 (.t 60) (.t 59),7,[6,5,4,3,2,1,0]⟩]) (.seq (.reg [⟨some 61,none,.load true 5 (.t 8),0,[]⟩,⟨none,none,.store 5 (.t 4) (.t 61),0,[]⟩]) .ret)))) .skip))))
  (.reg [⟨some 62,none,.bin .add (.t 41) (.c (.v (.int .i64 1))),0,[]⟩,⟨some 41,none,.mov (.t 62),0,[]⟩]))))))) (.seq (.reg [⟨some 63,none,.load true 5 (.t 3),0,[]⟩,
 ⟨some 64,none,.call (.c (.fn 81 [])) [.t 63],0,[]⟩,⟨none,none,.store 5 (.t 4) (.t 64),0,[]⟩]) .ret)))))⟩
theorem pf51_is : pfs 51 = some pf51 := by kernel_rfl
-- euclid/euclidref55.Value
def pf52 : PF := ⟨26,[.t 2],.seq (.reg [⟨some 1,none,.box (.t 0),0,[]⟩,⟨some 2,none,.mov (.c (.v (.bool false))),0,[]⟩]) (.seq (.seq (.reg [⟨some 4,none,.faddr 0 (.t 1),0,[]⟩,⟨some 5,
 none,.load false 1 (.t 4),0,[]⟩]) (.block 0 (.seq (.seq (.reg [⟨some 7,none,.bin .eql (.t 5) (.c (.v (.int .i64 1))),0,[]⟩,⟨some 6,none,.mov (.t 7),0,[]⟩]) (.cond (.t 6)
  .skip (.reg [⟨some 8,none,.bin .eql (.t 5) (.c (.v (.int .i64 6))),0,[]⟩,⟨some 6,none,.mov (.t 8),0,[]⟩]))) (.cond (.t 6) (.seq (.reg [⟨some 2,none,
 .mov (.c (.v (.bool true))),0,[]⟩]) .ret) (.seq (.seq (.reg [⟨some 10,none,.bin .eql (.t 5) (.c (.v (.int .i64 3))),0,[]⟩,⟨some 9,none,.mov (.t 10),0,[]⟩]) (.cond (.t 9)
  .skip (.reg [⟨some 11,none,.bin .eql (.t 5) (.c (.v (.int .i64 8))),0,[]⟩,⟨some 9,none,.mov (.t 11),0,[]⟩]))) (.cond (.t 9) (.seq (.seq (.reg [⟨some 3,none,
 .mov (.c (.v (.int .i64 0))),0,[]⟩]) (.block 1 (.loop (.seq (.seq (.reg [⟨some 12,none,.mov (.t 3),0,[]⟩,⟨some 13,none,.faddr 4 (.t 1),0,[]⟩,⟨some 14,none,
 .load false 1 (.t 13),0,[]⟩,⟨some 15,none,.lenS (.t 14),0,[]⟩,⟨some 16,none,.bin .lss (.t 12) (.t 15),0,[]⟩]) (.cond (.t 16) .skip (.exit 1)))
  (.seq (.block 2 (.seq (.reg [⟨some 19,none,.faddr 4 (.t 1),0,[]⟩,⟨some 20,none,.load false 1 (.t 19),0,[]⟩,⟨some 21,none,.mov (.t 3),0,[]⟩,⟨some 22,none,
 .iaddr 5 (.t 20) (.t 21),0,[]⟩,⟨some 23,none,.load true 5 (.t 22),0,[]⟩,⟨some 24,none,.call (.c (.fn 52 [])) [.t 23],0,[]⟩,⟨some 25,none,.un .not (.t 24),0,[]⟩])
  (.cond (.t 25) (.seq (.reg [⟨some 2,none,.mov (.c (.v (.bool false))),0,[]⟩]) .ret) .skip))) (.reg [⟨some 17,none,.mov (.t 3),0,[]⟩,⟨some 18,none,.bin .add (.t 17)
  (.c (.v (.int .i64 1))),0,[]⟩,⟨some 3,none,.mov (.t 18),0,[]⟩])))))) (.seq (.reg [⟨some 2,none,.mov (.c (.v (.bool true))),0,[]⟩]) .ret)) .skip))))))
  (.seq (.reg [⟨some 2,none,.mov (.c (.v (.bool false))),0,[]⟩]) .ret))⟩
theorem pf52_is : pfs 52 = some pf52 := by kernel_rfl
-- euclid/euclidref55.global
def pf53 : PF := ⟨29,[.c 4 true 5,.t 5],.seq (.reg [⟨some 2,none,.box (.t 0),0,[]⟩,⟨some 4,none,.alloc [.v (.int .i64 0),.v (.int .i64 0),.v (.string (ByteArray.mk #[])),.sl [] .nil,
 .sl [] .nil],0,[]⟩,⟨some 5,none,.mov (.c (.v (.bool false))),0,[]⟩]) (.seq (.seq (.reg [⟨some 6,none,.mov (.c (.v (.int .i64 0))),0,[]⟩])
  (.block 0 (.loop (.seq (.seq (.reg [⟨some 7,none,.mov (.t 6),0,[]⟩,⟨some 8,none,.faddr 0 (.t 2),0,[]⟩,⟨some 9,none,.load false 1 (.t 8),0,[]⟩,⟨some 10,none,.lenS (.t 9)
 ,0,[]⟩,⟨some 11,none,.bin .lss (.t 7) (.t 10),0,[]⟩]) (.cond (.t 11) .skip (.exit 0))) (.seq (.block 1 (.seq (.reg [⟨some 14,none,.faddr 0 (.t 2),0,[]⟩,⟨some 15,none,
 .load false 1 (.t 14),0,[]⟩,⟨some 16,none,.mov (.t 6),0,[]⟩,⟨some 17,none,.iaddr 6 (.t 15) (.t 16),0,[]⟩,⟨some 18,none,.faddr 0 (.t 17),0,[]⟩,⟨some 19,none,
 .load false 1 (.t 18),0,[]⟩,⟨some 20,none,.mov (.t 1),0,[]⟩,⟨some 21,none,.bin .eql (.t 19) (.t 20),0,[]⟩]) (.cond (.t 21) (.seq (.reg [⟨some 22,none,.faddr 0 (.t 2),0,
 []⟩,⟨some 23,none,.load false 1 (.t 22),0,[]⟩,⟨some 24,none,.mov (.t 6),0,[]⟩,⟨some 25,none,.iaddr 6 (.t 23) (.t 24),0,[]⟩,⟨some 26,none,.faddr 1 (.t 25),0,[]⟩,⟨some 27,
 none,.load true 5 (.t 26),0,[]⟩,⟨none,none,.store 5 (.t 4) (.t 27),0,[]⟩,⟨some 5,none,.mov (.c (.v (.bool true))),0,[]⟩]) .ret) .skip))) (.reg [⟨some 12,none,.mov (.t 6)
 ,0,[]⟩,⟨some 13,none,.bin .add (.t 12) (.c (.v (.int .i64 1))),0,[]⟩,⟨some 6,none,.mov (.t 13),0,[]⟩])))))) (.seq (.reg [⟨some 28,none,.build [.v (.int .i64 0),
 .v (.int .i64 0),.v (.string (ByteArray.mk #[])),.sl [] .nil,.sl [] .nil] [],0,[]⟩,⟨none,none,.store 5 (.t 4) (.t 28),0,[]⟩,⟨some 5,none,.mov (.c (.v (.bool false))),0,
 []⟩]) .ret))⟩
theorem pf53_is : pfs 53 = some pf53 := by kernel_rfl
-- euclid/euclidref55.inside
def pf54 : PF := ⟨39,[.c 6 true 5,.t 7,.t 8],.seq (.reg [⟨some 3,none,.box (.t 0),0,[]⟩,⟨some 4,none,.box (.t 1),0,[]⟩,⟨some 6,none,.alloc [.v (.int .i64 0),.v (.int .i64 0),
 .v (.string (ByteArray.mk #[])),.sl [] .nil,.sl [] .nil],0,[]⟩,⟨some 7,none,.mov (.c (.v (.bool false))),0,[]⟩,⟨some 8,none,.mov (.c (.v (.int .i64 0))),0,[]⟩])
  (.seq (.dreg [14] [⟨some 9,none,.alloc [.v (.int .i64 0),.v (.int .i64 0),.v (.string (ByteArray.mk #[])),.sl [] .nil,.sl [] .nil],11,[]⟩,⟨some 14,none,
 .load true 6 (.t 3),0,[]⟩,⟨some 15,none,.faddr 4 (.t 4),1,[]⟩,⟨some 16,none,.load false 1 (.t 15),2,[1]⟩,⟨some 17,none,.mov (.t 2),3,[]⟩,⟨some 18,none,.iaddr 5 (.t 16)
  (.t 17),4,[3,2,1]⟩,⟨some 19,none,.load true 5 (.t 18),5,[4,3,2,1]⟩,⟨some 20,none,.call (.c (.fn 21 [])) [.t 14,.t 19],6,[5,4,3,2,1,0]⟩,⟨some 13,none,.mov (.t 20),7,[6,
 5,4,3,2,1,0]⟩,⟨some 21,none,.ext (.t 13) 0,8,[7,6,5,4,3,2,1,0]⟩,⟨some 22,none,.ext (.t 13) 1,9,[7,6,5,4,3,2,1,0]⟩,⟨some 23,none,.ext (.t 13) 2,10,[7,6,5,4,3,2,1,0]⟩,
 ⟨none,none,.store 5 (.t 9) (.t 21),12,[8,7,6,5,4,3,2,1,0,11]⟩,⟨some 10,none,.mov (.t 22),13,[12,8,11,9,7,6,5,4,3,2,1,0]⟩,⟨some 11,none,.mov (.t 23),14,[13,12,8,11,9,10,
 7,6,5,4,3,2,1,0]⟩]) (.seq (.seq (.reg [⟨some 24,none,.mov (.t 11),0,[]⟩,⟨some 25,none,.bin .neq (.t 24) (.c (.v (.int .i64 0))),0,[]⟩]) (.cond (.t 25)
  (.seq (.reg [⟨some 26,none,.build [.v (.int .i64 0),.v (.int .i64 0),.v (.string (ByteArray.mk #[])),.sl [] .nil,.sl [] .nil] [],0,[]⟩,⟨some 27,none,.mov (.t 11),0,[]⟩,
 ⟨none,none,.store 5 (.t 6) (.t 26),0,[]⟩,⟨some 7,none,.mov (.c (.v (.bool false))),0,[]⟩,⟨some 8,none,.mov (.t 27),0,[]⟩]) .ret) .skip)) (.seq (.reg [⟨some 12,none,
 .mov (.c (.sl [] .nil)),0,[]⟩]) (.seq (.reg [⟨some 28,none,.mov (.t 12),0,[]⟩,⟨some 29,none,.faddr 4 (.t 4),0,[]⟩,⟨some 30,none,.load false 1 (.t 29),0,[]⟩,⟨some 31,
 none,.app 5 (some true) (.t 28) (.t 30),0,[]⟩,⟨some 12,none,.mov (.t 31),0,[]⟩]) (.seq (.reg [⟨some 32,none,.mov (.t 12),0,[]⟩,⟨some 33,none,.mov (.t 2),0,[]⟩,⟨some 34,
 none,.load true 5 (.t 9),0,[]⟩,⟨some 35,none,.iaddr 5 (.t 32) (.t 33),0,[]⟩,⟨none,none,.store 5 (.t 35) (.t 34),0,[]⟩]) (.seq (.reg [⟨some 36,none,.load true 5 (.t 4),0,
 []⟩,⟨some 37,none,.mov (.t 12),0,[]⟩,⟨some 38,none,.call (.c (.fn 76 [])) [.t 36,.t 37],0,[]⟩,⟨none,none,.store 5 (.t 6) (.t 38),0,[]⟩,⟨some 7,none,
 .mov (.c (.v (.bool true))),0,[]⟩,⟨some 8,none,.mov (.c (.v (.int .i64 0))),0,[]⟩]) .ret))))))⟩
theorem pf54_is : pfs 54 = some pf54 := by kernel_rfl
-- euclid/euclidref55.branch
def pf55 : PF := ⟨66,[.c 2 true 5,.t 3,.t 4],.seq (.reg [⟨some 1,none,.box (.t 0),0,[]⟩,⟨some 2,none,.alloc [.v (.int .i64 0),.v (.int .i64 0),.v (.string (ByteArray.mk #[])),.sl []
  .nil,.sl [] .nil],0,[]⟩,⟨some 3,none,.mov (.c (.v (.bool false))),0,[]⟩,⟨some 4,none,.mov (.c (.v (.int .i64 0))),0,[]⟩]) (.seq (.reg [⟨some 8,none,.faddr 4 (.t 1),0,[]
 ⟩,⟨some 9,none,.load false 1 (.t 8),0,[]⟩,⟨some 10,none,.iaddr 5 (.t 9) (.c (.v (.int .i64 0))),0,[]⟩,⟨some 11,none,.load true 5 (.t 10),0,[]⟩,⟨some 5,none,
 .alloc [.v (.int .i64 0),.v (.int .i64 0),.v (.string (ByteArray.mk #[])),.sl [] .nil,.sl [] .nil],0,[]⟩,⟨none,none,.store 5 (.t 5) (.t 11),0,[]⟩])
  (.seq (.seq (.dreg [0,0,0,0,0,0,0,0,0,5,0,0,9,0] [⟨some 12,none,.faddr 0 (.t 5),0,[]⟩,⟨some 13,none,.load false 1 (.t 12),1,[0]⟩,⟨some 14,none,.bin .neq (.t 13)
  (.c (.v (.int .i64 3))),2,[1,0]⟩,⟨some 15,none,.mov (.t 14),3,[2,1,0]⟩,⟨some 16,some (15,false),.faddr 1 (.t 5),4,[3,2,1,0]⟩,⟨some 17,some (15,false),
 .load false 1 (.t 16),5,[4,3,2,1,0]⟩,⟨some 18,some (15,false),.bin .lss (.t 17) (.c (.v (.int .i64 0))),6,[5,4,3,2,1,0]⟩,⟨some 19,none,.pick (.t 15) (.c (.v (.bool true)
 )) (.t 18),7,[6,5,4,3,2,1,0]⟩,⟨some 20,none,.mov (.t 19),8,[7,6,5,4,3,2,1,0]⟩,⟨some 21,some (20,false),.faddr 1 (.t 5),9,[8,7,6,5,4,3,2,1,0]⟩,⟨some 22,some (20,false),
 .load false 1 (.t 21),10,[9,8,7,6,5,4,3,2,1,0]⟩,⟨some 23,some (20,false),.faddr 3 (.t 1),11,[8,7,6,5,4,3,2,1,0]⟩,⟨some 24,some (20,false),.load false 1 (.t 23),12,[11,8,
 7,6,5,4,3,2,1,0]⟩,⟨some 25,some (20,false),.lenS (.t 24),13,[12,11,8,7,6,5,4,3,2,1,0]⟩,⟨some 26,some (20,false),.bin .geq (.t 22) (.t 25),14,[13,12,11,10,9,8,7,6,5,4,3,
 2,1,0]⟩,⟨some 27,none,.pick (.t 20) (.c (.v (.bool true))) (.t 26),15,[14,13,12,11,10,9,8,7,6,5,4,3,2,1,0]⟩,⟨some 28,none,.mov (.t 27),16,[15,14,13,12,11,10,9,8,7,6,5,4,
 3,2,1,0]⟩,⟨some 29,some (28,false),.faddr 4 (.t 5),17,[16,15,14,13,12,11,10,9,8,7,6,5,4,3,2,1,0]⟩,⟨some 30,some (28,false),.load false 1 (.t 29),18,[17,16,15,14,13,12,
 11,10,9,8,7,6,5,4,3,2,1,0]⟩,⟨some 31,some (28,false),.lenS (.t 30),19,[18,17,16,15,14,13,12,11,10,9,8,7,6,5,4,3,2,1,0]⟩,⟨some 32,some (28,false),.faddr 3 (.t 1),20,[16,
 15,14,13,12,11,10,9,8,7,6,5,4,3,2,1,0]⟩,⟨some 33,some (28,false),.load false 1 (.t 32),21,[20,16,15,14,13,12,11,10,9,8,7,6,5,4,3,2,1,0]⟩,⟨some 34,some (28,false),
 .faddr 1 (.t 5),22,[16,15,14,13,12,11,10,9,8,7,6,5,4,3,2,1,0]⟩,⟨some 35,some (28,false),.load false 1 (.t 34),23,[22,16,15,14,13,12,11,10,9,8,7,6,5,4,3,2,1,0]⟩,⟨some 36,
 some (28,false),.iaddr 1 (.t 33) (.t 35),24,[23,22,21,20,16,15,14,13,12,11,10,9,8,7,6,5,4,3,2,1,0]⟩,⟨some 37,some (28,false),.load false 1 (.t 36),25,[24,23,22,21,20,16,
 15,14,13,12,11,10,9,8,7,6,5,4,3,2,1,0]⟩,⟨some 38,some (28,false),.bin .neq (.t 31) (.t 37),26,[25,24,23,22,21,20,19,18,17,16,15,14,13,12,11,10,9,8,7,6,5,4,3,2,1,0]⟩,
 ⟨some 39,none,.pick (.t 28) (.c (.v (.bool true))) (.t 38),27,[26,25,24,23,22,21,20,19,18,17,16,15,14,13,12,11,10,9,8,7,6,5,4,3,2,1,0]⟩]) (.cond (.t 39)
  (.seq (.reg [⟨some 40,none,.build [.v (.int .i64 0),.v (.int .i64 0),.v (.string (ByteArray.mk #[])),.sl [] .nil,.sl [] .nil] [],0,[]⟩,⟨none,none,.store 5 (.t 2)
  (.t 40),0,[]⟩,⟨some 3,none,.mov (.c (.v (.bool false))),0,[]⟩,⟨some 4,none,.mov (.c (.v (.int .i64 10))),0,[]⟩]) .ret) .skip)) (.seq (.reg [⟨some 6,none,
 .mov (.c (.sl [] .nil)),0,[]⟩]) (.seq (.seq (.reg [⟨some 41,none,.faddr 4 (.t 5),0,[]⟩,⟨some 42,none,.load false 1 (.t 41),0,[]⟩,⟨some 43,none,.lenS (.t 42),0,[]⟩,
 ⟨some 44,none,.bin .sub (.t 43) (.c (.v (.int .i64 1))),0,[]⟩,⟨some 7,none,.mov (.t 44),0,[]⟩]) (.block 0 (.loop (.seq (.seq (.reg [⟨some 45,none,.mov (.t 7),0,[]⟩,
 ⟨some 46,none,.bin .geq (.t 45) (.c (.v (.int .i64 0))),0,[]⟩]) (.cond (.t 46) .skip (.exit 0))) (.seq (.block 1 (.reg [⟨some 49,none,.mov (.t 6),0,[]⟩,⟨some 50,none,
 .faddr 4 (.t 5),0,[]⟩,⟨some 51,none,.load false 1 (.t 50),0,[]⟩,⟨some 52,none,.mov (.t 7),0,[]⟩,⟨some 53,none,.iaddr 5 (.t 51) (.t 52),0,[]⟩,⟨some 54,none,
 .load true 5 (.t 53),0,[]⟩,⟨some 55,none,.bsl (.agg [.v (.int .i64 0),.v (.int .i64 0),.v (.string (ByteArray.mk #[])),.sl [] .nil,.sl [] .nil]) 1 [(0,5,.t 54)],0,[]⟩,
 ⟨some 56,none,.app 5 none (.t 49) (.t 55),0,[]⟩,⟨some 6,none,.mov (.t 56),0,[]⟩])) (.reg [⟨some 47,none,.mov (.t 7),0,[]⟩,⟨some 48,none,.bin .sub (.t 47)
  (.c (.v (.int .i64 1))),0,[]⟩,⟨some 7,none,.mov (.t 48),0,[]⟩])))))) (.seq (.reg [⟨some 57,none,.faddr 4 (.t 1),0,[]⟩,⟨some 58,none,.load false 1 (.t 57),0,[]⟩,
 ⟨some 59,none,.faddr 1 (.t 5),0,[]⟩,⟨some 60,none,.load false 1 (.t 59),0,[]⟩,⟨some 61,none,.bin .add (.t 60) (.c (.v (.int .i64 1))),0,[]⟩,⟨some 62,none,
 .iaddr 5 (.t 58) (.t 61),0,[]⟩,⟨some 63,none,.load true 5 (.t 62),0,[]⟩,⟨some 64,none,.mov (.t 6),0,[]⟩,⟨some 65,none,.call (.c (.fn 19 [])) [.t 63,.t 64],0,[]⟩,⟨none,
 none,.store 5 (.t 2) (.t 65),0,[]⟩,⟨some 3,none,.mov (.c (.v (.bool true))),0,[]⟩,⟨some 4,none,.mov (.c (.v (.int .i64 0))),0,[]⟩]) .ret)))))⟩
theorem pf55_is : pfs 55 = some pf55 := by kernel_rfl
-- euclid/lambda.Eval$1
def pf56 : PF := ⟨24,[],.seq (.seq (.reg [⟨some 4,none,.load false 1 (.t 0),0,[]⟩,⟨some 3,none,.mov (.t 4),0,[]⟩]) (.block 0 (.loop (.seq (.seq (.reg [⟨some 5,none,.load true 5 (.t 1),0,
 []⟩,⟨some 6,none,.call (.c (.fn 49 [])) [.t 5],0,[]⟩,⟨some 7,none,.un .not (.t 6),0,[]⟩]) (.cond (.t 7) .skip (.exit 0))) (.seq (.block 1 (.seq (.reg [⟨some 10,none,
 .load true 5 (.t 1),0,[]⟩,⟨some 11,none,.call (.c (.fn 57 [])) [.t 10],0,[]⟩,⟨some 12,none,.bin .leq (.t 11) (.c (.v (.int .i64 4096))),0,[]⟩,⟨some 13,none,
 .call (.c (.fn 37 [])) [.t 12,.c (.v (.int .i64 5))],0,[]⟩]) (.seq (.reg [⟨some 14,none,.mov (.t 3),0,[]⟩,⟨some 15,none,.bin .gtr (.t 14) (.c (.v (.int .i64 0))),0,[]⟩,
 ⟨some 16,none,.call (.c (.fn 37 [])) [.t 15,.c (.v (.int .i64 11))],0,[]⟩]) (.reg [⟨some 17,none,.load true 6 (.t 2),0,[]⟩,⟨some 18,none,.load true 5 (.t 1),0,[]⟩,
 ⟨some 19,none,.call (.c (.fn 51 [])) [.t 17,.t 18],0,[]⟩,⟨none,none,.store 5 (.t 1) (.t 19),0,[]⟩])))) (.reg [⟨some 8,none,.mov (.t 3),0,[]⟩,⟨some 9,none,
 .bin .sub (.t 8) (.c (.v (.int .i64 1))),0,[]⟩,⟨some 3,none,.mov (.t 9),0,[]⟩])))))) (.reg [⟨some 20,none,.load true 5 (.t 1),0,[]⟩,⟨some 21,none,.call (.c (.fn 57 []))
  [.t 20],0,[]⟩,⟨some 22,none,.bin .leq (.t 21) (.c (.v (.int .i64 4096))),0,[]⟩,⟨some 23,none,.call (.c (.fn 37 [])) [.t 22,.c (.v (.int .i64 5))],0,[]⟩])⟩
theorem pf56_is : pfs 56 = some pf56 := by kernel_rfl
-- euclid/lambda.size
def pf57 : PF := ⟨19,[.t 2],.seq (.reg [⟨some 1,none,.box (.t 0),0,[]⟩,⟨some 2,none,.mov (.c (.v (.int .i64 0))),0,[]⟩]) (.seq (.reg [⟨some 3,none,.mov (.c (.v (.int .i64 1))),0,[]⟩])
  (.seq (.seq (.reg [⟨some 6,none,.faddr 4 (.t 1),0,[]⟩,⟨some 7,none,.load false 1 (.t 6),0,[]⟩,⟨some 8,none,.lenS (.t 7),0,[]⟩,⟨some 9,none,.mov (.c (.v (.int .i64 0))),
 0,[]⟩]) (.block 0 (.loop (.seq (.reg [⟨some 10,none,.bin .lss (.t 9) (.t 8),0,[]⟩]) (.seq (.cond (.t 10) .skip (.exit 0)) (.seq (.block 1 (.seq (.reg [⟨some 11,none,
 .iaddr 5 (.t 7) (.t 9),0,[]⟩,⟨some 12,none,.load true 5 (.t 11),0,[]⟩,⟨some 5,none,.alloc [.v (.int .i64 0),.v (.int .i64 0),.v (.string (ByteArray.mk #[])),.sl [] .nil,
 .sl [] .nil],0,[]⟩,⟨none,none,.store 5 (.t 5) (.t 12),0,[]⟩]) (.reg [⟨some 13,none,.mov (.t 3),0,[]⟩,⟨some 14,none,.load true 5 (.t 5),0,[]⟩,⟨some 15,none,
 .call (.c (.fn 57 [])) [.t 14],0,[]⟩,⟨some 16,none,.bin .add (.t 13) (.t 15),0,[]⟩,⟨some 3,none,.mov (.t 16),0,[]⟩]))) (.reg [⟨some 17,none,.bin .add (.t 9)
  (.c (.v (.int .i64 1))),0,[]⟩,⟨some 9,none,.mov (.t 17),0,[]⟩]))))))) (.seq (.reg [⟨some 18,none,.mov (.t 3),0,[]⟩,⟨some 2,none,.mov (.t 18),0,[]⟩]) .ret)))⟩
theorem pf57_is : pfs 57 = some pf57 := by kernel_rfl
-- euclid/euclidlaw55.ctor
def pf58 : PF := ⟨11,[.c 6 true 5],.seq (.reg [⟨some 6,none,.alloc [.v (.int .i64 0),.v (.int .i64 0),.v (.string (ByteArray.mk #[])),.sl [] .nil,.sl [] .nil],0,[]⟩])
  (.seq (.reg [⟨some 7,none,.mov (.t 0),0,[]⟩,⟨some 8,none,.mov (.t 1),0,[]⟩,⟨some 9,none,.mov (.t 2),0,[]⟩,⟨some 10,none,.build [.v (.int .i64 0),.v (.int .i64 0),
 .v (.string (ByteArray.mk #[])),.sl [] .nil,.sl [] .nil] [(0,1,.c (.v (.int .i64 3))),(2,1,.t 7),(1,1,.t 8),(4,1,.t 9)],0,[]⟩,⟨none,none,.store 5 (.t 6) (.t 10),0,[]⟩])
  .ret)⟩
theorem pf58_is : pfs 58 = some pf58 := by kernel_rfl
-- euclid/lambda.Data$1
def pf59 : PF := ⟨54,[.c 4 true 2,.t 5],.seq (.reg [⟨some 3,none,.box (.t 0),0,[]⟩,⟨some 4,none,.alloc [.v (.string (ByteArray.mk #[])),.sl [] .nil],0,[]⟩,⟨some 5,none,
 .mov (.c (.v (.bool false))),0,[]⟩]) (.seq (.seq (.reg [⟨some 11,none,.faddr 0 (.t 3),0,[]⟩,⟨some 12,none,.load false 1 (.t 11),0,[]⟩,⟨some 13,none,.bin .neq (.t 12)
  (.c (.v (.int .i64 3))),0,[]⟩,⟨some 14,none,.mov (.t 13),0,[]⟩,⟨some 15,some (14,false),.load true 12 (.t 1),0,[]⟩,⟨some 16,some (14,false),.load true 5 (.t 3),0,[]⟩,
 ⟨some 17,some (14,false),.call (.c (.fn 60 [])) [.t 15,.t 16],0,[]⟩,⟨some 18,some (14,false),.un .not (.t 17),0,[]⟩,⟨some 19,none,.pick (.t 14) (.c (.v (.bool true)))
  (.t 18),0,[]⟩,⟨some 20,none,.mov (.t 19),0,[]⟩,⟨some 21,some (20,false),.faddr 2 (.t 3),0,[]⟩,⟨some 22,some (20,false),.load false 1 (.t 21),0,[]⟩,⟨some 23,some (20,
 false),.call (.c (.fn 39 [])) [.t 22],0,[]⟩,⟨some 24,some (20,false),.un .not (.t 23),0,[]⟩,⟨some 25,none,.pick (.t 20) (.c (.v (.bool true))) (.t 24),0,[]⟩])
  (.cond (.t 25) (.seq (.reg [⟨some 26,none,.build [.v (.string (ByteArray.mk #[])),.sl [] .nil] [],0,[]⟩,⟨none,none,.store 2 (.t 4) (.t 26),0,[]⟩,⟨some 5,none,
 .mov (.c (.v (.bool false))),0,[]⟩]) .ret) .skip)) (.seq (.reg [⟨some 27,none,.faddr 2 (.t 3),0,[]⟩,⟨some 28,none,.load false 1 (.t 27),0,[]⟩,⟨some 29,none,
 .build [.v (.string (ByteArray.mk #[])),.sl [] .nil] [(0,1,.t 28)],0,[]⟩,⟨some 6,none,.alloc [.v (.string (ByteArray.mk #[])),.sl [] .nil],0,[]⟩,⟨none,none,
 .store 2 (.t 6) (.t 29),0,[]⟩]) (.seq (.seq (.reg [⟨some 30,none,.faddr 4 (.t 3),0,[]⟩,⟨some 31,none,.load false 1 (.t 30),0,[]⟩,⟨some 32,none,.lenS (.t 31),0,[]⟩,
 ⟨some 33,none,.mov (.c (.v (.int .i64 0))),0,[]⟩]) (.block 0 (.loop (.seq (.reg [⟨some 34,none,.bin .lss (.t 33) (.t 32),0,[]⟩]) (.seq (.cond (.t 34) .skip (.exit 0))
  (.seq (.block 1 (.seq (.reg [⟨some 35,none,.iaddr 5 (.t 31) (.t 33),0,[]⟩,⟨some 36,none,.load true 5 (.t 35),0,[]⟩,⟨some 8,none,.alloc [.v (.int .i64 0),
 .v (.int .i64 0),.v (.string (ByteArray.mk #[])),.sl [] .nil,.sl [] .nil],0,[]⟩,⟨none,none,.store 5 (.t 8) (.t 36),0,[]⟩]) (.seq (.reg [⟨some 38,none,
 .load false 1 (.t 2),0,[]⟩,⟨some 39,none,.load true 5 (.t 8),0,[]⟩,⟨some 40,none,.call (.t 38) [.t 39],0,[]⟩,⟨some 37,none,.mov (.t 40),0,[]⟩,⟨some 41,none,.ext (.t 37)
  0,0,[]⟩,⟨some 42,none,.ext (.t 37) 1,0,[]⟩,⟨some 9,none,.alloc [.v (.string (ByteArray.mk #[])),.sl [] .nil],0,[]⟩,⟨none,none,.store 2 (.t 9) (.t 41),0,[]⟩,⟨some 10,
 none,.mov (.t 42),0,[]⟩]) (.seq (.seq (.reg [⟨some 43,none,.mov (.t 10),0,[]⟩,⟨some 44,none,.un .not (.t 43),0,[]⟩]) (.cond (.t 44) (.seq (.reg [⟨some 45,none,
 .build [.v (.string (ByteArray.mk #[])),.sl [] .nil] [],0,[]⟩,⟨none,none,.store 2 (.t 4) (.t 45),0,[]⟩,⟨some 5,none,.mov (.c (.v (.bool false))),0,[]⟩]) .ret) .skip))
  (.reg [⟨some 46,none,.faddr 1 (.t 6),0,[]⟩,⟨some 47,none,.load false 1 (.t 46),0,[]⟩,⟨some 48,none,.load true 2 (.t 9),0,[]⟩,⟨some 49,none,
 .bsl (.agg [.v (.string (ByteArray.mk #[])),.sl [] .nil]) 1 [(0,2,.t 48)],0,[]⟩,⟨some 50,none,.app 2 none (.t 47) (.t 49),0,[]⟩,⟨some 51,none,.faddr 1 (.t 6),0,[]⟩,
 ⟨none,none,.store 1 (.t 51) (.t 50),0,[]⟩]))))) (.reg [⟨some 52,none,.bin .add (.t 33) (.c (.v (.int .i64 1))),0,[]⟩,⟨some 33,none,.mov (.t 52),0,[]⟩])))))))
  (.seq (.reg [⟨some 53,none,.load true 2 (.t 6),0,[]⟩,⟨none,none,.store 2 (.t 4) (.t 53),0,[]⟩,⟨some 5,none,.mov (.c (.v (.bool true))),0,[]⟩]) .ret))))⟩
theorem pf59_is : pfs 59 = some pf59 := by kernel_rfl
-- euclid/lambda.formed
def pf60 : PF := ⟨50,[.t 4],.seq (.reg [⟨some 2,none,.box (.t 0),0,[]⟩,⟨some 3,none,.box (.t 1),0,[]⟩,⟨some 4,none,.mov (.c (.v (.bool false))),0,[]⟩]) (.seq (.seq (.reg [⟨some 5,none,
 .faddr 0 (.t 3),0,[]⟩,⟨some 6,none,.load false 1 (.t 5),0,[]⟩,⟨some 7,none,.bin .lss (.t 6) (.c (.v (.int .i64 0))),0,[]⟩,⟨some 8,none,.mov (.t 7),0,[]⟩,⟨some 9,some (8,
 false),.faddr 0 (.t 3),0,[]⟩,⟨some 10,some (8,false),.load false 1 (.t 9),0,[]⟩,⟨some 11,some (8,false),.bin .geq (.t 10) (.c (.v (.int .i64 12))),0,[]⟩,⟨some 12,none,
 .pick (.t 8) (.c (.v (.bool true))) (.t 11),0,[]⟩,⟨some 13,none,.mov (.t 12),0,[]⟩,⟨some 14,some (13,false),.faddr 1 (.t 3),0,[]⟩,⟨some 15,some (13,false),
 .load false 1 (.t 14),0,[]⟩,⟨some 16,some (13,false),.bin .lss (.t 15) (.c (.v (.int .i64 0))),0,[]⟩,⟨some 17,none,.pick (.t 13) (.c (.v (.bool true))) (.t 16),0,[]⟩,
 ⟨some 18,none,.mov (.t 17),0,[]⟩,⟨some 19,some (18,false),.faddr 2 (.t 3),0,[]⟩,⟨some 20,some (18,false),.load false 1 (.t 19),0,[]⟩,⟨some 21,some (18,false),
 .bin .neq (.t 20) (.c (.v (.string (ByteArray.mk #[])))),0,[]⟩,⟨some 22,some (18,false),.mov (.t 21),0,[]⟩,⟨some 23,some (22,true),.faddr 0 (.t 3),0,[]⟩,⟨some 24,
 some (22,true),.load false 1 (.t 23),0,[]⟩,⟨some 25,some (22,true),.call (.c (.fn 82 [])) [.t 24],0,[]⟩,⟨some 26,some (22,true),.un .not (.t 25),0,[]⟩,⟨some 27,some (18,
 false),.pick (.t 22) (.t 26) (.c (.v (.bool false))),0,[]⟩,⟨some 28,none,.pick (.t 18) (.c (.v (.bool true))) (.t 27),0,[]⟩]) (.cond (.t 28) (.seq (.reg [⟨some 4,none,
 .mov (.c (.v (.bool false))),0,[]⟩]) .ret) .skip)) (.seq (.dreg [0,0,0,0,0,0,0,0,0,0,0,0,0,0,5,0,0] [⟨some 29,none,.faddr 1 (.t 3),0,[]⟩,⟨some 30,none,
 .load false 1 (.t 29),1,[0]⟩,⟨some 31,none,.bin .eql (.t 30) (.c (.v (.int .i64 0))),2,[1,0]⟩,⟨some 32,none,.mov (.t 31),3,[2,1,0]⟩,⟨some 33,some (32,false),
 .faddr 0 (.t 3),4,[3,2,1,0]⟩,⟨some 34,some (32,false),.load false 1 (.t 33),5,[4,3,2,1,0]⟩,⟨some 35,some (32,false),.bin .eql (.t 34) (.c (.v (.int .i64 0))),6,[5,4,3,2,
 1,0]⟩,⟨some 36,none,.pick (.t 32) (.c (.v (.bool true))) (.t 35),7,[6,5,4,3,2,1,0]⟩,⟨some 37,none,.mov (.t 36),8,[7,6,5,4,3,2,1,0]⟩,⟨some 38,some (37,false),
 .faddr 0 (.t 3),9,[8,7,6,5,4,3,2,1,0]⟩,⟨some 39,some (37,false),.load false 1 (.t 38),10,[9,8,7,6,5,4,3,2,1,0]⟩,⟨some 40,some (37,false),.bin .eql (.t 39)
  (.c (.v (.int .i64 3))),11,[10,9,8,7,6,5,4,3,2,1,0]⟩,⟨some 41,none,.pick (.t 37) (.c (.v (.bool true))) (.t 40),12,[11,10,9,8,7,6,5,4,3,2,1,0]⟩,⟨some 42,none,
 .mov (.t 41),13,[12,11,10,9,8,7,6,5,4,3,2,1,0]⟩,⟨some 43,some (42,true),.faddr 0 (.t 3),14,[13,12,11,10,9,8,7,6,5,4,3,2,1,0]⟩,⟨some 44,some (42,true),
 .load false 1 (.t 43),15,[14,13,12,11,10,9,8,7,6,5,4,3,2,1,0]⟩,⟨some 45,some (42,true),.iaddrA 12 1 (.t 2) (.t 44),16,[15,14,13,12,11,10,9,8,7,6,5,4,3,2,1,0]⟩,⟨some 46,
 some (42,true),.load false 1 (.t 45),17,[16,15,14,13,12,11,10,9,8,7,6,5,4,3,2,1,0]⟩,⟨some 47,some (42,true),.load true 5 (.t 3),18,[13,12,11,10,9,8,7,6,5,4,3,2,1,0]⟩,
 ⟨some 48,some (42,true),.call (.t 46) [.t 47],19,[18,17,16,15,14,13,12,11,10,9,8,7,6,5,4,3,2,1,0]⟩,⟨some 49,none,.pick (.t 42) (.t 48) (.c (.v (.bool false))),20,[19,18,
 17,16,15,14,13,12,11,10,9,8,7,6,5,4,3,2,1,0]⟩,⟨some 4,none,.mov (.t 49),21,[20,19,18,17,16,15,14,13,12,11,10,9,8,7,6,5,4,3,2,1,0]⟩]) .ret))⟩
theorem pf60_is : pfs 60 = some pf60 := by kernel_rfl
-- euclid/euclidref55.formed
def pf61 : PF := ⟨102,[.t 2],.seq (.reg [⟨some 1,none,.box (.t 0),0,[]⟩,⟨some 2,none,.mov (.c (.v (.bool false))),0,[]⟩]) (.seq (.reg [⟨some 9,none,.load true 5 (.t 1),0,[]⟩,⟨some 10,
 none,.call (.c (.fn 83 [])) [.t 9],0,[]⟩,⟨some 8,none,.mov (.t 10),0,[]⟩,⟨some 11,none,.ext (.t 8) 0,0,[]⟩,⟨some 12,none,.ext (.t 8) 1,0,[]⟩,⟨some 13,none,.ext (.t 8) 2,
 0,[]⟩,⟨some 3,none,.mov (.t 11),0,[]⟩,⟨some 4,none,.mov (.t 12),0,[]⟩,⟨some 5,none,.mov (.t 13),0,[]⟩]) (.seq (.seq (.reg [⟨some 14,none,.mov (.t 5),0,[]⟩,⟨some 15,none,
 .un .not (.t 14),0,[]⟩,⟨some 16,none,.mov (.t 15),0,[]⟩,⟨some 17,some (16,false),.faddr 4 (.t 1),0,[]⟩,⟨some 18,some (16,false),.load false 1 (.t 17),0,[]⟩,⟨some 19,
 some (16,false),.lenS (.t 18),0,[]⟩,⟨some 20,some (16,false),.mov (.t 3),0,[]⟩,⟨some 21,some (16,false),.bin .lss (.t 19) (.t 20),0,[]⟩,⟨some 22,none,.pick (.t 16)
  (.c (.v (.bool true))) (.t 21),0,[]⟩,⟨some 23,none,.mov (.t 22),0,[]⟩,⟨some 24,some (23,false),.faddr 4 (.t 1),0,[]⟩,⟨some 25,some (23,false),.load false 1 (.t 24),0,[]
 ⟩,⟨some 26,some (23,false),.lenS (.t 25),0,[]⟩,⟨some 27,some (23,false),.mov (.t 4),0,[]⟩,⟨some 28,some (23,false),.bin .gtr (.t 26) (.t 27),0,[]⟩,⟨some 29,none,
 .pick (.t 23) (.c (.v (.bool true))) (.t 28),0,[]⟩,⟨some 30,none,.mov (.t 29),0,[]⟩,⟨some 31,some (30,false),.faddr 3 (.t 1),0,[]⟩,⟨some 32,some (30,false),
 .load false 1 (.t 31),0,[]⟩,⟨some 33,some (30,false),.lenS (.t 32),0,[]⟩,⟨some 34,some (30,false),.bin .gtr (.t 33) (.c (.v (.int .i64 32))),0,[]⟩,⟨some 35,none,
 .pick (.t 30) (.c (.v (.bool true))) (.t 34),0,[]⟩]) (.cond (.t 35) (.seq (.reg [⟨some 2,none,.mov (.c (.v (.bool false))),0,[]⟩]) .ret) .skip))
  (.seq (.seq (.reg [⟨some 6,none,.mov (.c (.v (.int .i64 0))),0,[]⟩]) (.block 0 (.loop (.seq (.seq (.reg [⟨some 36,none,.mov (.t 6),0,[]⟩,⟨some 37,none,.faddr 3 (.t 1),
 0,[]⟩,⟨some 38,none,.load false 1 (.t 37),0,[]⟩,⟨some 39,none,.lenS (.t 38),0,[]⟩,⟨some 40,none,.bin .lss (.t 36) (.t 39),0,[]⟩]) (.cond (.t 40) .skip (.exit 0)))
  (.seq (.block 1 (.seq (.reg [⟨some 43,none,.faddr 3 (.t 1),0,[]⟩,⟨some 44,none,.load false 1 (.t 43),0,[]⟩,⟨some 45,none,.mov (.t 6),0,[]⟩,⟨some 46,none,
 .iaddr 1 (.t 44) (.t 45),0,[]⟩,⟨some 47,none,.load false 1 (.t 46),0,[]⟩,⟨some 48,none,.bin .lss (.t 47) (.c (.v (.int .i64 0))),0,[]⟩,⟨some 49,none,.mov (.t 48),0,[]⟩,
 ⟨some 50,some (49,false),.faddr 3 (.t 1),0,[]⟩,⟨some 51,some (49,false),.load false 1 (.t 50),0,[]⟩,⟨some 52,some (49,false),.mov (.t 6),0,[]⟩,⟨some 53,some (49,false),
 .iaddr 1 (.t 51) (.t 52),0,[]⟩,⟨some 54,some (49,false),.load false 1 (.t 53),0,[]⟩,⟨some 55,some (49,false),.bin .gtr (.t 54) (.c (.v (.int .i64 64))),0,[]⟩,⟨some 56,
 none,.pick (.t 49) (.c (.v (.bool true))) (.t 55),0,[]⟩]) (.cond (.t 56) (.seq (.reg [⟨some 2,none,.mov (.c (.v (.bool false))),0,[]⟩]) .ret) .skip))) (.reg [⟨some 41,
 none,.mov (.t 6),0,[]⟩,⟨some 42,none,.bin .add (.t 41) (.c (.v (.int .i64 1))),0,[]⟩,⟨some 6,none,.mov (.t 42),0,[]⟩])))))) (.seq (.reg [⟨some 57,none,.faddr 0 (.t 1),0,
 []⟩,⟨some 58,none,.load false 1 (.t 57),0,[]⟩,⟨some 59,none,.bin .eql (.t 58) (.c (.v (.int .i64 3))),0,[]⟩,⟨some 60,none,.mov (.t 59),0,[]⟩,⟨some 61,some (60,false),
 .faddr 0 (.t 1),0,[]⟩,⟨some 62,some (60,false),.load false 1 (.t 61),0,[]⟩,⟨some 63,some (60,false),.bin .eql (.t 62) (.c (.v (.int .i64 5))),0,[]⟩,⟨some 64,none,
 .pick (.t 60) (.c (.v (.bool true))) (.t 63),0,[]⟩,⟨some 7,none,.mov (.t 64),0,[]⟩]) (.seq (.seq (.reg [⟨some 65,none,.mov (.t 7),0,[]⟩,⟨some 66,none,.un .not (.t 65),0,
 []⟩,⟨some 67,none,.mov (.t 66),0,[]⟩,⟨some 68,some (67,true),.faddr 2 (.t 1),0,[]⟩,⟨some 69,some (67,true),.load false 1 (.t 68),0,[]⟩,⟨some 70,some (67,true),
 .bin .neq (.t 69) (.c (.v (.string (ByteArray.mk #[])))),0,[]⟩,⟨some 71,none,.pick (.t 67) (.t 70) (.c (.v (.bool false))),0,[]⟩,⟨some 72,none,.mov (.t 71),0,[]⟩,
 ⟨some 73,some (72,false),.faddr 0 (.t 1),0,[]⟩,⟨some 74,some (72,false),.load false 1 (.t 73),0,[]⟩,⟨some 75,some (72,false),.bin .neq (.t 74) (.c (.v (.int .i64 4))),0,
 []⟩,⟨some 76,some (72,false),.mov (.t 75),0,[]⟩,⟨some 77,some (76,true),.faddr 3 (.t 1),0,[]⟩,⟨some 78,some (76,true),.load false 1 (.t 77),0,[]⟩,⟨some 79,some (76,true)
 ,.lenS (.t 78),0,[]⟩,⟨some 80,some (76,true),.bin .gtr (.t 79) (.c (.v (.int .i64 0))),0,[]⟩,⟨some 81,some (72,false),.pick (.t 76) (.t 80) (.c (.v (.bool false))),0,[]⟩
 ,⟨some 82,none,.pick (.t 72) (.c (.v (.bool true))) (.t 81),0,[]⟩,⟨some 83,none,.mov (.t 82),0,[]⟩,⟨some 84,some (83,false),.faddr 1 (.t 1),0,[]⟩,⟨some 85,some (83,
 false),.load false 1 (.t 84),0,[]⟩,⟨some 86,some (83,false),.bin .lss (.t 85) (.c (.v (.int .i64 0))),0,[]⟩,⟨some 87,none,.pick (.t 83) (.c (.v (.bool true))) (.t 86),0,
 []⟩]) (.cond (.t 87) (.seq (.reg [⟨some 2,none,.mov (.c (.v (.bool false))),0,[]⟩]) .ret) .skip)) (.seq (.seq (.reg [⟨some 88,none,.faddr 0 (.t 1),0,[]⟩,⟨some 89,none,
 .load false 1 (.t 88),0,[]⟩,⟨some 90,none,.bin .eql (.t 89) (.c (.v (.int .i64 3))),0,[]⟩]) (.cond (.t 90) (.seq (.reg [⟨some 91,none,.faddr 1 (.t 1),0,[]⟩,⟨some 92,
 none,.load false 1 (.t 91),0,[]⟩,⟨some 93,none,.bin .lss (.t 92) (.c (.v (.int .i64 32))),0,[]⟩,⟨some 2,none,.mov (.t 93),0,[]⟩]) .ret) .skip)) (.seq (.reg [⟨some 94,
 none,.faddr 0 (.t 1),0,[]⟩,⟨some 95,none,.load false 1 (.t 94),0,[]⟩,⟨some 96,none,.bin .eql (.t 95) (.c (.v (.int .i64 0))),0,[]⟩,⟨some 97,none,.mov (.t 96),0,[]⟩,
 ⟨some 98,some (97,false),.faddr 1 (.t 1),0,[]⟩,⟨some 99,some (97,false),.load false 1 (.t 98),0,[]⟩,⟨some 100,some (97,false),.bin .eql (.t 99) (.c (.v (.int .i64 0))),
 0,[]⟩,⟨some 101,none,.pick (.t 97) (.c (.v (.bool true))) (.t 100),0,[]⟩,⟨some 2,none,.mov (.t 101),0,[]⟩]) .ret)))))))⟩
theorem pf61_is : pfs 61 = some pf61 := by kernel_rfl
-- euclid/lambda.caught$1
def pf62 : PF := ⟨17,[],.seq (.reg [⟨some 4,none,.recov,0,[]⟩,⟨some 1,none,.mov (.t 4),0,[]⟩]) (.seq (.reg [⟨some 5,none,.mov (.t 1),0,[]⟩,⟨some 6,none,.eqi true (.t 5)
  (.c (.v .nilIface)),0,[]⟩]) (.cond (.t 6) (.seq (.reg [⟨some 8,none,.mov (.t 1),0,[]⟩,⟨some 9,none,.tass 90 true (.agg [.v (.int .i64 0)]) (.t 8),0,[]⟩,⟨some 7,none,
 .mov (.t 9),0,[]⟩,⟨some 10,none,.ext (.t 7) 0,0,[]⟩,⟨some 11,none,.ext (.t 7) 1,0,[]⟩,⟨some 2,none,.alloc [.v (.int .i64 0)],0,[]⟩,⟨none,none,.store 1 (.t 2) (.t 10),0,
 []⟩,⟨some 3,none,.mov (.t 11),0,[]⟩]) (.seq (.seq (.reg [⟨some 12,none,.mov (.t 3),0,[]⟩,⟨some 13,none,.un .not (.t 12),0,[]⟩]) (.cond (.t 13) (.reg [⟨some 14,none,
 .mov (.t 1),0,[]⟩,⟨none,none,.panic (.t 14),0,[]⟩]) .skip)) (.reg [⟨some 15,none,.faddr 0 (.t 2),0,[]⟩,⟨some 16,none,.load false 1 (.t 15),0,[]⟩,⟨none,none,
 .store 1 (.t 0) (.t 16),0,[]⟩]))) .skip))⟩
theorem pf62_is : pfs 62 = some pf62 := by kernel_rfl
-- euclid/lambda.checks$1
def pf63 : PF := ⟨4,[.t 2],.seq (.reg [⟨some 1,none,.box (.t 0),0,[]⟩,⟨some 2,none,.mov (.c (.v .nilFunc)),0,[]⟩]) (.seq (.reg [⟨some 3,none,.mkfn 64 [.t 1],0,[]⟩,⟨some 2,none,
 .mov (.t 3),0,[]⟩]) .ret)⟩
theorem pf63_is : pfs 63 = some pf63 := by kernel_rfl
-- euclid/lambda.checks$1$1
def pf64 : PF := ⟨15,[.t 3],.seq (.reg [⟨some 2,none,.box (.t 0),0,[]⟩,⟨some 3,none,.mov (.c (.v (.bool false))),0,[]⟩]) (.seq (.reg [⟨some 4,none,.faddr 4 (.t 2),0,[]⟩,⟨some 5,none,
 .load false 1 (.t 4),0,[]⟩,⟨some 6,none,.lenS (.t 5),0,[]⟩,⟨some 7,none,.load false 1 (.t 1),0,[]⟩,⟨some 8,none,.bin .eql (.t 6) (.t 7),0,[]⟩,⟨some 9,none,.mov (.t 8),0,
 []⟩,⟨some 10,some (9,true),.faddr 3 (.t 2),0,[]⟩,⟨some 11,some (9,true),.load false 1 (.t 10),0,[]⟩,⟨some 12,some (9,true),.lenS (.t 11),0,[]⟩,⟨some 13,some (9,true),
 .bin .eql (.t 12) (.c (.v (.int .i64 0))),0,[]⟩,⟨some 14,none,.pick (.t 9) (.t 13) (.c (.v (.bool false))),0,[]⟩,⟨some 3,none,.mov (.t 14),0,[]⟩]) .ret)⟩
theorem pf64_is : pfs 64 = some pf64 := by kernel_rfl
-- euclid/lambda.checks$2
def pf65 : PF := ⟨18,[.t 2],.seq (.reg [⟨some 1,none,.box (.t 0),0,[]⟩,⟨some 2,none,.mov (.c (.v (.bool false))),0,[]⟩]) (.seq (.reg [⟨some 3,none,.faddr 3 (.t 1),0,[]⟩,⟨some 4,none,
 .load false 1 (.t 3),0,[]⟩,⟨some 5,none,.lenS (.t 4),0,[]⟩,⟨some 6,none,.bin .eql (.t 5) (.c (.v (.int .i64 0))),0,[]⟩,⟨some 7,none,.mov (.t 6),0,[]⟩,⟨some 8,some (7,
 true),.faddr 1 (.t 1),0,[]⟩,⟨some 9,some (7,true),.load false 1 (.t 8),0,[]⟩,⟨some 10,some (7,true),.bin .lss (.t 9) (.c (.v (.int .i64 32))),0,[]⟩,⟨some 11,none,
 .pick (.t 7) (.t 10) (.c (.v (.bool false))),0,[]⟩,⟨some 12,none,.mov (.t 11),0,[]⟩,⟨some 13,some (12,true),.faddr 4 (.t 1),0,[]⟩,⟨some 14,some (12,true),
 .load false 1 (.t 13),0,[]⟩,⟨some 15,some (12,true),.lenS (.t 14),0,[]⟩,⟨some 16,some (12,true),.bin .leq (.t 15) (.c (.v (.int .i64 4096))),0,[]⟩,⟨some 17,none,
 .pick (.t 12) (.t 16) (.c (.v (.bool false))),0,[]⟩,⟨some 2,none,.mov (.t 17),0,[]⟩]) .ret)⟩
theorem pf65_is : pfs 65 = some pf65 := by kernel_rfl
-- euclid/lambda.cases
def pf66 : PF := ⟨23,[.t 2],.seq (.reg [⟨some 1,none,.box (.t 0),0,[]⟩,⟨some 2,none,.mov (.c (.v (.bool false))),0,[]⟩]) (.seq (.reg [⟨some 3,none,.faddr 3 (.t 1),0,[]⟩,⟨some 4,none,
 .load false 1 (.t 3),0,[]⟩,⟨some 5,none,.lenS (.t 4),0,[]⟩,⟨some 6,none,.bin .leq (.t 5) (.c (.v (.int .i64 32))),0,[]⟩,⟨some 7,none,.mov (.t 6),0,[]⟩,⟨some 8,some (7,
 true),.faddr 4 (.t 1),0,[]⟩,⟨some 9,some (7,true),.load false 1 (.t 8),0,[]⟩,⟨some 10,some (7,true),.lenS (.t 9),0,[]⟩,⟨some 11,some (7,true),.faddr 3 (.t 1),0,[]⟩,
 ⟨some 12,some (7,true),.load false 1 (.t 11),0,[]⟩,⟨some 13,some (7,true),.lenS (.t 12),0,[]⟩,⟨some 14,some (7,true),.bin .add (.t 13) (.c (.v (.int .i64 1))),0,[]⟩,
 ⟨some 15,some (7,true),.bin .eql (.t 10) (.t 14),0,[]⟩,⟨some 16,none,.pick (.t 7) (.t 15) (.c (.v (.bool false))),0,[]⟩,⟨some 17,none,.mov (.t 16),0,[]⟩,⟨some 18,
 some (17,true),.faddr 3 (.t 1),0,[]⟩,⟨some 19,some (17,true),.load false 1 (.t 18),0,[]⟩,⟨some 20,some (17,true),.call (.c (.fn 84 [])) [.t 19,.c (.fn 85 [])],0,[]⟩,
 ⟨some 21,some (17,true),.un .not (.t 20),0,[]⟩,⟨some 22,none,.pick (.t 17) (.t 21) (.c (.v (.bool false))),0,[]⟩,⟨some 2,none,.mov (.t 22),0,[]⟩]) .ret)⟩
theorem pf66_is : pfs 66 = some pf66 := by kernel_rfl
-- euclid/term.letter
def pf67 : PF := ⟨21,[.t 2],.seq (.reg [⟨some 2,none,.mov (.c (.v (.bool false))),0,[]⟩]) (.seq (.reg [⟨some 3,none,.mov (.t 0),0,[]⟩,⟨some 4,none,.bin .geq (.t 3) (.c (.v (.int .u8 97))
 ),0,[]⟩,⟨some 5,none,.mov (.t 4),0,[]⟩,⟨some 6,some (5,true),.mov (.t 0),0,[]⟩,⟨some 7,some (5,true),.bin .leq (.t 6) (.c (.v (.int .u8 122))),0,[]⟩,⟨some 8,none,
 .pick (.t 5) (.t 7) (.c (.v (.bool false))),0,[]⟩,⟨some 9,none,.mov (.t 8),0,[]⟩,⟨some 10,some (9,false),.mov (.t 0),0,[]⟩,⟨some 11,some (9,false),.bin .geq (.t 10)
  (.c (.v (.int .u8 65))),0,[]⟩,⟨some 12,some (9,false),.mov (.t 11),0,[]⟩,⟨some 13,some (12,true),.mov (.t 0),0,[]⟩,⟨some 14,some (12,true),.bin .leq (.t 13)
  (.c (.v (.int .u8 90))),0,[]⟩,⟨some 15,some (9,false),.pick (.t 12) (.t 14) (.c (.v (.bool false))),0,[]⟩,⟨some 16,none,.pick (.t 9) (.c (.v (.bool true))) (.t 15),0,[]
 ⟩,⟨some 17,none,.mov (.t 16),0,[]⟩,⟨some 18,some (17,false),.mov (.t 0),0,[]⟩,⟨some 19,some (17,false),.bin .eql (.t 18) (.c (.v (.int .u8 95))),0,[]⟩,⟨some 20,none,
 .pick (.t 17) (.c (.v (.bool true))) (.t 19),0,[]⟩,⟨some 2,none,.mov (.t 20),0,[]⟩]) .ret)⟩
theorem pf67_is : pfs 67 = some pf67 := by kernel_rfl
-- (*euclid/lambda.checker).expr
def pf68 : PF := ⟨83,[.t 6,.t 7],.seq (.reg [⟨some 4,none,.box (.t 1),0,[]⟩,⟨some 6,none,.mov (.c (.v (.int .i64 0))),0,[]⟩,⟨some 7,none,.mov (.c (.v (.int .i64 0))),0,[]⟩])
  (.seq (.dreg [5,0] [⟨some 14,none,.mov (.t 0),0,[]⟩,⟨some 15,none,.nilck (.t 14),1,[0]⟩,⟨some 16,none,.faddr 0 (.t 15),2,[1,0]⟩,⟨some 17,none,.load true 12 (.t 16),3,
 [2,1,0]⟩,⟨some 18,none,.load true 5 (.t 4),4,[]⟩,⟨some 19,none,.call (.c (.fn 60 [])) [.t 17,.t 18],5,[4,3,2,1,0]⟩,⟨some 20,none,.call (.c (.fn 37 [])) [.t 19,
 .c (.v (.int .i64 3))],6,[5,4,3,2,1,0]⟩]) (.seq (.reg [⟨some 21,none,.faddr 0 (.t 4),0,[]⟩,⟨some 22,none,.load false 1 (.t 21),0,[]⟩,⟨some 23,none,.call (.c (.fn 82 []))
  [.t 22],0,[]⟩,⟨some 24,none,.un .not (.t 23),0,[]⟩,⟨some 25,none,.mov (.t 24),0,[]⟩,⟨some 26,some (25,false),.faddr 2 (.t 4),0,[]⟩,⟨some 27,some (25,false),
 .load false 1 (.t 26),0,[]⟩,⟨some 28,some (25,false),.call (.c (.fn 39 [])) [.t 27],0,[]⟩,⟨some 29,none,.pick (.t 25) (.c (.v (.bool true))) (.t 28),0,[]⟩,⟨some 30,none,
 .call (.c (.fn 37 [])) [.t 29,.c (.v (.int .i64 29))],0,[]⟩]) (.seq (.reg [⟨some 31,none,.faddr 0 (.t 4),0,[]⟩,⟨some 32,none,.load false 1 (.t 31),0,[]⟩,⟨some 33,none,
 .bin .neq (.t 32) (.c (.v (.int .i64 0))),0,[]⟩,⟨some 34,none,.mov (.t 33),0,[]⟩,⟨some 35,some (34,false),.faddr 1 (.t 4),0,[]⟩,⟨some 36,some (34,false),
 .load false 1 (.t 35),0,[]⟩,⟨some 37,some (34,false),.mov (.t 2),0,[]⟩,⟨some 38,some (34,false),.bin .lss (.t 36) (.t 37),0,[]⟩,⟨some 39,none,.pick (.t 34)
  (.c (.v (.bool true))) (.t 38),0,[]⟩,⟨some 40,none,.call (.c (.fn 37 [])) [.t 39,.c (.v (.int .i64 24))],0,[]⟩]) (.seq (.dreg [0,0,0,0,6,0,0] [⟨some 41,none,
 .faddr 0 (.t 4),0,[]⟩,⟨some 42,none,.load false 1 (.t 41),1,[0]⟩,⟨some 43,none,.bin .neq (.t 42) (.c (.v (.int .i64 5))),2,[1,0]⟩,⟨some 44,none,.mov (.t 43),3,[2,1,0]⟩,
 ⟨some 45,some (44,false),.mov (.t 0),4,[3,2,1,0]⟩,⟨some 46,some (44,false),.nilck (.t 45),5,[4,3,2,1,0]⟩,⟨some 47,some (44,false),.faddr 12 (.t 46),6,[5,4,3,2,1,0]⟩,
 ⟨some 48,some (44,false),.load false 1 (.t 47),7,[6,5,4,3,2,1,0]⟩,⟨some 49,some (44,false),.faddr 2 (.t 4),8,[3,2,1,0]⟩,⟨some 50,some (44,false),.load false 1 (.t 49),9,
 [8,3,2,1,0]⟩,⟨some 51,some (44,false),.look (.v (.bool false)) false true (.t 48) (.t 50),10,[9,8,7,6,5,4,3,2,1,0]⟩,⟨some 52,none,.pick (.t 44) (.c (.v (.bool true)))
  (.t 51),11,[10,9,8,7,6,5,4,3,2,1,0]⟩,⟨some 53,none,.call (.c (.fn 37 [])) [.t 52,.c (.v (.int .i64 9))],12,[11,10,9,8,7,6,5,4,3,2,1,0]⟩]) (.seq (.reg [⟨some 8,none,
 .mov (.c (.v (.int .i64 1))),0,[]⟩,⟨some 9,none,.mov (.c (.v (.int .i64 0))),0,[]⟩]) (.seq (.seq (.reg [⟨some 54,none,.faddr 4 (.t 4),0,[]⟩,⟨some 55,none,
 .load false 1 (.t 54),0,[]⟩,⟨some 56,none,.lenS (.t 55),0,[]⟩,⟨some 57,none,.mov (.c (.v (.int .i64 0))),0,[]⟩]) (.block 0 (.loop (.seq (.reg [⟨some 58,none,
 .bin .lss (.t 57) (.t 56),0,[]⟩]) (.seq (.cond (.t 58) .skip (.exit 0)) (.seq (.block 1 (.seq (.reg [⟨some 59,none,.mov (.t 57),0,[]⟩,⟨some 60,none,.iaddr 5 (.t 55)
  (.t 57),0,[]⟩,⟨some 61,none,.load true 5 (.t 60),0,[]⟩,⟨some 11,none,.alloc [.v (.int .i64 0),.v (.int .i64 0),.v (.string (ByteArray.mk #[])),.sl [] .nil,.sl [] .nil],
 0,[]⟩,⟨some 10,none,.mov (.t 59),0,[]⟩,⟨none,none,.store 5 (.t 11) (.t 61),0,[]⟩]) (.seq (.dreg [7,0,3] [⟨some 63,none,.mov (.t 0),0,[]⟩,⟨some 64,none,
 .load true 5 (.t 11),1,[]⟩,⟨some 65,none,.mov (.t 2),2,[]⟩,⟨some 66,none,.load true 5 (.t 4),3,[]⟩,⟨some 67,none,.mov (.t 10),4,[]⟩,⟨some 68,none,.call (.c (.fn 72 []))
  [.t 66,.t 67],5,[4,3]⟩,⟨some 69,none,.bin .add (.t 65) (.t 68),6,[5,4,3,2]⟩,⟨some 70,none,.call (.c (.fn 68 [])) [.t 63,.t 64,.t 69],7,[6,5,4,3,2,1,0]⟩,⟨some 62,none,
 .mov (.t 70),8,[7,6,5,4,3,2,1,0]⟩,⟨some 71,none,.ext (.t 62) 0,9,[8,7,6,5,4,3,2,1,0]⟩,⟨some 72,none,.ext (.t 62) 1,10,[8,7,6,5,4,3,2,1,0]⟩,⟨some 12,none,.mov (.t 71),11,
 [9,8,7,6,5,4,3,2,1,0]⟩,⟨some 13,none,.mov (.t 72),12,[11,9,10,8,7,6,5,4,3,2,1,0]⟩]) (.reg [⟨some 73,none,.mov (.t 8),0,[]⟩,⟨some 74,none,.mov (.t 12),0,[]⟩,⟨some 75,
 none,.bin .add (.t 73) (.t 74),0,[]⟩,⟨some 76,none,.mov (.t 9),0,[]⟩,⟨some 77,none,.mov (.t 13),0,[]⟩,⟨some 78,none,.max (.t 76) (.t 77),0,[]⟩,⟨some 8,none,.mov (.t 75),
 0,[]⟩,⟨some 9,none,.mov (.t 78),0,[]⟩])))) (.reg [⟨some 79,none,.bin .add (.t 57) (.c (.v (.int .i64 1))),0,[]⟩,⟨some 57,none,.mov (.t 79),0,[]⟩])))))))
  (.seq (.reg [⟨some 80,none,.mov (.t 8),0,[]⟩,⟨some 81,none,.mov (.t 9),0,[]⟩,⟨some 82,none,.bin .add (.t 81) (.c (.v (.int .i64 1))),0,[]⟩,⟨some 6,none,.mov (.t 80),0,
 []⟩,⟨some 7,none,.mov (.t 82),0,[]⟩]) .ret)))))))⟩
theorem pf68_is : pfs 68 = some pf68 := by kernel_rfl
-- euclid/euclidref03.letter
def pf69 : PF := ⟨21,[.t 2],.seq (.reg [⟨some 2,none,.mov (.c (.v (.bool false))),0,[]⟩]) (.seq (.reg [⟨some 3,none,.mov (.t 0),0,[]⟩,⟨some 4,none,.bin .geq (.t 3) (.c (.v (.int .u8 97))
 ),0,[]⟩,⟨some 5,none,.mov (.t 4),0,[]⟩,⟨some 6,some (5,true),.mov (.t 0),0,[]⟩,⟨some 7,some (5,true),.bin .leq (.t 6) (.c (.v (.int .u8 122))),0,[]⟩,⟨some 8,none,
 .pick (.t 5) (.t 7) (.c (.v (.bool false))),0,[]⟩,⟨some 9,none,.mov (.t 8),0,[]⟩,⟨some 10,some (9,false),.mov (.t 0),0,[]⟩,⟨some 11,some (9,false),.bin .geq (.t 10)
  (.c (.v (.int .u8 65))),0,[]⟩,⟨some 12,some (9,false),.mov (.t 11),0,[]⟩,⟨some 13,some (12,true),.mov (.t 0),0,[]⟩,⟨some 14,some (12,true),.bin .leq (.t 13)
  (.c (.v (.int .u8 90))),0,[]⟩,⟨some 15,some (9,false),.pick (.t 12) (.t 14) (.c (.v (.bool false))),0,[]⟩,⟨some 16,none,.pick (.t 9) (.c (.v (.bool true))) (.t 15),0,[]
 ⟩,⟨some 17,none,.mov (.t 16),0,[]⟩,⟨some 18,some (17,false),.mov (.t 0),0,[]⟩,⟨some 19,some (17,false),.bin .eql (.t 18) (.c (.v (.int .u8 95))),0,[]⟩,⟨some 20,none,
 .pick (.t 17) (.c (.v (.bool true))) (.t 19),0,[]⟩,⟨some 2,none,.mov (.t 20),0,[]⟩]) .ret)⟩
theorem pf69_is : pfs 69 = some pf69 := by kernel_rfl
-- euclid/euclidref55.check
def pf70 : PF := ⟨73,[.t 6],.seq (.reg [⟨some 3,none,.box (.t 0),0,[]⟩,⟨some 4,none,.box (.t 1),0,[]⟩,⟨some 6,none,.mov (.c (.v (.int .i64 0))),0,[]⟩]) (.seq (.seq (.reg [⟨some 11,none,
 .load true 5 (.t 4),0,[]⟩,⟨some 12,none,.call (.c (.fn 61 [])) [.t 11],0,[]⟩,⟨some 13,none,.un .not (.t 12),0,[]⟩]) (.cond (.t 13) (.seq (.reg [⟨some 6,none,
 .mov (.c (.v (.int .i64 3))),0,[]⟩]) .ret) .skip)) (.seq (.seq (.reg [⟨some 14,none,.faddr 0 (.t 4),0,[]⟩,⟨some 15,none,.load false 1 (.t 14),0,[]⟩,⟨some 16,none,
 .bin .eql (.t 15) (.c (.v (.int .i64 3))),0,[]⟩,⟨some 17,none,.mov (.t 16),0,[]⟩,⟨some 18,some (17,false),.faddr 0 (.t 4),0,[]⟩,⟨some 19,some (17,false),
 .load false 1 (.t 18),0,[]⟩,⟨some 20,some (17,false),.bin .eql (.t 19) (.c (.v (.int .i64 5))),0,[]⟩,⟨some 21,none,.pick (.t 17) (.c (.v (.bool true))) (.t 20),0,[]⟩,
 ⟨some 22,none,.mov (.t 21),0,[]⟩,⟨some 23,some (22,true),.faddr 2 (.t 4),0,[]⟩,⟨some 24,some (22,true),.load false 1 (.t 23),0,[]⟩,⟨some 25,some (22,true),
 .call (.c (.fn 41 [])) [.t 24],0,[]⟩,⟨some 26,some (22,true),.un .not (.t 25),0,[]⟩,⟨some 27,none,.pick (.t 22) (.t 26) (.c (.v (.bool false))),0,[]⟩]) (.cond (.t 27)
  (.seq (.reg [⟨some 6,none,.mov (.c (.v (.int .i64 29))),0,[]⟩]) .ret) .skip)) (.seq (.seq (.reg [⟨some 28,none,.faddr 0 (.t 4),0,[]⟩,⟨some 29,none,.load false 1 (.t 28)
 ,0,[]⟩,⟨some 30,none,.bin .eql (.t 29) (.c (.v (.int .i64 0))),0,[]⟩,⟨some 31,none,.mov (.t 30),0,[]⟩,⟨some 32,some (31,true),.faddr 1 (.t 4),0,[]⟩,⟨some 33,some (31,
 true),.load false 1 (.t 32),0,[]⟩,⟨some 34,some (31,true),.mov (.t 2),0,[]⟩,⟨some 35,some (31,true),.bin .geq (.t 33) (.t 34),0,[]⟩,⟨some 36,none,.pick (.t 31) (.t 35)
  (.c (.v (.bool false))),0,[]⟩]) (.cond (.t 36) (.seq (.reg [⟨some 6,none,.mov (.c (.v (.int .i64 24))),0,[]⟩]) .ret) .skip)) (.seq (.seq (.reg [⟨some 38,none,
 .load true 6 (.t 3),0,[]⟩,⟨some 39,none,.faddr 2 (.t 4),0,[]⟩,⟨some 40,none,.load false 1 (.t 39),0,[]⟩,⟨some 41,none,.call (.c (.fn 53 [])) [.t 38,.t 40],0,[]⟩,
 ⟨some 37,none,.mov (.t 41),0,[]⟩,⟨some 42,none,.ext (.t 37) 0,0,[]⟩,⟨some 43,none,.ext (.t 37) 1,0,[]⟩,⟨some 7,none,.alloc [.v (.int .i64 0),.v (.int .i64 0),
 .v (.string (ByteArray.mk #[])),.sl [] .nil,.sl [] .nil],0,[]⟩,⟨none,none,.store 5 (.t 7) (.t 42),0,[]⟩,⟨some 8,none,.mov (.t 43),0,[]⟩]) (.seq (.reg [⟨some 44,none,
 .faddr 0 (.t 4),0,[]⟩,⟨some 45,none,.load false 1 (.t 44),0,[]⟩,⟨some 46,none,.bin .eql (.t 45) (.c (.v (.int .i64 5))),0,[]⟩,⟨some 47,none,.mov (.t 46),0,[]⟩,⟨some 48,
 some (47,true),.mov (.t 8),0,[]⟩,⟨some 49,some (47,true),.un .not (.t 48),0,[]⟩,⟨some 50,none,.pick (.t 47) (.t 49) (.c (.v (.bool false))),0,[]⟩]) (.cond (.t 50)
  (.seq (.reg [⟨some 6,none,.mov (.c (.v (.int .i64 9))),0,[]⟩]) .ret) .skip))) (.seq (.seq (.reg [⟨some 9,none,.mov (.c (.v (.int .i64 0))),0,[]⟩])
  (.block 0 (.loop (.seq (.seq (.reg [⟨some 51,none,.mov (.t 9),0,[]⟩,⟨some 52,none,.faddr 4 (.t 4),0,[]⟩,⟨some 53,none,.load false 1 (.t 52),0,[]⟩,⟨some 54,none,
 .lenS (.t 53),0,[]⟩,⟨some 55,none,.bin .lss (.t 51) (.t 54),0,[]⟩]) (.cond (.t 55) .skip (.exit 0))) (.seq (.block 1 (.seq (.dreg [11,0] [⟨some 58,none,
 .load true 6 (.t 3),0,[]⟩,⟨some 59,none,.faddr 4 (.t 4),1,[]⟩,⟨some 60,none,.load false 1 (.t 59),2,[1]⟩,⟨some 61,none,.mov (.t 9),3,[]⟩,⟨some 62,none,.iaddr 5 (.t 60)
  (.t 61),4,[3,2,1]⟩,⟨some 63,none,.load true 5 (.t 62),5,[4,3,2,1]⟩,⟨some 64,none,.mov (.t 2),6,[]⟩,⟨some 65,none,.load true 5 (.t 4),7,[]⟩,⟨some 66,none,.mov (.t 9),8,
 []⟩,⟨some 67,none,.call (.c (.fn 75 [])) [.t 65,.t 66],9,[8,7]⟩,⟨some 68,none,.bin .add (.t 64) (.t 67),10,[9,8,7,6]⟩,⟨some 69,none,.call (.c (.fn 70 [])) [.t 58,.t 63,
 .t 68],11,[10,9,8,7,6,5,4,3,2,1,0]⟩,⟨some 10,none,.mov (.t 69),12,[11,10,9,8,7,6,5,4,3,2,1,0]⟩]) (.seq (.reg [⟨some 70,none,.mov (.t 10),0,[]⟩,⟨some 71,none,
 .bin .neq (.t 70) (.c (.v (.int .i64 0))),0,[]⟩]) (.cond (.t 71) (.seq (.reg [⟨some 72,none,.mov (.t 10),0,[]⟩,⟨some 6,none,.mov (.t 72),0,[]⟩]) .ret) .skip))))
  (.reg [⟨some 56,none,.mov (.t 9),0,[]⟩,⟨some 57,none,.bin .add (.t 56) (.c (.v (.int .i64 1))),0,[]⟩,⟨some 9,none,.mov (.t 57),0,[]⟩])))))) (.seq (.reg [⟨some 6,none,
 .mov (.c (.v (.int .i64 0))),0,[]⟩]) .ret))))))⟩
theorem pf70_is : pfs 70 = some pf70 := by kernel_rfl
-- euclid/euclidref55.Depth
def pf71 : PF := ⟨22,[.t 2],.seq (.reg [⟨some 1,none,.box (.t 0),0,[]⟩,⟨some 2,none,.mov (.c (.v (.int .i64 0))),0,[]⟩]) (.seq (.reg [⟨some 3,none,.mov (.c (.v (.int .i64 0))),0,[]⟩])
  (.seq (.seq (.reg [⟨some 4,none,.mov (.c (.v (.int .i64 0))),0,[]⟩]) (.block 0 (.loop (.seq (.seq (.reg [⟨some 5,none,.mov (.t 4),0,[]⟩,⟨some 6,none,.faddr 4 (.t 1),0,
 []⟩,⟨some 7,none,.load false 1 (.t 6),0,[]⟩,⟨some 8,none,.lenS (.t 7),0,[]⟩,⟨some 9,none,.bin .lss (.t 5) (.t 8),0,[]⟩]) (.cond (.t 9) .skip (.exit 0)))
  (.seq (.block 1 (.reg [⟨some 12,none,.mov (.t 3),0,[]⟩,⟨some 13,none,.faddr 4 (.t 1),0,[]⟩,⟨some 14,none,.load false 1 (.t 13),0,[]⟩,⟨some 15,none,.mov (.t 4),0,[]⟩,
 ⟨some 16,none,.iaddr 5 (.t 14) (.t 15),0,[]⟩,⟨some 17,none,.load true 5 (.t 16),0,[]⟩,⟨some 18,none,.call (.c (.fn 71 [])) [.t 17],0,[]⟩,⟨some 19,none,.max (.t 12)
  (.t 18),0,[]⟩,⟨some 3,none,.mov (.t 19),0,[]⟩])) (.reg [⟨some 10,none,.mov (.t 4),0,[]⟩,⟨some 11,none,.bin .add (.t 10) (.c (.v (.int .i64 1))),0,[]⟩,⟨some 4,none,
 .mov (.t 11),0,[]⟩])))))) (.seq (.reg [⟨some 20,none,.mov (.t 3),0,[]⟩,⟨some 21,none,.bin .add (.t 20) (.c (.v (.int .i64 1))),0,[]⟩,⟨some 2,none,.mov (.t 21),0,[]⟩])
  .ret)))⟩
theorem pf71_is : pfs 71 = some pf71 := by kernel_rfl
-- euclid/lambda.under
def pf72 : PF := ⟨38,[.t 4],.seq (.reg [⟨some 2,none,.box (.t 0),0,[]⟩,⟨some 4,none,.mov (.c (.v (.int .i64 0))),0,[]⟩]) (.seq (.block 0 (.seq (.seq (.reg [⟨some 6,none,.faddr 0 (.t 2),
 0,[]⟩,⟨some 7,none,.load false 1 (.t 6),0,[]⟩,⟨some 8,none,.bin .eql (.t 7) (.c (.v (.int .i64 1))),0,[]⟩,⟨some 5,none,.mov (.t 8),0,[]⟩]) (.cond (.t 5)
  .skip (.reg [⟨some 9,none,.faddr 0 (.t 2),0,[]⟩,⟨some 10,none,.load false 1 (.t 9),0,[]⟩,⟨some 11,none,.bin .eql (.t 10) (.c (.v (.int .i64 7))),0,[]⟩,⟨some 12,none,
 .mov (.t 11),0,[]⟩,⟨some 13,some (12,true),.mov (.t 1),0,[]⟩,⟨some 14,some (12,true),.bin .eql (.t 13) (.c (.v (.int .i64 1))),0,[]⟩,⟨some 15,none,.pick (.t 12) (.t 14)
  (.c (.v (.bool false))),0,[]⟩,⟨some 5,none,.mov (.t 15),0,[]⟩]))) (.cond (.t 5) (.seq (.reg [⟨some 4,none,.mov (.c (.v (.int .i64 1))),0,[]⟩]) .ret)
  (.seq (.reg [⟨some 17,none,.faddr 0 (.t 2),0,[]⟩,⟨some 18,none,.load false 1 (.t 17),0,[]⟩,⟨some 19,none,.bin .eql (.t 18) (.c (.v (.int .i64 4))),0,[]⟩,⟨some 20,none,
 .mov (.t 19),0,[]⟩,⟨some 21,some (20,true),.mov (.t 1),0,[]⟩,⟨some 22,some (20,true),.bin .geq (.t 21) (.c (.v (.int .i64 1))),0,[]⟩,⟨some 23,none,.pick (.t 20) (.t 22)
  (.c (.v (.bool false))),0,[]⟩,⟨some 24,none,.mov (.t 23),0,[]⟩,⟨some 25,some (24,true),.mov (.t 1),0,[]⟩,⟨some 26,some (24,true),.faddr 3 (.t 2),0,[]⟩,⟨some 27,
 some (24,true),.load false 1 (.t 26),0,[]⟩,⟨some 28,some (24,true),.lenS (.t 27),0,[]⟩,⟨some 29,some (24,true),.bin .leq (.t 25) (.t 28),0,[]⟩,⟨some 30,none,
 .pick (.t 24) (.t 29) (.c (.v (.bool false))),0,[]⟩,⟨some 16,none,.mov (.t 30),0,[]⟩]) (.cond (.t 16) (.seq (.reg [⟨some 31,none,.faddr 3 (.t 2),0,[]⟩,⟨some 32,none,
 .load false 1 (.t 31),0,[]⟩,⟨some 33,none,.mov (.t 1),0,[]⟩,⟨some 34,none,.bin .sub (.t 33) (.c (.v (.int .i64 1))),0,[]⟩,⟨some 35,none,.iaddr 1 (.t 32) (.t 34),0,[]⟩,
 ⟨some 36,none,.load false 1 (.t 35),0,[]⟩,⟨some 37,none,.max (.c (.v (.int .i64 0))) (.t 36),0,[]⟩,⟨some 4,none,.mov (.t 37),0,[]⟩]) .ret) .skip)))))
  (.seq (.reg [⟨some 4,none,.mov (.c (.v (.int .i64 0))),0,[]⟩]) .ret))⟩
theorem pf72_is : pfs 72 = some pf72 := by kernel_rfl
-- euclid/lambda.lift$1
def pf73 : PF := ⟨15,[.c 5 true 5],.seq (.reg [⟨some 5,none,.alloc [.v (.int .i64 0),.v (.int .i64 0),.v (.string (ByteArray.mk #[])),.sl [] .nil,.sl [] .nil],0,[]⟩])
  (.seq (.seq (.reg [⟨some 6,none,.mov (.t 0),0,[]⟩,⟨some 7,none,.mov (.t 1),0,[]⟩,⟨some 8,none,.bin .geq (.t 6) (.t 7),0,[]⟩]) (.cond (.t 8) (.seq (.reg [⟨some 9,none,
 .mov (.t 0),0,[]⟩,⟨some 10,none,.load false 1 (.t 2),0,[]⟩,⟨some 11,none,.bin .add (.t 9) (.t 10),0,[]⟩,⟨some 12,none,.call (.c (.fn 46 [])) [.t 11],0,[]⟩,⟨none,none,
 .store 5 (.t 5) (.t 12),0,[]⟩]) .ret) .skip)) (.seq (.reg [⟨some 13,none,.mov (.t 0),0,[]⟩,⟨some 14,none,.call (.c (.fn 46 [])) [.t 13],0,[]⟩,⟨none,none,.store 5 (.t 5)
  (.t 14),0,[]⟩]) .ret))⟩
theorem pf73_is : pfs 73 = some pf73 := by kernel_rfl
-- euclid/euclidref55.shift
def pf74 : PF := ⟨47,[.c 6 true 5],.seq (.reg [⟨some 3,none,.box (.t 0),0,[]⟩,⟨some 6,none,.alloc [.v (.int .i64 0),.v (.int .i64 0),.v (.string (ByteArray.mk #[])),.sl [] .nil,.sl []
  .nil],0,[]⟩]) (.seq (.seq (.reg [⟨some 9,none,.faddr 0 (.t 3),0,[]⟩,⟨some 10,none,.load false 1 (.t 9),0,[]⟩,⟨some 11,none,.bin .eql (.t 10) (.c (.v (.int .i64 0))),0,
 []⟩]) (.cond (.t 11) (.seq (.seq (.reg [⟨some 12,none,.faddr 1 (.t 3),0,[]⟩,⟨some 13,none,.load false 1 (.t 12),0,[]⟩,⟨some 14,none,.mov (.t 2),0,[]⟩,⟨some 15,none,
 .bin .geq (.t 13) (.t 14),0,[]⟩]) (.cond (.t 15) (.reg [⟨some 16,none,.faddr 1 (.t 3),0,[]⟩,⟨some 17,none,.load false 1 (.t 16),0,[]⟩,⟨some 18,none,.mov (.t 1),0,[]⟩,
 ⟨some 19,none,.bin .add (.t 17) (.t 18),0,[]⟩,⟨some 20,none,.faddr 1 (.t 3),0,[]⟩,⟨none,none,.store 1 (.t 20) (.t 19),0,[]⟩]) .skip)) (.seq (.reg [⟨some 21,none,
 .load true 5 (.t 3),0,[]⟩,⟨none,none,.store 5 (.t 6) (.t 21),0,[]⟩]) .ret)) .skip)) (.seq (.reg [⟨some 7,none,.mov (.c (.sl [] .nil)),0,[]⟩]) (.seq (.seq (.reg [⟨some 8,
 none,.mov (.c (.v (.int .i64 0))),0,[]⟩]) (.block 0 (.loop (.seq (.seq (.reg [⟨some 22,none,.mov (.t 8),0,[]⟩,⟨some 23,none,.faddr 4 (.t 3),0,[]⟩,⟨some 24,none,
 .load false 1 (.t 23),0,[]⟩,⟨some 25,none,.lenS (.t 24),0,[]⟩,⟨some 26,none,.bin .lss (.t 22) (.t 25),0,[]⟩]) (.cond (.t 26) .skip (.exit 0)))
  (.seq (.block 1 (.dreg [14,0] [⟨some 29,none,.mov (.t 7),0,[]⟩,⟨some 30,none,.faddr 4 (.t 3),1,[]⟩,⟨some 31,none,.load false 1 (.t 30),2,[1]⟩,⟨some 32,none,.mov (.t 8),
 3,[]⟩,⟨some 33,none,.iaddr 5 (.t 31) (.t 32),4,[3,2,1]⟩,⟨some 34,none,.load true 5 (.t 33),5,[4,3,2,1]⟩,⟨some 35,none,.mov (.t 1),6,[]⟩,⟨some 36,none,.mov (.t 2),7,[]⟩,
 ⟨some 37,none,.load true 5 (.t 3),8,[]⟩,⟨some 38,none,.mov (.t 8),9,[]⟩,⟨some 39,none,.call (.c (.fn 75 [])) [.t 37,.t 38],10,[9,8]⟩,⟨some 40,none,.bin .add (.t 36)
  (.t 39),11,[10,9,8,7]⟩,⟨some 41,none,.call (.c (.fn 74 [])) [.t 34,.t 35,.t 40],12,[11,10,9,8,7,6,5,4,3,2,1]⟩,⟨some 42,none,.bsl (.agg [.v (.int .i64 0),
 .v (.int .i64 0),.v (.string (ByteArray.mk #[])),.sl [] .nil,.sl [] .nil]) 1 [(0,5,.t 41)],13,[12,11,10,9,8,7,6,5,4,3,2,1]⟩,⟨some 43,none,.app 5 none (.t 29) (.t 42),14,
 [13,12,11,10,9,8,7,6,5,4,3,2,1,0]⟩,⟨some 7,none,.mov (.t 43),15,[14,13,12,11,10,9,8,7,6,5,4,3,2,1,0]⟩])) (.reg [⟨some 27,none,.mov (.t 8),0,[]⟩,⟨some 28,none,
 .bin .add (.t 27) (.c (.v (.int .i64 1))),0,[]⟩,⟨some 8,none,.mov (.t 28),0,[]⟩])))))) (.seq (.reg [⟨some 44,none,.load true 5 (.t 3),0,[]⟩,⟨some 45,none,.mov (.t 7),0,
 []⟩,⟨some 46,none,.call (.c (.fn 76 [])) [.t 44,.t 45],0,[]⟩,⟨none,none,.store 5 (.t 6) (.t 46),0,[]⟩]) .ret))))⟩
theorem pf74_is : pfs 74 = some pf74 := by kernel_rfl
-- euclid/euclidref55.binds
def pf75 : PF := ⟨38,[.t 4],.seq (.reg [⟨some 2,none,.box (.t 0),0,[]⟩,⟨some 4,none,.mov (.c (.v (.int .i64 0))),0,[]⟩]) (.seq (.block 0 (.seq (.seq (.reg [⟨some 6,none,.faddr 0 (.t 2),
 0,[]⟩,⟨some 7,none,.load false 1 (.t 6),0,[]⟩,⟨some 8,none,.bin .eql (.t 7) (.c (.v (.int .i64 1))),0,[]⟩,⟨some 5,none,.mov (.t 8),0,[]⟩]) (.cond (.t 5)
  .skip (.reg [⟨some 9,none,.faddr 0 (.t 2),0,[]⟩,⟨some 10,none,.load false 1 (.t 9),0,[]⟩,⟨some 11,none,.bin .eql (.t 10) (.c (.v (.int .i64 7))),0,[]⟩,⟨some 12,none,
 .mov (.t 11),0,[]⟩,⟨some 13,some (12,true),.mov (.t 1),0,[]⟩,⟨some 14,some (12,true),.bin .eql (.t 13) (.c (.v (.int .i64 1))),0,[]⟩,⟨some 15,none,.pick (.t 12) (.t 14)
  (.c (.v (.bool false))),0,[]⟩,⟨some 5,none,.mov (.t 15),0,[]⟩]))) (.cond (.t 5) (.seq (.reg [⟨some 4,none,.mov (.c (.v (.int .i64 1))),0,[]⟩]) .ret)
  (.seq (.reg [⟨some 17,none,.faddr 0 (.t 2),0,[]⟩,⟨some 18,none,.load false 1 (.t 17),0,[]⟩,⟨some 19,none,.bin .eql (.t 18) (.c (.v (.int .i64 4))),0,[]⟩,⟨some 20,none,
 .mov (.t 19),0,[]⟩,⟨some 21,some (20,true),.mov (.t 1),0,[]⟩,⟨some 22,some (20,true),.bin .gtr (.t 21) (.c (.v (.int .i64 0))),0,[]⟩,⟨some 23,none,.pick (.t 20) (.t 22)
  (.c (.v (.bool false))),0,[]⟩,⟨some 24,none,.mov (.t 23),0,[]⟩,⟨some 25,some (24,true),.mov (.t 1),0,[]⟩,⟨some 26,some (24,true),.faddr 3 (.t 2),0,[]⟩,⟨some 27,
 some (24,true),.load false 1 (.t 26),0,[]⟩,⟨some 28,some (24,true),.lenS (.t 27),0,[]⟩,⟨some 29,some (24,true),.bin .leq (.t 25) (.t 28),0,[]⟩,⟨some 30,none,
 .pick (.t 24) (.t 29) (.c (.v (.bool false))),0,[]⟩,⟨some 16,none,.mov (.t 30),0,[]⟩]) (.cond (.t 16) (.seq (.reg [⟨some 31,none,.faddr 3 (.t 2),0,[]⟩,⟨some 32,none,
 .load false 1 (.t 31),0,[]⟩,⟨some 33,none,.mov (.t 1),0,[]⟩,⟨some 34,none,.bin .sub (.t 33) (.c (.v (.int .i64 1))),0,[]⟩,⟨some 35,none,.iaddr 1 (.t 32) (.t 34),0,[]⟩,
 ⟨some 36,none,.load false 1 (.t 35),0,[]⟩,⟨some 37,none,.max (.c (.v (.int .i64 0))) (.t 36),0,[]⟩,⟨some 4,none,.mov (.t 37),0,[]⟩]) .ret) .skip)))))
  (.seq (.reg [⟨some 4,none,.mov (.c (.v (.int .i64 0))),0,[]⟩]) .ret))⟩
theorem pf75_is : pfs 75 = some pf75 := by kernel_rfl
-- euclid/euclidref55.with
def pf76 : PF := ⟨15,[.c 4 true 5],.seq (.reg [⟨some 2,none,.box (.t 0),0,[]⟩,⟨some 4,none,.alloc [.v (.int .i64 0),.v (.int .i64 0),.v (.string (ByteArray.mk #[])),.sl [] .nil,.sl []
  .nil],0,[]⟩]) (.seq (.reg [⟨some 5,none,.faddr 0 (.t 2),0,[]⟩,⟨some 6,none,.load false 1 (.t 5),0,[]⟩,⟨some 7,none,.faddr 1 (.t 2),0,[]⟩,⟨some 8,none,
 .load false 1 (.t 7),0,[]⟩,⟨some 9,none,.faddr 2 (.t 2),0,[]⟩,⟨some 10,none,.load false 1 (.t 9),0,[]⟩,⟨some 11,none,.faddr 3 (.t 2),0,[]⟩,⟨some 12,none,
 .load false 1 (.t 11),0,[]⟩,⟨some 13,none,.mov (.t 1),0,[]⟩,⟨some 14,none,.build [.v (.int .i64 0),.v (.int .i64 0),.v (.string (ByteArray.mk #[])),.sl [] .nil,.sl []
  .nil] [(0,1,.t 6),(1,1,.t 8),(2,1,.t 10),(3,1,.t 12),(4,1,.t 13)],0,[]⟩,⟨none,none,.store 5 (.t 4) (.t 14),0,[]⟩]) .ret)⟩
theorem pf76_is : pfs 76 = some pf76 := by kernel_rfl
-- slices.ContainsFunc[[]euclid/api.Expr,euclid/api.Expr]
def pf77 : PF := ⟨9,[.t 4],.seq (.reg [⟨some 4,none,.mov (.c (.v (.bool false))),0,[]⟩]) (.seq (.reg [⟨some 5,none,.mov (.t 0),0,[]⟩,⟨some 6,none,.mov (.t 1),0,[]⟩,⟨some 7,none,
 .call (.c (.fn 86 [])) [.t 5,.t 6],0,[]⟩,⟨some 8,none,.bin .geq (.t 7) (.c (.v (.int .i64 0))),0,[]⟩,⟨some 4,none,.mov (.t 8),0,[]⟩]) .ret)⟩
theorem pf77_is : pfs 77 = some pf77 := by kernel_rfl
-- euclid/lambda.isValue$1
def pf78 : PF := ⟨6,[.t 2],.seq (.reg [⟨some 1,none,.box (.t 0),0,[]⟩,⟨some 2,none,.mov (.c (.v (.bool false))),0,[]⟩]) (.seq (.reg [⟨some 3,none,.load true 5 (.t 1),0,[]⟩,⟨some 4,none,
 .call (.c (.fn 49 [])) [.t 3],0,[]⟩,⟨some 5,none,.un .not (.t 4),0,[]⟩,⟨some 2,none,.mov (.t 5),0,[]⟩]) .ret)⟩
theorem pf78_is : pfs 78 = some pf78 := by kernel_rfl
-- euclid/lambda.find
def pf79 : PF := ⟨19,[.c 4 true 5],.seq (.reg [⟨some 2,none,.box (.t 0),0,[]⟩,⟨some 3,none,.box (.t 1),0,[]⟩,⟨some 4,none,.alloc [.v (.int .i64 0),.v (.int .i64 0),
 .v (.string (ByteArray.mk #[])),.sl [] .nil,.sl [] .nil],0,[]⟩]) (.seq (.reg [⟨some 6,none,.faddr 0 (.t 2),0,[]⟩,⟨some 7,none,.load false 1 (.t 6),0,[]⟩,⟨some 8,none,
 .mkfn 88 [.t 3],0,[]⟩,⟨some 9,none,.call (.c (.fn 87 [])) [.t 7,.t 8],0,[]⟩,⟨some 5,none,.mov (.t 9),0,[]⟩]) (.seq (.reg [⟨some 10,none,.mov (.t 5),0,[]⟩,⟨some 11,none,
 .bin .geq (.t 10) (.c (.v (.int .i64 0))),0,[]⟩,⟨some 12,none,.call (.c (.fn 37 [])) [.t 11,.c (.v (.int .i64 9))],0,[]⟩]) (.seq (.reg [⟨some 13,none,.faddr 0 (.t 2),0,
 []⟩,⟨some 14,none,.load false 1 (.t 13),0,[]⟩,⟨some 15,none,.mov (.t 5),0,[]⟩,⟨some 16,none,.iaddr 6 (.t 14) (.t 15),0,[]⟩,⟨some 17,none,.faddr 1 (.t 16),0,[]⟩,⟨some 18,
 none,.load true 5 (.t 17),0,[]⟩,⟨none,none,.store 5 (.t 4) (.t 18),0,[]⟩]) .ret)))⟩
theorem pf79_is : pfs 79 = some pf79 := by kernel_rfl
-- slices.Clone[[]euclid/api.Expr,euclid/api.Expr]
def pf80 : PF := ⟨8,[.t 2],.seq (.reg [⟨some 2,none,.mov (.c (.sl [] .nil)),0,[]⟩]) (.seq (.seq (.reg [⟨some 3,none,.mov (.t 0),0,[]⟩,⟨some 4,none,.eqs false (.t 3) (.c (.sl [] .nil)),0,
 []⟩]) (.cond (.t 4) (.seq (.reg [⟨some 2,none,.mov (.c (.sl [] .nil)),0,[]⟩]) .ret) .skip)) (.seq (.reg [⟨some 5,none,.bsl (.agg [.v (.int .i64 0),.v (.int .i64 0),
 .v (.string (ByteArray.mk #[])),.sl [] .nil,.sl [] .nil]) 0 [],0,[]⟩,⟨some 6,none,.mov (.t 0),0,[]⟩,⟨some 7,none,.app 5 none (.t 5) (.t 6),0,[]⟩,⟨some 2,none,.mov (.t 7)
 ,0,[]⟩]) .ret))⟩
theorem pf80_is : pfs 80 = some pf80 := by kernel_rfl
-- euclid/lambda.contract
def pf81 : PF := ⟨92,[.c 2 true 5],.seq (.reg [⟨some 1,none,.box (.t 0),0,[]⟩,⟨some 2,none,.alloc [.v (.int .i64 0),.v (.int .i64 0),.v (.string (ByteArray.mk #[])),.sl [] .nil,.sl []
  .nil],0,[]⟩]) (.seq (.reg [⟨some 5,none,.faddr 4 (.t 1),0,[]⟩,⟨some 6,none,.load false 1 (.t 5),0,[]⟩,⟨some 7,none,.iaddr 5 (.t 6) (.c (.v (.int .i64 0))),0,[]⟩,
 ⟨some 8,none,.load true 5 (.t 7),0,[]⟩,⟨some 3,none,.alloc [.v (.int .i64 0),.v (.int .i64 0),.v (.string (ByteArray.mk #[])),.sl [] .nil,.sl [] .nil],0,[]⟩,⟨none,none,
 .store 5 (.t 3) (.t 8),0,[]⟩]) (.seq (.seq (.reg [⟨some 9,none,.faddr 0 (.t 1),0,[]⟩,⟨some 10,none,.load false 1 (.t 9),0,[]⟩]) (.block 0 (.seq (.reg [⟨some 12,none,
 .bin .eql (.t 10) (.c (.v (.int .i64 7))),0,[]⟩,⟨some 11,none,.mov (.t 12),0,[]⟩]) (.cond (.t 11) (.seq (.dreg [7,0] [⟨some 13,none,.faddr 4 (.t 1),0,[]⟩,⟨some 14,none,
 .load false 1 (.t 13),1,[0]⟩,⟨some 15,none,.iaddr 5 (.t 14) (.c (.v (.int .i64 1))),2,[1,0]⟩,⟨some 16,none,.load true 5 (.t 15),3,[2,1,0]⟩,⟨some 17,none,.faddr 4 (.t 1),
 4,[]⟩,⟨some 18,none,.load false 1 (.t 17),5,[4]⟩,⟨some 19,none,.slice 5 (.t 18) none (some (.c (.v (.int .i64 1)))) none,6,[5,4]⟩,⟨some 20,none,.call (.c (.fn 18 []))
  [.t 16,.t 19],7,[6,5,4,3,2,1,0]⟩,⟨none,none,.store 5 (.t 2) (.t 20),8,[7,6,5,4,3,2,1,0]⟩]) .ret) (.seq (.reg [⟨some 22,none,.bin .eql (.t 10) (.c (.v (.int .i64 4))),0,
 []⟩,⟨some 21,none,.mov (.t 22),0,[]⟩]) (.cond (.t 21) (.seq (.dreg [0,0,0,0,5,0,0,9,0,0] [⟨some 23,none,.faddr 0 (.t 3),0,[]⟩,⟨some 24,none,.load false 1 (.t 23),1,[0]⟩,
 ⟨some 25,none,.bin .eql (.t 24) (.c (.v (.int .i64 3))),2,[1,0]⟩,⟨some 26,none,.mov (.t 25),3,[2,1,0]⟩,⟨some 27,some (26,true),.faddr 1 (.t 3),4,[3,2,1,0]⟩,⟨some 28,
 some (26,true),.load false 1 (.t 27),5,[4,3,2,1,0]⟩,⟨some 29,some (26,true),.faddr 3 (.t 1),6,[3,2,1,0]⟩,⟨some 30,some (26,true),.load false 1 (.t 29),7,[6,3,2,1,0]⟩,
 ⟨some 31,some (26,true),.lenS (.t 30),8,[7,6,3,2,1,0]⟩,⟨some 32,some (26,true),.bin .lss (.t 28) (.t 31),9,[8,7,6,5,4,3,2,1,0]⟩,⟨some 33,none,.pick (.t 26) (.t 32)
  (.c (.v (.bool false))),10,[9,8,7,6,5,4,3,2,1,0]⟩,⟨some 34,none,.mov (.t 33),11,[10,9,8,7,6,5,4,3,2,1,0]⟩,⟨some 35,some (34,true),.faddr 4 (.t 3),12,[11,10,9,8,7,6,5,4,
 3,2,1,0]⟩,⟨some 36,some (34,true),.load false 1 (.t 35),13,[12,11,10,9,8,7,6,5,4,3,2,1,0]⟩,⟨some 37,some (34,true),.lenS (.t 36),14,[13,12,11,10,9,8,7,6,5,4,3,2,1,0]⟩,
 ⟨some 38,some (34,true),.faddr 3 (.t 1),15,[11,10,9,8,7,6,5,4,3,2,1,0]⟩,⟨some 39,some (34,true),.load false 1 (.t 38),16,[15,11,10,9,8,7,6,5,4,3,2,1,0]⟩,⟨some 40,
 some (34,true),.faddr 1 (.t 3),17,[11,10,9,8,7,6,5,4,3,2,1,0]⟩,⟨some 41,some (34,true),.load false 1 (.t 40),18,[17,11,10,9,8,7,6,5,4,3,2,1,0]⟩,⟨some 42,some (34,true),
 .iaddr 1 (.t 39) (.t 41),19,[18,17,16,15,11,10,9,8,7,6,5,4,3,2,1,0]⟩,⟨some 43,some (34,true),.load false 1 (.t 42),20,[19,18,17,16,15,11,10,9,8,7,6,5,4,3,2,1,0]⟩,
 ⟨some 44,some (34,true),.bin .eql (.t 37) (.t 43),21,[20,19,18,17,16,15,14,13,12,11,10,9,8,7,6,5,4,3,2,1,0]⟩,⟨some 45,none,.pick (.t 34) (.t 44) (.c (.v (.bool false))),
 22,[21,20,19,18,17,16,15,14,13,12,11,10,9,8,7,6,5,4,3,2,1,0]⟩,⟨some 46,none,.call (.c (.fn 37 [])) [.t 45,.c (.v (.int .i64 10))],23,[22,21,20,19,18,17,16,15,14,13,12,
 11,10,9,8,7,6,5,4,3,2,1,0]⟩]) (.seq (.reg [⟨some 47,none,.faddr 4 (.t 3),0,[]⟩,⟨some 48,none,.load false 1 (.t 47),0,[]⟩,⟨some 49,none,.clone 5 true (.t 48),0,[]⟩,
 ⟨some 4,none,.mov (.t 49),0,[]⟩]) (.seq (.reg [⟨some 50,none,.mov (.t 4),0,[]⟩,⟨some 51,none,.call (.c (.fn 89 [])) [.t 50],0,[]⟩]) (.seq (.reg [⟨some 52,none,
 .faddr 4 (.t 1),0,[]⟩,⟨some 53,none,.load false 1 (.t 52),0,[]⟩,⟨some 54,none,.faddr 1 (.t 3),0,[]⟩,⟨some 55,none,.load false 1 (.t 54),0,[]⟩,⟨some 56,none,
 .bin .add (.c (.v (.int .i64 1))) (.t 55),0,[]⟩,⟨some 57,none,.iaddr 5 (.t 53) (.t 56),0,[]⟩,⟨some 58,none,.load true 5 (.t 57),0,[]⟩,⟨some 59,none,.mov (.t 4),0,[]⟩,
 ⟨some 60,none,.call (.c (.fn 18 [])) [.t 58,.t 59],0,[]⟩,⟨none,none,.store 5 (.t 2) (.t 60),0,[]⟩]) .ret)))) (.seq (.reg [⟨some 62,none,.bin .eql (.t 10)
  (.c (.v (.int .i64 2))),0,[]⟩,⟨some 61,none,.mov (.t 62),0,[]⟩]) (.cond (.t 61) (.seq (.reg [⟨some 63,none,.faddr 0 (.t 3),0,[]⟩,⟨some 64,none,.load false 1 (.t 63),0,
 []⟩,⟨some 65,none,.bin .eql (.t 64) (.c (.v (.int .i64 1))),0,[]⟩]) (.cond (.t 65) (.seq (.dreg [7,0] [⟨some 66,none,.faddr 4 (.t 3),0,[]⟩,⟨some 67,none,
 .load false 1 (.t 66),1,[0]⟩,⟨some 68,none,.iaddr 5 (.t 67) (.c (.v (.int .i64 0))),2,[1,0]⟩,⟨some 69,none,.load true 5 (.t 68),3,[2,1,0]⟩,⟨some 70,none,.faddr 4 (.t 1),
 4,[]⟩,⟨some 71,none,.load false 1 (.t 70),5,[4]⟩,⟨some 72,none,.slice 5 (.t 71) (some (.c (.v (.int .i64 1)))) none none,6,[5,4]⟩,⟨some 73,none,.call (.c (.fn 18 []))
  [.t 69,.t 72],7,[6,5,4,3,2,1,0]⟩,⟨none,none,.store 5 (.t 2) (.t 73),8,[7,6,5,4,3,2,1,0]⟩]) .ret) .skip)) (.seq (.seq (.reg [⟨some 75,none,.bin .eql (.t 10)
  (.c (.v (.int .i64 9))),0,[]⟩,⟨some 74,none,.mov (.t 75),0,[]⟩]) (.cond (.t 74) .skip (.reg [⟨some 76,none,.bin .eql (.t 10) (.c (.v (.int .i64 10))),0,[]⟩,⟨some 74,
 none,.mov (.t 76),0,[]⟩]))) (.cond (.t 74) (.seq (.reg [⟨some 77,none,.faddr 0 (.t 3),0,[]⟩,⟨some 78,none,.load false 1 (.t 77),0,[]⟩,⟨some 79,none,.bin .eql (.t 78)
  (.c (.v (.int .i64 8))),0,[]⟩]) (.cond (.t 79) (.seq (.reg [⟨some 80,none,.faddr 4 (.t 3),0,[]⟩,⟨some 81,none,.load false 1 (.t 80),0,[]⟩,⟨some 82,none,.faddr 0 (.t 1),
 0,[]⟩,⟨some 83,none,.load false 1 (.t 82),0,[]⟩,⟨some 84,none,.bin .sub (.t 83) (.c (.v (.int .i64 9))),0,[]⟩,⟨some 85,none,.iaddr 5 (.t 81) (.t 84),0,[]⟩,⟨some 86,none,
 .load true 5 (.t 85),0,[]⟩,⟨none,none,.store 5 (.t 2) (.t 86),0,[]⟩]) .ret) .skip)) .skip)))))))))) (.seq (.reg [⟨some 87,none,.faddr 0 (.t 3),0,[]⟩,⟨some 88,none,
 .load false 1 (.t 87),0,[]⟩,⟨some 89,none,.bin .eql (.t 88) (.c (.v (.int .i64 6))),0,[]⟩,⟨some 90,none,.call (.c (.fn 37 [])) [.t 89,.c (.v (.int .i64 10))],0,[]⟩])
  (.seq (.reg [⟨some 91,none,.load true 5 (.t 3),0,[]⟩,⟨none,none,.store 5 (.t 2) (.t 91),0,[]⟩]) .ret))))⟩
theorem pf81_is : pfs 81 = some pf81 := by kernel_rfl
-- euclid/lambda.named
def pf82 : PF := ⟨9,[.t 2],.seq (.reg [⟨some 2,none,.mov (.c (.v (.bool false))),0,[]⟩]) (.seq (.reg [⟨some 3,none,.mov (.t 0),0,[]⟩,⟨some 4,none,.bin .eql (.t 3) (.c (.v (.int .i64 3)))
 ,0,[]⟩,⟨some 5,none,.mov (.t 4),0,[]⟩,⟨some 6,some (5,false),.mov (.t 0),0,[]⟩,⟨some 7,some (5,false),.bin .eql (.t 6) (.c (.v (.int .i64 5))),0,[]⟩,⟨some 8,none,
 .pick (.t 5) (.c (.v (.bool true))) (.t 7),0,[]⟩,⟨some 2,none,.mov (.t 8),0,[]⟩]) .ret)⟩
theorem pf82_is : pfs 82 = some pf82 := by kernel_rfl
-- euclid/euclidref55.shape
def pf83 : PF := ⟨32,[.t 2,.t 3,.t 4],.seq (.reg [⟨some 1,none,.box (.t 0),0,[]⟩,⟨some 2,none,.mov (.c (.v (.int .i64 0))),0,[]⟩,⟨some 3,none,.mov (.c (.v (.int .i64 0))),0,[]⟩,⟨some 4,
 none,.mov (.c (.v (.bool false))),0,[]⟩]) (.seq (.seq (.reg [⟨some 5,none,.faddr 0 (.t 1),0,[]⟩,⟨some 6,none,.load false 1 (.t 5),0,[]⟩])
  (.block 0 (.seq (.seq (.reg [⟨some 8,none,.bin .eql (.t 6) (.c (.v (.int .i64 0))),0,[]⟩,⟨some 7,none,.mov (.t 8),0,[]⟩]) (.cond (.t 7) .skip (.seq (.reg [⟨some 9,none,
 .bin .eql (.t 6) (.c (.v (.int .i64 5))),0,[]⟩,⟨some 7,none,.mov (.t 9),0,[]⟩]) (.cond (.t 7) .skip (.seq (.reg [⟨some 10,none,.bin .eql (.t 6) (.c (.v (.int .i64 6))),
 0,[]⟩,⟨some 7,none,.mov (.t 10),0,[]⟩]) (.cond (.t 7) .skip (.reg [⟨some 11,none,.bin .eql (.t 6) (.c (.v (.int .i64 11))),0,[]⟩,⟨some 7,none,.mov (.t 11),0,[]⟩])))))))
  (.cond (.t 7) (.seq (.reg [⟨some 2,none,.mov (.c (.v (.int .i64 0))),0,[]⟩,⟨some 3,none,.mov (.c (.v (.int .i64 0))),0,[]⟩,⟨some 4,none,.mov (.c (.v (.bool true))),0,[]
 ⟩]) .ret) (.seq (.seq (.reg [⟨some 13,none,.bin .eql (.t 6) (.c (.v (.int .i64 1))),0,[]⟩,⟨some 12,none,.mov (.t 13),0,[]⟩]) (.cond (.t 12) .skip (.seq (.reg [⟨some 14,
 none,.bin .eql (.t 6) (.c (.v (.int .i64 9))),0,[]⟩,⟨some 12,none,.mov (.t 14),0,[]⟩]) (.cond (.t 12) .skip (.reg [⟨some 15,none,.bin .eql (.t 6) (.c (.v (.int .i64 10))
 ),0,[]⟩,⟨some 12,none,.mov (.t 15),0,[]⟩]))))) (.cond (.t 12) (.seq (.reg [⟨some 2,none,.mov (.c (.v (.int .i64 1))),0,[]⟩,⟨some 3,none,.mov (.c (.v (.int .i64 1))),0,[]
 ⟩,⟨some 4,none,.mov (.c (.v (.bool true))),0,[]⟩]) .ret) (.seq (.seq (.reg [⟨some 17,none,.bin .eql (.t 6) (.c (.v (.int .i64 2))),0,[]⟩,⟨some 16,none,.mov (.t 17),0,[]⟩
 ]) (.cond (.t 16) .skip (.seq (.reg [⟨some 18,none,.bin .eql (.t 6) (.c (.v (.int .i64 7))),0,[]⟩,⟨some 16,none,.mov (.t 18),0,[]⟩]) (.cond (.t 16)
  .skip (.reg [⟨some 19,none,.bin .eql (.t 6) (.c (.v (.int .i64 8))),0,[]⟩,⟨some 16,none,.mov (.t 19),0,[]⟩]))))) (.cond (.t 16) (.seq (.reg [⟨some 2,none,
 .mov (.c (.v (.int .i64 2))),0,[]⟩,⟨some 3,none,.mov (.c (.v (.int .i64 2))),0,[]⟩,⟨some 4,none,.mov (.c (.v (.bool true))),0,[]⟩]) .ret) (.seq (.reg [⟨some 21,none,
 .bin .eql (.t 6) (.c (.v (.int .i64 3))),0,[]⟩,⟨some 20,none,.mov (.t 21),0,[]⟩]) (.cond (.t 20) (.seq (.reg [⟨some 2,none,.mov (.c (.v (.int .i64 0))),0,[]⟩,⟨some 3,
 none,.mov (.c (.v (.int .i64 4096))),0,[]⟩,⟨some 4,none,.mov (.c (.v (.bool true))),0,[]⟩]) .ret) (.seq (.reg [⟨some 23,none,.bin .eql (.t 6) (.c (.v (.int .i64 4))),0,
 []⟩,⟨some 22,none,.mov (.t 23),0,[]⟩]) (.cond (.t 22) (.seq (.dreg [9,0] [⟨some 24,none,.faddr 3 (.t 1),0,[]⟩,⟨some 25,none,.load false 1 (.t 24),1,[0]⟩,⟨some 26,none,
 .lenS (.t 25),2,[1,0]⟩,⟨some 27,none,.bin .add (.t 26) (.c (.v (.int .i64 1))),3,[2,1,0]⟩,⟨some 28,none,.faddr 3 (.t 1),4,[]⟩,⟨some 29,none,.load false 1 (.t 28),5,[4]⟩,
 ⟨some 30,none,.lenS (.t 29),6,[5,4]⟩,⟨some 31,none,.bin .add (.t 30) (.c (.v (.int .i64 1))),7,[6,5,4]⟩,⟨some 2,none,.mov (.t 27),8,[3,2,1,0]⟩,⟨some 3,none,.mov (.t 31),
 9,[8,3,2,1,0,7,6,5,4]⟩,⟨some 4,none,.mov (.c (.v (.bool true))),10,[9,8,3,2,1,0,7,6,5,4]⟩]) .ret) .skip)))))))))))) (.seq (.reg [⟨some 2,none,.mov (.c (.v (.int .i64 0))
 ),0,[]⟩,⟨some 3,none,.mov (.c (.v (.int .i64 0))),0,[]⟩,⟨some 4,none,.mov (.c (.v (.bool false))),0,[]⟩]) .ret))⟩
theorem pf83_is : pfs 83 = some pf83 := by kernel_rfl
-- slices.ContainsFunc[[]int,int]
def pf84 : PF := ⟨9,[.t 4],.seq (.reg [⟨some 4,none,.mov (.c (.v (.bool false))),0,[]⟩]) (.seq (.reg [⟨some 5,none,.mov (.t 0),0,[]⟩,⟨some 6,none,.mov (.t 1),0,[]⟩,⟨some 7,none,
 .call (.c (.fn 90 [])) [.t 5,.t 6],0,[]⟩,⟨some 8,none,.bin .geq (.t 7) (.c (.v (.int .i64 0))),0,[]⟩,⟨some 4,none,.mov (.t 8),0,[]⟩]) .ret)⟩
theorem pf84_is : pfs 84 = some pf84 := by kernel_rfl
-- euclid/lambda.cases$1
def pf85 : PF := ⟨9,[.t 2],.seq (.reg [⟨some 2,none,.mov (.c (.v (.bool false))),0,[]⟩]) (.seq (.reg [⟨some 3,none,.mov (.t 0),0,[]⟩,⟨some 4,none,.bin .lss (.t 3) (.c (.v (.int .i64 0)))
 ,0,[]⟩,⟨some 5,none,.mov (.t 4),0,[]⟩,⟨some 6,some (5,false),.mov (.t 0),0,[]⟩,⟨some 7,some (5,false),.bin .gtr (.t 6) (.c (.v (.int .i64 64))),0,[]⟩,⟨some 8,none,
 .pick (.t 5) (.c (.v (.bool true))) (.t 7),0,[]⟩,⟨some 2,none,.mov (.t 8),0,[]⟩]) .ret)⟩
theorem pf85_is : pfs 85 = some pf85 := by kernel_rfl
-- slices.IndexFunc[[]euclid/api.Expr,euclid/api.Expr]
def pf86 : PF := ⟨19,[.t 4],.seq (.reg [⟨some 4,none,.mov (.c (.v (.int .i64 0))),0,[]⟩]) (.seq (.seq (.reg [⟨some 6,none,.mov (.t 0),0,[]⟩,⟨some 7,none,.lenS (.t 6),0,[]⟩,⟨some 8,none,
 .mov (.c (.v (.int .i64 0))),0,[]⟩]) (.block 0 (.loop (.seq (.reg [⟨some 9,none,.bin .lss (.t 8) (.t 7),0,[]⟩]) (.seq (.cond (.t 9) .skip (.exit 0))
  (.seq (.block 1 (.seq (.reg [⟨some 10,none,.mov (.t 8),0,[]⟩,⟨some 5,none,.mov (.t 10),0,[]⟩]) (.seq (.reg [⟨some 11,none,.mov (.t 1),0,[]⟩,⟨some 12,none,.mov (.t 0),0,
 []⟩,⟨some 13,none,.mov (.t 5),0,[]⟩,⟨some 14,none,.iaddr 5 (.t 12) (.t 13),0,[]⟩,⟨some 15,none,.load true 5 (.t 14),0,[]⟩,⟨some 16,none,.call (.t 11) [.t 15],0,[]⟩])
  (.cond (.t 16) (.seq (.reg [⟨some 17,none,.mov (.t 5),0,[]⟩,⟨some 4,none,.mov (.t 17),0,[]⟩]) .ret) .skip)))) (.reg [⟨some 18,none,.bin .add (.t 8)
  (.c (.v (.int .i64 1))),0,[]⟩,⟨some 8,none,.mov (.t 18),0,[]⟩]))))))) (.seq (.reg [⟨some 4,none,.mov (.c (.v (.int .i64 (-1)))),0,[]⟩]) .ret))⟩
theorem pf86_is : pfs 86 = some pf86 := by kernel_rfl
-- slices.IndexFunc[[]euclid/api.Global,euclid/api.Global]
def pf87 : PF := ⟨19,[.t 4],.seq (.reg [⟨some 4,none,.mov (.c (.v (.int .i64 0))),0,[]⟩]) (.seq (.seq (.reg [⟨some 6,none,.mov (.t 0),0,[]⟩,⟨some 7,none,.lenS (.t 6),0,[]⟩,⟨some 8,none,
 .mov (.c (.v (.int .i64 0))),0,[]⟩]) (.block 0 (.loop (.seq (.reg [⟨some 9,none,.bin .lss (.t 8) (.t 7),0,[]⟩]) (.seq (.cond (.t 9) .skip (.exit 0))
  (.seq (.block 1 (.seq (.reg [⟨some 10,none,.mov (.t 8),0,[]⟩,⟨some 5,none,.mov (.t 10),0,[]⟩]) (.seq (.reg [⟨some 11,none,.mov (.t 1),0,[]⟩,⟨some 12,none,.mov (.t 0),0,
 []⟩,⟨some 13,none,.mov (.t 5),0,[]⟩,⟨some 14,none,.iaddr 6 (.t 12) (.t 13),0,[]⟩,⟨some 15,none,.load true 6 (.t 14),0,[]⟩,⟨some 16,none,.call (.t 11) [.t 15],0,[]⟩])
  (.cond (.t 16) (.seq (.reg [⟨some 17,none,.mov (.t 5),0,[]⟩,⟨some 4,none,.mov (.t 17),0,[]⟩]) .ret) .skip)))) (.reg [⟨some 18,none,.bin .add (.t 8)
  (.c (.v (.int .i64 1))),0,[]⟩,⟨some 8,none,.mov (.t 18),0,[]⟩]))))))) (.seq (.reg [⟨some 4,none,.mov (.c (.v (.int .i64 (-1)))),0,[]⟩]) .ret))⟩
theorem pf87_is : pfs 87 = some pf87 := by kernel_rfl
-- euclid/lambda.find$1
def pf88 : PF := ⟨8,[.t 3],.seq (.reg [⟨some 2,none,.box (.t 0),0,[]⟩,⟨some 3,none,.mov (.c (.v (.bool false))),0,[]⟩]) (.seq (.reg [⟨some 4,none,.faddr 0 (.t 2),0,[]⟩,⟨some 5,none,
 .load false 1 (.t 4),0,[]⟩,⟨some 6,none,.load false 1 (.t 1),0,[]⟩,⟨some 7,none,.bin .eql (.t 5) (.t 6),0,[]⟩,⟨some 3,none,.mov (.t 7),0,[]⟩]) .ret)⟩
theorem pf88_is : pfs 88 = some pf88 := by kernel_rfl
-- slices.Reverse[[]euclid/api.Expr,euclid/api.Expr]
def pf89 : PF := ⟨28,[],.seq (.reg [⟨some 4,none,.mov (.t 0),0,[]⟩,⟨some 5,none,.lenS (.t 4),0,[]⟩,⟨some 6,none,.bin .sub (.t 5) (.c (.v (.int .i64 1))),0,[]⟩,⟨some 2,none,
 .mov (.c (.v (.int .i64 0))),0,[]⟩,⟨some 3,none,.mov (.t 6),0,[]⟩]) (.block 0 (.loop (.seq (.seq (.reg [⟨some 7,none,.mov (.t 2),0,[]⟩,⟨some 8,none,.mov (.t 3),0,[]⟩,
 ⟨some 9,none,.bin .lss (.t 7) (.t 8),0,[]⟩]) (.cond (.t 9) .skip (.exit 0))) (.seq (.block 1 (.dreg [14,0] [⟨some 14,none,.mov (.t 0),0,[]⟩,⟨some 15,none,.mov (.t 2),1,
 []⟩,⟨some 16,none,.mov (.t 0),2,[]⟩,⟨some 17,none,.mov (.t 3),3,[]⟩,⟨some 18,none,.mov (.t 0),4,[]⟩,⟨some 19,none,.mov (.t 3),5,[]⟩,⟨some 20,none,.iaddr 5 (.t 18)
  (.t 19),6,[5,4]⟩,⟨some 21,none,.load true 5 (.t 20),7,[6,5,4]⟩,⟨some 22,none,.mov (.t 0),8,[]⟩,⟨some 23,none,.mov (.t 2),9,[]⟩,⟨some 24,none,.iaddr 5 (.t 22) (.t 23),
 10,[9,8]⟩,⟨some 25,none,.load true 5 (.t 24),11,[10,9,8]⟩,⟨some 26,none,.iaddr 5 (.t 14) (.t 15),12,[11,10,9,8,7,6,5,4,1,0]⟩,⟨none,none,.store 5 (.t 26) (.t 21),13,[12,
 11,10,9,8,7,6,5,4,1,0]⟩,⟨some 27,none,.iaddr 5 (.t 16) (.t 17),14,[13,12,11,10,9,8,7,6,5,4,1,0,3,2]⟩,⟨none,none,.store 5 (.t 27) (.t 25),15,[14,13,12,11,10,9,8,7,6,5,4,
 1,0,3,2]⟩])) (.reg [⟨some 10,none,.mov (.t 2),0,[]⟩,⟨some 11,none,.bin .add (.t 10) (.c (.v (.int .i64 1))),0,[]⟩,⟨some 12,none,.mov (.t 3),0,[]⟩,⟨some 13,none,
 .bin .sub (.t 12) (.c (.v (.int .i64 1))),0,[]⟩,⟨some 2,none,.mov (.t 11),0,[]⟩,⟨some 3,none,.mov (.t 13),0,[]⟩])))))⟩
theorem pf89_is : pfs 89 = some pf89 := by kernel_rfl
-- slices.IndexFunc[[]int,int]
def pf90 : PF := ⟨19,[.t 4],.seq (.reg [⟨some 4,none,.mov (.c (.v (.int .i64 0))),0,[]⟩]) (.seq (.seq (.reg [⟨some 6,none,.mov (.t 0),0,[]⟩,⟨some 7,none,.lenS (.t 6),0,[]⟩,⟨some 8,none,
 .mov (.c (.v (.int .i64 0))),0,[]⟩]) (.block 0 (.loop (.seq (.reg [⟨some 9,none,.bin .lss (.t 8) (.t 7),0,[]⟩]) (.seq (.cond (.t 9) .skip (.exit 0))
  (.seq (.block 1 (.seq (.reg [⟨some 10,none,.mov (.t 8),0,[]⟩,⟨some 5,none,.mov (.t 10),0,[]⟩]) (.seq (.reg [⟨some 11,none,.mov (.t 1),0,[]⟩,⟨some 12,none,.mov (.t 0),0,
 []⟩,⟨some 13,none,.mov (.t 5),0,[]⟩,⟨some 14,none,.iaddr 1 (.t 12) (.t 13),0,[]⟩,⟨some 15,none,.load false 1 (.t 14),0,[]⟩,⟨some 16,none,.call (.t 11) [.t 15],0,[]⟩])
  (.cond (.t 16) (.seq (.reg [⟨some 17,none,.mov (.t 5),0,[]⟩,⟨some 4,none,.mov (.t 17),0,[]⟩]) .ret) .skip)))) (.reg [⟨some 18,none,.bin .add (.t 8)
  (.c (.v (.int .i64 1))),0,[]⟩,⟨some 8,none,.mov (.t 18),0,[]⟩]))))))) (.seq (.reg [⟨some 4,none,.mov (.c (.v (.int .i64 (-1)))),0,[]⟩]) .ret))⟩
theorem pf90_is : pfs 90 = some pf90 := by kernel_rfl
end Go.Proofs.Eng
