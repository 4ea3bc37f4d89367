/- The prepared code of the functions. No conditions. -/
import Derived.Test.YtbcnlbnimabdeaaG5
import Derived.Test.YtbcnlbnimabdeaaRows
set_option linter.all false
set_option linter.deprecated false
set_option linter.unnecessarySimpa false
set_option linter.unusedVariables false
set_option linter.unusedSimpArgs false
set_option linter.defProp false
namespace Go.Proofs.Eng
open Go Go.Proofs
def shared : List Nat := [32, 33, 34, 37, 42, 43, 44, 45, 46, 48, 49, 50, 51, 59, 62, 63]
def rawF : List Nat := [30, 39, 54]
def md (f : Nat) : Md := if rawF.contains f then .raw else if shared.contains f then .shared else .pure
def bf : Bf := ⟨false, fun g => rawF.contains g || shared.contains g⟩
noncomputable def pfs (f : Nat) : Option PF := prepF Try.prog bf f
theorem pfsOK : PfsOK Try.prog pfs := fun f pf h => ⟨_, h⟩
set_option maxRecDepth 100000
-- euclid/euclidlaw48.BinaryShares
def pf7 : PF := ⟨76,[.t 2],.seq (.reg [⟨some 2,none,.mov (.c (.v (.bool false))),0,[]⟩]) (.seq (.seq (.reg [⟨some 14,none,.mov (.t 0),0,[]⟩,⟨some 15,none,.call (.c (.fn 16 [])) [.t 14],
 0,[]⟩,⟨some 16,none,.un .not (.t 15),0,[]⟩]) (.cond (.t 16) (.seq (.reg [⟨some 17,none,.call (.c (.fn 12 [])) [],0,[]⟩,⟨some 2,none,.mov (.t 17),0,[]⟩]) .ret) .skip))
  (.seq (.reg [⟨some 19,none,.mov (.t 0),0,[]⟩,⟨some 20,none,.call (.c (.fn 17 [])) [.t 19],0,[]⟩,⟨some 18,none,.mov (.t 20),0,[]⟩,⟨some 21,none,.ext (.t 18) 0,0,[]⟩,
 ⟨some 22,none,.ext (.t 18) 1,0,[]⟩,⟨some 3,none,.mov (.t 21),0,[]⟩,⟨some 4,none,.mov (.t 22),0,[]⟩]) (.seq (.seq (.reg [⟨some 23,none,.mov (.t 4),0,[]⟩,⟨some 24,none,
 .bin .neq (.t 23) (.c (.v (.int .i64 0))),0,[]⟩]) (.cond (.t 24) (.seq (.reg [⟨some 25,none,.call (.c (.fn 12 [])) [],0,[]⟩,⟨some 2,none,.mov (.t 25),0,[]⟩]) .ret)
  .skip)) (.seq (.reg [⟨some 5,none,.mov (.c (.sl [] .nil)),0,[]⟩,⟨some 6,none,.mov (.c (.sl [] .nil)),0,[]⟩]) (.seq (.reg [⟨some 26,none,.mov (.t 6),0,[]⟩,⟨some 27,none,
 .mov (.t 0),0,[]⟩,⟨some 28,none,.app 5 none (.t 26) (.t 27),0,[]⟩,⟨some 6,none,.mov (.t 28),0,[]⟩]) (.seq (.block 0 (.loop (.seq (.seq (.reg [⟨some 29,none,.mov (.t 6),
 0,[]⟩,⟨some 30,none,.lenS (.t 29),0,[]⟩,⟨some 31,none,.bin .gtr (.t 30) (.c (.v (.int .i64 0))),0,[]⟩]) (.cond (.t 31) .skip (.exit 0))) (.block 1 (.seq (.reg [⟨some 32,
 none,.mov (.t 6),0,[]⟩,⟨some 33,none,.iaddr 5 (.t 32) (.c (.v (.int .i64 0))),0,[]⟩,⟨some 34,none,.load true 5 (.t 33),0,[]⟩,⟨some 7,none,.alloc [.v (.int .i64 0),
 .v (.int .i64 0),.v (.string (ByteArray.mk #[])),.sl [] .nil,.sl [] .nil],0,[]⟩,⟨none,none,.store 5 (.t 7) (.t 34),0,[]⟩]) (.seq (.dreg [4,0] [⟨some 35,none,.mov (.t 6),
 0,[]⟩,⟨some 36,none,.slice 5 (.t 35) (some (.c (.v (.int .i64 1)))) none none,1,[0]⟩,⟨some 37,none,.faddr 4 (.t 7),2,[]⟩,⟨some 38,none,.load false 1 (.t 37),3,[2]⟩,
 ⟨some 39,none,.app 5 none (.t 36) (.t 38),4,[3,2,1,0]⟩,⟨some 6,none,.mov (.t 39),5,[4,3,2,1,0]⟩]) (.seq (.reg [⟨some 8,none,.mov (.c (.v (.bool false))),0,[]⟩])
  (.seq (.seq (.reg [⟨some 40,none,.mov (.t 5),0,[]⟩,⟨some 41,none,.lenS (.t 40),0,[]⟩,⟨some 42,none,.mov (.c (.v (.int .i64 0))),0,[]⟩])
  (.block 2 (.loop (.seq (.reg [⟨some 43,none,.bin .lss (.t 42) (.t 41),0,[]⟩]) (.seq (.cond (.t 43) .skip (.exit 2)) (.seq (.block 3 (.seq (.reg [⟨some 44,none,
 .iaddr 5 (.t 40) (.t 42),0,[]⟩,⟨some 45,none,.load true 5 (.t 44),0,[]⟩,⟨some 10,none,.alloc [.v (.int .i64 0),.v (.int .i64 0),.v (.string (ByteArray.mk #[])),.sl []
  .nil,.sl [] .nil],0,[]⟩,⟨none,none,.store 5 (.t 10) (.t 45),0,[]⟩]) (.reg [⟨some 46,none,.mov (.t 8),0,[]⟩,⟨some 47,none,.mov (.t 46),0,[]⟩,⟨some 48,some (47,false),
 .load true 5 (.t 10),0,[]⟩,⟨some 49,some (47,false),.load true 5 (.t 7),0,[]⟩,⟨some 50,some (47,false),.call (.c (.fn 22 [])) [.t 48,.t 49],0,[]⟩,⟨some 51,none,
 .pick (.t 47) (.c (.v (.bool true))) (.t 50),0,[]⟩,⟨some 8,none,.mov (.t 51),0,[]⟩]))) (.reg [⟨some 52,none,.bin .add (.t 42) (.c (.v (.int .i64 1))),0,[]⟩,⟨some 42,
 none,.mov (.t 52),0,[]⟩]))))))) (.seq (.reg [⟨some 53,none,.mov (.t 8),0,[]⟩,⟨some 54,none,.un .not (.t 53),0,[]⟩]) (.cond (.t 54) (.reg [⟨some 55,none,.mov (.t 5),0,[]⟩
 ,⟨some 56,none,.load true 5 (.t 7),0,[]⟩,⟨some 57,none,.bsl (.agg [.v (.int .i64 0),.v (.int .i64 0),.v (.string (ByteArray.mk #[])),.sl [] .nil,.sl [] .nil]) 1 [(0,5,
 .t 56)],0,[]⟩,⟨some 58,none,.app 5 none (.t 55) (.t 57),0,[]⟩,⟨some 5,none,.mov (.t 58),0,[]⟩]) .skip)))))))))) (.seq (.reg [⟨some 60,none,.mov (.t 3),0,[]⟩,⟨some 61,
 none,.call (.c (.fn 15 [])) [.t 60],0,[]⟩,⟨some 59,none,.mov (.t 61),0,[]⟩,⟨some 62,none,.ext (.t 59) 0,0,[]⟩,⟨some 63,none,.ext (.t 59) 1,0,[]⟩,⟨some 64,none,
 .ext (.t 59) 2,0,[]⟩,⟨some 11,none,.mov (.t 62),0,[]⟩,⟨some 12,none,.mov (.t 63),0,[]⟩,⟨some 13,none,.mov (.t 64),0,[]⟩]) (.seq (.reg [⟨some 65,none,.mov (.t 13),0,[]⟩,
 ⟨some 66,none,.bin .eql (.t 65) (.c (.v (.int .i64 0))),0,[]⟩,⟨some 67,none,.mov (.t 66),0,[]⟩,⟨some 68,some (67,true),.mov (.t 11),0,[]⟩,⟨some 69,some (67,true),
 .mov (.t 5),0,[]⟩,⟨some 70,some (67,true),.lenS (.t 69),0,[]⟩,⟨some 71,some (67,true),.bin .eql (.t 68) (.t 70),0,[]⟩,⟨some 72,none,.pick (.t 67) (.t 71)
  (.c (.v (.bool false))),0,[]⟩,⟨some 73,none,.mov (.t 72),0,[]⟩,⟨some 74,some (73,true),.call (.c (.fn 12 [])) [],0,[]⟩,⟨some 75,none,.pick (.t 73) (.t 74)
  (.c (.v (.bool false))),0,[]⟩,⟨some 2,none,.mov (.t 75),0,[]⟩]) .ret))))))))⟩
theorem pf7_is : pfs 7 = some pf7 := by kernel_rfl
-- euclid/binary.GetNumber
def pf15 : PF := ⟨19,[.t 2,.t 3,.t 4],.seq (.reg [⟨some 2,none,.mov (.c (.v (.int .i64 0))),0,[]⟩,⟨some 3,none,.mov (.c (.v (.int .i64 0))),0,[]⟩,⟨some 4,none,.mov (.c (.v (.int .i64 0))
 ),0,[]⟩]) (.seq (.reg [⟨some 5,none,.alloc [.v (.int .i64 0)],0,[]⟩,⟨none,none,.store 1 (.t 5) (.c (.v (.int .i64 0))),0,[]⟩]) (.seq (.reg [⟨some 9,none,.mov (.t 0),0,[]
 ⟩,⟨some 10,none,.mkfn 33 [.t 5],0,[]⟩,⟨some 11,none,.call (.c (.fn 32 [])) [.t 9,.t 10],0,[]⟩,⟨some 8,none,.mov (.t 11),0,[]⟩,⟨some 12,none,.ext (.t 8) 0,0,[]⟩,⟨some 13,
 none,.ext (.t 8) 1,0,[]⟩,⟨some 6,none,.mov (.t 12),0,[]⟩,⟨some 7,none,.mov (.t 13),0,[]⟩]) (.seq (.seq (.reg [⟨some 14,none,.mov (.t 7),0,[]⟩,⟨some 15,none,
 .bin .neq (.t 14) (.c (.v (.int .i64 0))),0,[]⟩]) (.cond (.t 15) (.seq (.reg [⟨some 16,none,.mov (.t 7),0,[]⟩,⟨some 2,none,.mov (.c (.v (.int .i64 0))),0,[]⟩,⟨some 3,
 none,.mov (.c (.v (.int .i64 0))),0,[]⟩,⟨some 4,none,.mov (.t 16),0,[]⟩]) .ret) .skip)) (.seq (.reg [⟨some 17,none,.load false 1 (.t 5),0,[]⟩,⟨some 18,none,.mov (.t 6),
 0,[]⟩,⟨some 2,none,.mov (.t 17),0,[]⟩,⟨some 3,none,.mov (.t 18),0,[]⟩,⟨some 4,none,.mov (.c (.v (.int .i64 0))),0,[]⟩]) .ret))))⟩
theorem pf15_is : pfs 15 = some pf15 := by kernel_rfl
-- euclid/euclidlaw48.Few
def pf16 : PF := ⟨27,[.t 2],.seq (.reg [⟨some 2,none,.mov (.c (.v (.bool false))),0,[]⟩]) (.seq (.reg [⟨some 3,none,.mov (.c (.v (.int .i64 200))),0,[]⟩]) (.seq (.seq (.reg [⟨some 8,
 none,.mov (.t 0),0,[]⟩,⟨some 9,none,.lenS (.t 8),0,[]⟩,⟨some 10,none,.mov (.c (.v (.int .i64 0))),0,[]⟩]) (.block 0 (.loop (.seq (.reg [⟨some 11,none,.bin .lss (.t 10)
  (.t 9),0,[]⟩]) (.seq (.cond (.t 11) .skip (.exit 0)) (.seq (.block 1 (.seq (.reg [⟨some 12,none,.iaddr 5 (.t 8) (.t 10),0,[]⟩,⟨some 13,none,.load true 5 (.t 12),0,[]⟩,
 ⟨some 5,none,.alloc [.v (.int .i64 0),.v (.int .i64 0),.v (.string (ByteArray.mk #[])),.sl [] .nil,.sl [] .nil],0,[]⟩,⟨none,none,.store 5 (.t 5) (.t 13),0,[]⟩])
  (.seq (.reg [⟨some 15,none,.load true 5 (.t 5),0,[]⟩,⟨some 16,none,.mov (.t 3),0,[]⟩,⟨some 17,none,.call (.c (.fn 35 [])) [.t 15,.t 16],0,[]⟩,⟨some 14,none,.mov (.t 17)
 ,0,[]⟩,⟨some 18,none,.ext (.t 14) 0,0,[]⟩,⟨some 19,none,.ext (.t 14) 1,0,[]⟩,⟨some 6,none,.mov (.t 18),0,[]⟩,⟨some 7,none,.mov (.t 19),0,[]⟩])
  (.seq (.seq (.reg [⟨some 20,none,.mov (.t 7),0,[]⟩,⟨some 21,none,.un .not (.t 20),0,[]⟩]) (.cond (.t 21) (.seq (.reg [⟨some 2,none,.mov (.c (.v (.bool false))),0,[]⟩])
  .ret) .skip)) (.reg [⟨some 22,none,.mov (.t 6),0,[]⟩,⟨some 3,none,.mov (.t 22),0,[]⟩]))))) (.reg [⟨some 23,none,.bin .add (.t 10) (.c (.v (.int .i64 1))),0,[]⟩,
 ⟨some 10,none,.mov (.t 23),0,[]⟩]))))))) (.seq (.reg [⟨some 24,none,.mov (.t 0),0,[]⟩,⟨some 25,none,.lenS (.t 24),0,[]⟩,⟨some 26,none,.bin .leq (.t 25)
  (.c (.v (.int .i64 8))),0,[]⟩,⟨some 2,none,.mov (.t 26),0,[]⟩]) .ret)))⟩
theorem pf16_is : pfs 16 = some pf16 := by kernel_rfl
-- euclid/binary.PutTerms
def pf17 : PF := ⟨62,[.t 2,.t 3],.seq (.reg [⟨some 2,none,.mov (.c (.v (.string (ByteArray.mk #[])))),0,[]⟩,⟨some 3,none,.mov (.c (.v (.int .i64 0))),0,[]⟩]) (.seq (.seq (.reg [⟨some 12,
 none,.mov (.t 0),0,[]⟩,⟨some 13,none,.lenS (.t 12),0,[]⟩,⟨some 14,none,.bin .gtr (.t 13) (.c (.v (.int .i64 65536))),0,[]⟩]) (.cond (.t 14) (.seq (.reg [⟨some 2,none,
 .mov (.c (.v (.string (ByteArray.mk #[])))),0,[]⟩,⟨some 3,none,.mov (.c (.v (.int .i64 6))),0,[]⟩]) .ret) .skip)) (.seq (.seq (.reg [⟨some 15,none,.mov (.t 0),0,[]⟩,
 ⟨some 16,none,.lenS (.t 15),0,[]⟩,⟨some 17,none,.mov (.c (.v (.int .i64 0))),0,[]⟩]) (.block 0 (.loop (.seq (.reg [⟨some 18,none,.bin .lss (.t 17) (.t 16),0,[]⟩])
  (.seq (.cond (.t 18) .skip (.exit 0)) (.seq (.block 1 (.seq (.reg [⟨some 19,none,.iaddr 5 (.t 15) (.t 17),0,[]⟩,⟨some 20,none,.load true 5 (.t 19),0,[]⟩,⟨some 5,none,
 .alloc [.v (.int .i64 0),.v (.int .i64 0),.v (.string (ByteArray.mk #[])),.sl [] .nil,.sl [] .nil],0,[]⟩,⟨none,none,.store 5 (.t 5) (.t 20),0,[]⟩])
  (.seq (.reg [⟨some 21,none,.load true 5 (.t 5),0,[]⟩,⟨some 22,none,.call (.c (.fn 36 [])) [.t 21],0,[]⟩,⟨some 6,none,.mov (.t 22),0,[]⟩]) (.seq (.reg [⟨some 23,none,
 .mov (.t 6),0,[]⟩,⟨some 24,none,.bin .neq (.t 23) (.c (.v (.int .i64 0))),0,[]⟩]) (.cond (.t 24) (.seq (.reg [⟨some 25,none,.mov (.t 6),0,[]⟩,⟨some 2,none,
 .mov (.c (.v (.string (ByteArray.mk #[])))),0,[]⟩,⟨some 3,none,.mov (.t 25),0,[]⟩]) .ret) .skip))))) (.reg [⟨some 26,none,.bin .add (.t 17) (.c (.v (.int .i64 1))),0,[]⟩
 ,⟨some 17,none,.mov (.t 26),0,[]⟩]))))))) (.seq (.reg [⟨some 27,none,.mkmap,0,[]⟩,⟨some 28,none,.build [.v (.map none),.sl [] .nil] [(0,1,.t 27)],0,[]⟩,⟨some 29,none,
 .box (.t 28),0,[]⟩,⟨some 7,none,.mov (.t 29),0,[]⟩]) (.seq (.reg [⟨some 8,none,.mov (.c (.sl [] .nil)),0,[]⟩]) (.seq (.seq (.reg [⟨some 30,none,.mov (.t 0),0,[]⟩,
 ⟨some 31,none,.lenS (.t 30),0,[]⟩,⟨some 32,none,.mov (.c (.v (.int .i64 0))),0,[]⟩]) (.block 2 (.loop (.seq (.reg [⟨some 33,none,.bin .lss (.t 32) (.t 31),0,[]⟩])
  (.seq (.cond (.t 33) .skip (.exit 2)) (.seq (.block 3 (.seq (.reg [⟨some 34,none,.iaddr 5 (.t 30) (.t 32),0,[]⟩,⟨some 35,none,.load true 5 (.t 34),0,[]⟩,⟨some 10,none,
 .alloc [.v (.int .i64 0),.v (.int .i64 0),.v (.string (ByteArray.mk #[])),.sl [] .nil,.sl [] .nil],0,[]⟩,⟨none,none,.store 5 (.t 10) (.t 35),0,[]⟩]) (.reg [⟨some 36,
 none,.mov (.t 8),0,[]⟩,⟨some 37,none,.mov (.t 7),0,[]⟩,⟨some 38,none,.load true 5 (.t 10),0,[]⟩,⟨some 39,none,.call (.c (.fn 37 [])) [.t 37,.t 38],0,[]⟩,⟨some 40,none,
 .call (.c (.fn 30 [])) [.t 36,.t 39],0,[]⟩,⟨some 8,none,.mov (.t 40),0,[]⟩]))) (.reg [⟨some 41,none,.bin .add (.t 32) (.c (.v (.int .i64 1))),0,[]⟩,⟨some 32,none,
 .mov (.t 41),0,[]⟩]))))))) (.seq (.reg [⟨some 42,none,.mov (.t 7),0,[]⟩,⟨some 43,none,.nilck (.t 42),0,[]⟩,⟨some 44,none,.faddr 0 (.t 43),0,[]⟩,⟨some 45,none,
 .load false 1 (.t 44),0,[]⟩,⟨some 46,none,.lenM (.t 45),0,[]⟩,⟨some 47,none,.call (.c (.fn 30 [])) [.c (.sl [] .nil),.t 46],0,[]⟩,⟨some 11,none,.mov (.t 47),0,[]⟩])
  (.seq (.reg [⟨some 48,none,.mov (.t 11),0,[]⟩,⟨some 49,none,.mov (.t 7),0,[]⟩,⟨some 50,none,.nilck (.t 49),0,[]⟩,⟨some 51,none,.faddr 1 (.t 50),0,[]⟩,⟨some 52,none,
 .load false 1 (.t 51),0,[]⟩,⟨some 53,none,.app 1 none (.t 48) (.t 52),0,[]⟩,⟨some 11,none,.mov (.t 53),0,[]⟩]) (.seq (.reg [⟨some 54,none,.mov (.t 11),0,[]⟩,⟨some 55,
 none,.mov (.t 0),0,[]⟩,⟨some 56,none,.lenS (.t 55),0,[]⟩,⟨some 57,none,.call (.c (.fn 30 [])) [.t 54,.t 56],0,[]⟩,⟨some 11,none,.mov (.t 57),0,[]⟩])
  (.seq (.reg [⟨some 58,none,.mov (.t 11),0,[]⟩,⟨some 59,none,.mov (.t 8),0,[]⟩,⟨some 60,none,.app 1 none (.t 58) (.t 59),0,[]⟩,⟨some 61,none,.bstr (.t 60),0,[]⟩,⟨some 2,
 none,.mov (.t 61),0,[]⟩,⟨some 3,none,.mov (.c (.v (.int .i64 0))),0,[]⟩]) .ret)))))))))⟩
theorem pf17_is : pfs 17 = some pf17 := by kernel_rfl
-- euclid/euclidref48.Same
def pf22 : PF := ⟨61,[.t 4],.seq (.reg [⟨some 2,none,.box (.t 0),0,[]⟩,⟨some 3,none,.box (.t 1),0,[]⟩,⟨some 4,none,.mov (.c (.v (.bool false))),0,[]⟩]) (.seq (.seq (.reg [⟨some 6,none,
 .faddr 0 (.t 2),0,[]⟩,⟨some 7,none,.load false 1 (.t 6),0,[]⟩,⟨some 8,none,.faddr 0 (.t 3),0,[]⟩,⟨some 9,none,.load false 1 (.t 8),0,[]⟩,⟨some 10,none,.bin .neq (.t 7)
  (.t 9),0,[]⟩,⟨some 11,none,.mov (.t 10),0,[]⟩,⟨some 12,some (11,false),.faddr 1 (.t 2),0,[]⟩,⟨some 13,some (11,false),.load false 1 (.t 12),0,[]⟩,⟨some 14,some (11,
 false),.faddr 1 (.t 3),0,[]⟩,⟨some 15,some (11,false),.load false 1 (.t 14),0,[]⟩,⟨some 16,some (11,false),.bin .neq (.t 13) (.t 15),0,[]⟩,⟨some 17,none,.pick (.t 11)
  (.c (.v (.bool true))) (.t 16),0,[]⟩,⟨some 18,none,.mov (.t 17),0,[]⟩,⟨some 19,some (18,false),.faddr 2 (.t 2),0,[]⟩,⟨some 20,some (18,false),.load false 1 (.t 19),0,[]
 ⟩,⟨some 21,some (18,false),.faddr 2 (.t 3),0,[]⟩,⟨some 22,some (18,false),.load false 1 (.t 21),0,[]⟩,⟨some 23,some (18,false),.bin .neq (.t 20) (.t 22),0,[]⟩,⟨some 24,
 none,.pick (.t 18) (.c (.v (.bool true))) (.t 23),0,[]⟩,⟨some 25,none,.mov (.t 24),0,[]⟩,⟨some 26,some (25,false),.faddr 3 (.t 2),0,[]⟩,⟨some 27,some (25,false),
 .load false 1 (.t 26),0,[]⟩,⟨some 28,some (25,false),.faddr 3 (.t 3),0,[]⟩,⟨some 29,some (25,false),.load false 1 (.t 28),0,[]⟩,⟨some 30,some (25,false),
 .call (.c (.fn 47 [])) [.t 27,.t 29],0,[]⟩,⟨some 31,some (25,false),.un .not (.t 30),0,[]⟩,⟨some 32,none,.pick (.t 25) (.c (.v (.bool true))) (.t 31),0,[]⟩,⟨some 33,
 none,.mov (.t 32),0,[]⟩,⟨some 34,some (33,false),.faddr 4 (.t 2),0,[]⟩,⟨some 35,some (33,false),.load false 1 (.t 34),0,[]⟩,⟨some 36,some (33,false),.lenS (.t 35),0,[]⟩,
 ⟨some 37,some (33,false),.faddr 4 (.t 3),0,[]⟩,⟨some 38,some (33,false),.load false 1 (.t 37),0,[]⟩,⟨some 39,some (33,false),.lenS (.t 38),0,[]⟩,⟨some 40,some (33,false)
 ,.bin .neq (.t 36) (.t 39),0,[]⟩,⟨some 41,none,.pick (.t 33) (.c (.v (.bool true))) (.t 40),0,[]⟩]) (.cond (.t 41) (.seq (.reg [⟨some 4,none,.mov (.c (.v (.bool false)))
 ,0,[]⟩]) .ret) .skip)) (.seq (.seq (.reg [⟨some 5,none,.mov (.c (.v (.int .i64 0))),0,[]⟩]) (.block 0 (.loop (.seq (.seq (.reg [⟨some 42,none,.mov (.t 5),0,[]⟩,⟨some 43,
 none,.faddr 4 (.t 2),0,[]⟩,⟨some 44,none,.load false 1 (.t 43),0,[]⟩,⟨some 45,none,.lenS (.t 44),0,[]⟩,⟨some 46,none,.bin .lss (.t 42) (.t 45),0,[]⟩]) (.cond (.t 46)
  .skip (.exit 0))) (.seq (.block 1 (.seq (.dreg [10,0] [⟨some 49,none,.faddr 4 (.t 2),0,[]⟩,⟨some 50,none,.load false 1 (.t 49),1,[0]⟩,⟨some 51,none,.mov (.t 5),2,[]⟩,
 ⟨some 52,none,.iaddr 5 (.t 50) (.t 51),3,[2,1,0]⟩,⟨some 53,none,.load true 5 (.t 52),4,[3,2,1,0]⟩,⟨some 54,none,.faddr 4 (.t 3),5,[]⟩,⟨some 55,none,.load false 1 (.t 54)
 ,6,[5]⟩,⟨some 56,none,.mov (.t 5),7,[]⟩,⟨some 57,none,.iaddr 5 (.t 55) (.t 56),8,[7,6,5]⟩,⟨some 58,none,.load true 5 (.t 57),9,[8,7,6,5]⟩,⟨some 59,none,
 .call (.c (.fn 22 [])) [.t 53,.t 58],10,[9,8,7,6,5,4,3,2,1,0]⟩,⟨some 60,none,.un .not (.t 59),11,[10,9,8,7,6,5,4,3,2,1,0]⟩]) (.cond (.t 60) (.seq (.reg [⟨some 4,none,
 .mov (.c (.v (.bool false))),0,[]⟩]) .ret) .skip))) (.reg [⟨some 47,none,.mov (.t 5),0,[]⟩,⟨some 48,none,.bin .add (.t 47) (.c (.v (.int .i64 1))),0,[]⟩,⟨some 5,none,
 .mov (.t 48),0,[]⟩])))))) (.seq (.reg [⟨some 4,none,.mov (.c (.v (.bool true))),0,[]⟩]) .ret)))⟩
theorem pf22_is : pfs 22 = some pf22 := by kernel_rfl
-- euclid/binary.appendNumber
def pf30 : PF := ⟨21,[.t 4],.seq (.reg [⟨some 4,none,.mov (.c (.sl [] .nil)),0,[]⟩]) (.seq (.block 0 (.loop (.seq (.seq (.reg [⟨some 5,none,.mov (.t 1),0,[]⟩,⟨some 6,none,
 .bin .geq (.t 5) (.c (.v (.int .i64 128))),0,[]⟩]) (.cond (.t 6) .skip (.exit 0))) (.block 1 (.seq (.reg [⟨some 7,none,.mov (.t 0),0,[]⟩,⟨some 8,none,.mov (.t 1),0,[]⟩,
 ⟨some 9,none,.bin .rem (.t 8) (.c (.v (.int .i64 128))),0,[]⟩,⟨some 10,none,.conv .u8 (.t 9),0,[]⟩,⟨some 11,none,.bin .or (.t 10) (.c (.v (.int .u8 128))),0,[]⟩,
 ⟨some 12,none,.bsl (.v (.int .u8 0)) 1 [(0,1,.t 11)],0,[]⟩,⟨some 13,none,.app 1 none (.t 7) (.t 12),0,[]⟩,⟨some 0,none,.mov (.t 13),0,[]⟩]) (.reg [⟨some 14,none,
 .mov (.t 1),0,[]⟩,⟨some 15,none,.bin .quo (.t 14) (.c (.v (.int .i64 128))),0,[]⟩,⟨some 1,none,.mov (.t 15),0,[]⟩])))))) (.seq (.reg [⟨some 16,none,.mov (.t 0),0,[]⟩,
 ⟨some 17,none,.mov (.t 1),0,[]⟩,⟨some 18,none,.conv .u8 (.t 17),0,[]⟩,⟨some 19,none,.bsl (.v (.int .u8 0)) 1 [(0,1,.t 18)],0,[]⟩,⟨some 20,none,.app 1 none (.t 16)
  (.t 19),0,[]⟩,⟨some 4,none,.mov (.t 20),0,[]⟩]) .ret))⟩
theorem pf30_is : pfs 30 = some pf30 := by kernel_rfl
-- euclid/binary.read
def pf32 : PF := ⟨18,[.c 4 false 1,.c 5 false 1],.seq (.reg [⟨some 4,none,.alloc [.v (.int .i64 0)],0,[]⟩,⟨some 5,none,.alloc [.v (.int .i64 0)],0,[]⟩]) (.seq (.reg [⟨some 7,none,
 .mkfn 51 [.t 4,.t 5],0,[]⟩,⟨none,none,.dfr (.t 7) [],0,[]⟩]) (.seq (.reg [⟨some 8,none,.mov (.t 0),0,[]⟩,⟨some 9,none,.build [.v (.string (ByteArray.mk #[])),
 .v (.int .i64 0)] [(0,1,.t 8)],0,[]⟩,⟨some 10,none,.box (.t 9),0,[]⟩,⟨some 6,none,.mov (.t 10),0,[]⟩]) (.seq (.reg [⟨some 11,none,.mov (.t 1),0,[]⟩,⟨some 12,none,
 .mov (.t 6),0,[]⟩,⟨some 13,none,.call (.t 11) [.t 12],0,[]⟩]) (.seq (.reg [⟨some 14,none,.mov (.t 6),0,[]⟩,⟨some 15,none,.nilck (.t 14),0,[]⟩,⟨some 16,none,
 .faddr 1 (.t 15),0,[]⟩,⟨some 17,none,.load false 1 (.t 16),0,[]⟩,⟨none,none,.store 1 (.t 4) (.t 17),0,[]⟩,⟨none,none,.store 1 (.t 5) (.c (.v (.int .i64 0))),0,[]⟩])
  .ret))))⟩
theorem pf32_is : pfs 32 = some pf32 := by kernel_rfl
-- euclid/binary.GetNumber$1
def pf33 : PF := ⟨5,[],.reg [⟨some 3,none,.mov (.t 0),0,[]⟩,⟨some 4,none,.call (.c (.fn 34 [])) [.t 3],0,[]⟩,⟨none,none,.store 1 (.t 1) (.t 4),0,[]⟩]⟩
theorem pf33_is : pfs 33 = some pf33 := by kernel_rfl
-- (*euclid/binary.reader).number
def pf34 : PF := ⟨63,[.t 2],.seq (.reg [⟨some 2,none,.mov (.c (.v (.int .i64 0))),0,[]⟩]) (.seq (.reg [⟨some 3,none,.mov (.c (.v (.int .i64 0))),0,[]⟩]) (.seq (.seq (.reg [⟨some 6,none,
 .mov (.c (.v (.int .i64 0))),0,[]⟩]) (.block 0 (.loop (.seq (.reg [⟨some 7,none,.bin .lss (.t 6) (.c (.v (.int .i64 5))),0,[]⟩]) (.seq (.cond (.t 7) .skip (.exit 0))
  (.seq (.block 1 (.seq (.reg [⟨some 8,none,.mov (.t 6),0,[]⟩,⟨some 4,none,.mov (.t 8),0,[]⟩]) (.seq (.seq (.dreg [9] [⟨some 9,none,.mov (.t 0),0,[]⟩,⟨some 10,none,
 .nilck (.t 9),1,[0]⟩,⟨some 11,none,.faddr 1 (.t 10),2,[1,0]⟩,⟨some 12,none,.load false 1 (.t 11),3,[2,1,0]⟩,⟨some 13,none,.mov (.t 0),4,[]⟩,⟨some 14,none,.nilck (.t 13),
 5,[4]⟩,⟨some 15,none,.faddr 0 (.t 14),6,[5,4]⟩,⟨some 16,none,.load false 1 (.t 15),7,[6,5,4]⟩,⟨some 17,none,.lenT (.t 16),8,[7,6,5,4]⟩,⟨some 18,none,.bin .geq (.t 12)
  (.t 17),9,[8,7,6,5,4,3,2,1,0]⟩]) (.cond (.t 18) (.reg [⟨some 19,none,.mov (.t 0),0,[]⟩,⟨some 20,none,.call (.c (.fn 44 [])) [.t 19],0,[]⟩]) .skip)) (.seq (.dreg [8,0,0]
  [⟨some 21,none,.mov (.t 0),0,[]⟩,⟨some 22,none,.nilck (.t 21),1,[0]⟩,⟨some 23,none,.faddr 0 (.t 22),2,[1,0]⟩,⟨some 24,none,.load false 1 (.t 23),3,[2,1,0]⟩,⟨some 25,
 none,.mov (.t 0),4,[]⟩,⟨some 26,none,.nilck (.t 25),5,[4]⟩,⟨some 27,none,.faddr 1 (.t 26),6,[5,4]⟩,⟨some 28,none,.load false 1 (.t 27),7,[6,5,4]⟩,⟨some 29,none,
 .idxS (.t 24) (.t 28),8,[7,6,5,4,3,2,1,0]⟩,⟨some 30,none,.conv .i64 (.t 29),9,[8,7,6,5,4,3,2,1,0]⟩,⟨some 5,none,.mov (.t 30),10,[9,8,7,6,5,4,3,2,1,0]⟩])
  (.seq (.reg [⟨some 31,none,.mov (.t 0),0,[]⟩,⟨some 32,none,.nilck (.t 31),0,[]⟩,⟨some 33,none,.faddr 1 (.t 32),0,[]⟩,⟨some 34,none,.load false 1 (.t 33),0,[]⟩,⟨some 35,
 none,.bin .add (.t 34) (.c (.v (.int .i64 1))),0,[]⟩,⟨some 36,none,.nilck (.t 31),0,[]⟩,⟨some 37,none,.faddr 1 (.t 36),0,[]⟩,⟨none,none,.store 1 (.t 37) (.t 35),0,[]⟩])
  (.seq (.reg [⟨some 38,none,.mov (.t 3),0,[]⟩,⟨some 39,none,.mov (.t 5),0,[]⟩,⟨some 40,none,.bin .rem (.t 39) (.c (.v (.int .i64 128))),0,[]⟩,⟨some 41,none,.mov (.t 4),
 0,[]⟩,⟨some 42,none,.bin .mul (.c (.v (.int .i64 7))) (.t 41),0,[]⟩,⟨some 43,none,.bin .shl (.t 40) (.t 42),0,[]⟩,⟨some 44,none,.bin .or (.t 38) (.t 43),0,[]⟩,⟨some 3,
 none,.mov (.t 44),0,[]⟩]) (.seq (.reg [⟨some 45,none,.mov (.t 5),0,[]⟩,⟨some 46,none,.bin .lss (.t 45) (.c (.v (.int .i64 128))),0,[]⟩]) (.cond (.t 46)
  (.seq (.seq (.reg [⟨some 47,none,.mov (.t 5),0,[]⟩,⟨some 48,none,.bin .eql (.t 47) (.c (.v (.int .i64 0))),0,[]⟩,⟨some 49,none,.mov (.t 48),0,[]⟩,⟨some 50,some (49,
 true),.mov (.t 4),0,[]⟩,⟨some 51,some (49,true),.bin .gtr (.t 50) (.c (.v (.int .i64 0))),0,[]⟩,⟨some 52,none,.pick (.t 49) (.t 51) (.c (.v (.bool false))),0,[]⟩,
 ⟨some 53,none,.mov (.t 52),0,[]⟩,⟨some 54,some (53,false),.mov (.t 3),0,[]⟩,⟨some 55,some (53,false),.bin .gtr (.t 54) (.c (.v (.int .i64 2147483647))),0,[]⟩,⟨some 56,
 none,.pick (.t 53) (.c (.v (.bool true))) (.t 55),0,[]⟩]) (.cond (.t 56) (.reg [⟨some 57,none,.mov (.t 0),0,[]⟩,⟨some 58,none,.call (.c (.fn 44 [])) [.t 57],0,[]⟩])
  .skip)) (.seq (.reg [⟨some 59,none,.mov (.t 3),0,[]⟩,⟨some 2,none,.mov (.t 59),0,[]⟩]) .ret)) .skip)))))))) (.reg [⟨some 60,none,.bin .add (.t 6) (.c (.v (.int .i64 1))
 ),0,[]⟩,⟨some 6,none,.mov (.t 60),0,[]⟩]))))))) (.seq (.reg [⟨some 61,none,.mov (.t 0),0,[]⟩,⟨some 62,none,.call (.c (.fn 44 [])) [.t 61],0,[]⟩]) (.seq (.reg [⟨some 2,
 none,.mov (.c (.v (.int .i64 0))),0,[]⟩]) .ret))))⟩
theorem pf34_is : pfs 34 = some pf34 := by kernel_rfl
-- euclid/euclidlaw48.small
def pf35 : PF := ⟨64,[.t 4,.t 5],.seq (.reg [⟨some 2,none,.box (.t 0),0,[]⟩,⟨some 4,none,.mov (.c (.v (.int .i64 0))),0,[]⟩,⟨some 5,none,.mov (.c (.v (.bool false))),0,[]⟩])
  (.seq (.seq (.reg [⟨some 12,none,.mov (.t 1),0,[]⟩,⟨some 13,none,.bin .leq (.t 12) (.c (.v (.int .i64 0))),0,[]⟩,⟨some 14,none,.mov (.t 13),0,[]⟩,⟨some 15,some (14,
 false),.faddr 2 (.t 2),0,[]⟩,⟨some 16,some (14,false),.load false 1 (.t 15),0,[]⟩,⟨some 17,some (14,false),.lenT (.t 16),0,[]⟩,⟨some 18,some (14,false),.bin .gtr (.t 17)
  (.c (.v (.int .i64 200))),0,[]⟩,⟨some 19,none,.pick (.t 14) (.c (.v (.bool true))) (.t 18),0,[]⟩,⟨some 20,none,.mov (.t 19),0,[]⟩,⟨some 21,some (20,false),
 .faddr 3 (.t 2),0,[]⟩,⟨some 22,some (20,false),.load false 1 (.t 21),0,[]⟩,⟨some 23,some (20,false),.lenS (.t 22),0,[]⟩,⟨some 24,some (20,false),.bin .gtr (.t 23)
  (.c (.v (.int .i64 10))),0,[]⟩,⟨some 25,none,.pick (.t 20) (.c (.v (.bool true))) (.t 24),0,[]⟩,⟨some 26,none,.mov (.t 25),0,[]⟩,⟨some 27,some (26,false),
 .faddr 4 (.t 2),0,[]⟩,⟨some 28,some (26,false),.load false 1 (.t 27),0,[]⟩,⟨some 29,some (26,false),.lenS (.t 28),0,[]⟩,⟨some 30,some (26,false),.bin .gtr (.t 29)
  (.c (.v (.int .i64 6))),0,[]⟩,⟨some 31,none,.pick (.t 26) (.c (.v (.bool true))) (.t 30),0,[]⟩]) (.cond (.t 31) (.seq (.reg [⟨some 4,none,.mov (.c (.v (.int .i64 0))),
 0,[]⟩,⟨some 5,none,.mov (.c (.v (.bool false))),0,[]⟩]) .ret) .skip)) (.seq (.seq (.reg [⟨some 32,none,.faddr 3 (.t 2),0,[]⟩,⟨some 33,none,.load false 1 (.t 32),0,[]⟩,
 ⟨some 34,none,.lenS (.t 33),0,[]⟩,⟨some 35,none,.mov (.c (.v (.int .i64 0))),0,[]⟩]) (.block 0 (.loop (.seq (.reg [⟨some 36,none,.bin .lss (.t 35) (.t 34),0,[]⟩])
  (.seq (.cond (.t 36) .skip (.exit 0)) (.seq (.block 1 (.seq (.reg [⟨some 37,none,.iaddr 2 (.t 33) (.t 35),0,[]⟩,⟨some 38,none,.load true 2 (.t 37),0,[]⟩,⟨some 7,none,
 .alloc [.v (.int .i64 0),.sl [] .nil],0,[]⟩,⟨none,none,.store 2 (.t 7) (.t 38),0,[]⟩]) (.seq (.reg [⟨some 39,none,.faddr 1 (.t 7),0,[]⟩,⟨some 40,none,
 .load false 1 (.t 39),0,[]⟩,⟨some 41,none,.lenS (.t 40),0,[]⟩,⟨some 42,none,.bin .gtr (.t 41) (.c (.v (.int .i64 10))),0,[]⟩]) (.cond (.t 42) (.seq (.reg [⟨some 4,none,
 .mov (.c (.v (.int .i64 0))),0,[]⟩,⟨some 5,none,.mov (.c (.v (.bool false))),0,[]⟩]) .ret) .skip)))) (.reg [⟨some 43,none,.bin .add (.t 35) (.c (.v (.int .i64 1))),0,[]⟩
 ,⟨some 35,none,.mov (.t 43),0,[]⟩]))))))) (.seq (.reg [⟨some 44,none,.mov (.t 1),0,[]⟩,⟨some 45,none,.bin .sub (.t 44) (.c (.v (.int .i64 1))),0,[]⟩,⟨some 1,none,
 .mov (.t 45),0,[]⟩]) (.seq (.seq (.reg [⟨some 46,none,.faddr 4 (.t 2),0,[]⟩,⟨some 47,none,.load false 1 (.t 46),0,[]⟩,⟨some 48,none,.lenS (.t 47),0,[]⟩,⟨some 49,none,
 .mov (.c (.v (.int .i64 0))),0,[]⟩]) (.block 2 (.loop (.seq (.reg [⟨some 50,none,.bin .lss (.t 49) (.t 48),0,[]⟩]) (.seq (.cond (.t 50) .skip (.exit 2))
  (.seq (.block 3 (.seq (.reg [⟨some 51,none,.iaddr 5 (.t 47) (.t 49),0,[]⟩,⟨some 52,none,.load true 5 (.t 51),0,[]⟩,⟨some 9,none,.alloc [.v (.int .i64 0),
 .v (.int .i64 0),.v (.string (ByteArray.mk #[])),.sl [] .nil,.sl [] .nil],0,[]⟩,⟨none,none,.store 5 (.t 9) (.t 52),0,[]⟩]) (.seq (.reg [⟨some 54,none,.load true 5 (.t 9)
 ,0,[]⟩,⟨some 55,none,.mov (.t 1),0,[]⟩,⟨some 56,none,.call (.c (.fn 35 [])) [.t 54,.t 55],0,[]⟩,⟨some 53,none,.mov (.t 56),0,[]⟩,⟨some 57,none,.ext (.t 53) 0,0,[]⟩,
 ⟨some 58,none,.ext (.t 53) 1,0,[]⟩,⟨some 10,none,.mov (.t 57),0,[]⟩,⟨some 11,none,.mov (.t 58),0,[]⟩]) (.seq (.seq (.reg [⟨some 59,none,.mov (.t 11),0,[]⟩,⟨some 60,none,
 .un .not (.t 59),0,[]⟩]) (.cond (.t 60) (.seq (.reg [⟨some 4,none,.mov (.c (.v (.int .i64 0))),0,[]⟩,⟨some 5,none,.mov (.c (.v (.bool false))),0,[]⟩]) .ret) .skip))
  (.reg [⟨some 61,none,.mov (.t 10),0,[]⟩,⟨some 1,none,.mov (.t 61),0,[]⟩]))))) (.reg [⟨some 62,none,.bin .add (.t 49) (.c (.v (.int .i64 1))),0,[]⟩,⟨some 49,none,
 .mov (.t 62),0,[]⟩]))))))) (.seq (.reg [⟨some 63,none,.mov (.t 1),0,[]⟩,⟨some 4,none,.mov (.t 63),0,[]⟩,⟨some 5,none,.mov (.c (.v (.bool true))),0,[]⟩]) .ret)))))⟩
theorem pf35_is : pfs 35 = some pf35 := by kernel_rfl
-- euclid/binary.encodable
def pf36 : PF := ⟨24,[.t 2],.seq (.reg [⟨some 1,none,.box (.t 0),0,[]⟩,⟨some 2,none,.mov (.c (.v (.int .i64 0))),0,[]⟩]) (.seq (.seq (.reg [⟨some 8,none,.load true 5 (.t 1),0,[]⟩,
 ⟨some 9,none,.call (.c (.fn 52 [])) [.t 8,.c (.v (.int .i64 4096)),.c (.v (.int .i64 1073741824))],0,[]⟩,⟨some 7,none,.mov (.t 9),0,[]⟩,⟨some 10,none,.ext (.t 7) 0,0,[]⟩
 ,⟨some 11,none,.ext (.t 7) 1,0,[]⟩,⟨some 3,none,.mov (.t 10),0,[]⟩,⟨some 4,none,.mov (.t 11),0,[]⟩]) (.seq (.reg [⟨some 12,none,.mov (.t 3),0,[]⟩,⟨some 13,none,
 .bin .gtr (.t 12) (.c (.v (.int .i64 4096))),0,[]⟩]) (.cond (.t 13) (.seq (.reg [⟨some 2,none,.mov (.c (.v (.int .i64 5))),0,[]⟩]) .ret) .skip)))
  (.seq (.seq (.reg [⟨some 15,none,.load true 5 (.t 1),0,[]⟩,⟨some 16,none,.call (.c (.fn 52 [])) [.t 15,.c (.v (.int .i64 4096)),.c (.v (.int .i64 1073741824))],0,[]⟩,
 ⟨some 14,none,.mov (.t 16),0,[]⟩,⟨some 17,none,.ext (.t 14) 0,0,[]⟩,⟨some 18,none,.ext (.t 14) 1,0,[]⟩,⟨some 5,none,.mov (.t 17),0,[]⟩,⟨some 6,none,.mov (.t 18),0,[]⟩])
  (.seq (.reg [⟨some 19,none,.mov (.t 6),0,[]⟩,⟨some 20,none,.bin .gtr (.t 19) (.c (.v (.int .i64 200))),0,[]⟩]) (.cond (.t 20) (.seq (.reg [⟨some 2,none,
 .mov (.c (.v (.int .i64 7))),0,[]⟩]) .ret) .skip))) (.seq (.seq (.reg [⟨some 21,none,.load true 5 (.t 1),0,[]⟩,⟨some 22,none,.call (.c (.fn 53 [])) [.t 21],0,[]⟩,
 ⟨some 23,none,.un .not (.t 22),0,[]⟩]) (.cond (.t 23) (.seq (.reg [⟨some 2,none,.mov (.c (.v (.int .i64 3))),0,[]⟩]) .ret) .skip)) (.seq (.reg [⟨some 2,none,
 .mov (.c (.v (.int .i64 0))),0,[]⟩]) .ret))))⟩
theorem pf36_is : pfs 36 = some pf36 := by kernel_rfl
-- (*euclid/binary.table).enter
def pf37 : PF := ⟨106,[.t 4],.seq (.reg [⟨some 3,none,.box (.t 1),0,[]⟩,⟨some 4,none,.mov (.c (.v (.int .i64 0))),0,[]⟩]) (.seq (.reg [⟨some 12,none,.faddr 0 (.t 3),0,[]⟩,⟨some 13,none,
 .load false 1 (.t 12),0,[]⟩,⟨some 14,none,.call (.c (.fn 30 [])) [.c (.sl [] .nil),.t 13],0,[]⟩,⟨some 5,none,.mov (.t 14),0,[]⟩]) (.seq (.seq (.reg [⟨some 15,none,
 .faddr 0 (.t 3),0,[]⟩,⟨some 16,none,.load false 1 (.t 15),0,[]⟩]) (.block 0 (.seq (.seq (.reg [⟨some 18,none,.bin .eql (.t 16) (.c (.v (.int .i64 0))),0,[]⟩,⟨some 17,
 none,.mov (.t 18),0,[]⟩]) (.cond (.t 17) .skip (.reg [⟨some 19,none,.bin .eql (.t 16) (.c (.v (.int .i64 12))),0,[]⟩,⟨some 17,none,.mov (.t 19),0,[]⟩]))) (.cond (.t 17)
  (.reg [⟨some 20,none,.mov (.t 5),0,[]⟩,⟨some 21,none,.faddr 1 (.t 3),0,[]⟩,⟨some 22,none,.load false 1 (.t 21),0,[]⟩,⟨some 23,none,.call (.c (.fn 30 [])) [.t 20,.t 22],
 0,[]⟩,⟨some 5,none,.mov (.t 23),0,[]⟩]) (.seq (.reg [⟨some 25,none,.bin .eql (.t 16) (.c (.v (.int .i64 2))),0,[]⟩,⟨some 24,none,.mov (.t 25),0,[]⟩]) (.cond (.t 24)
  (.reg [⟨some 26,none,.mov (.t 5),0,[]⟩,⟨some 27,none,.faddr 3 (.t 3),0,[]⟩,⟨some 28,none,.load false 1 (.t 27),0,[]⟩,⟨some 29,none,.iaddr 2 (.t 28)
  (.c (.v (.int .i64 0))),0,[]⟩,⟨some 30,none,.load true 2 (.t 29),0,[]⟩,⟨some 31,none,.call (.c (.fn 54 [])) [.t 26,.t 30],0,[]⟩,⟨some 5,none,.mov (.t 31),0,[]⟩])
  (.seq (.reg [⟨some 33,none,.bin .eql (.t 16) (.c (.v (.int .i64 3))),0,[]⟩,⟨some 32,none,.mov (.t 33),0,[]⟩]) (.cond (.t 32) (.seq (.reg [⟨some 34,none,.mov (.t 5),0,[]
 ⟩,⟨some 35,none,.faddr 2 (.t 3),0,[]⟩,⟨some 36,none,.load false 1 (.t 35),0,[]⟩,⟨some 37,none,.lenT (.t 36),0,[]⟩,⟨some 38,none,.call (.c (.fn 30 [])) [.t 34,.t 37],0,[]
 ⟩,⟨some 5,none,.mov (.t 38),0,[]⟩]) (.seq (.reg [⟨some 39,none,.mov (.t 5),0,[]⟩,⟨some 40,none,.faddr 2 (.t 3),0,[]⟩,⟨some 41,none,.load false 1 (.t 40),0,[]⟩,⟨some 42,
 none,.app 1 none (.t 39) (.t 41),0,[]⟩,⟨some 5,none,.mov (.t 42),0,[]⟩]) (.seq (.reg [⟨some 43,none,.mov (.t 5),0,[]⟩,⟨some 44,none,.faddr 3 (.t 3),0,[]⟩,⟨some 45,none,
 .load false 1 (.t 44),0,[]⟩,⟨some 46,none,.lenS (.t 45),0,[]⟩,⟨some 47,none,.call (.c (.fn 30 [])) [.t 43,.t 46],0,[]⟩,⟨some 5,none,.mov (.t 47),0,[]⟩])
  (.seq (.reg [⟨some 48,none,.faddr 3 (.t 3),0,[]⟩,⟨some 49,none,.load false 1 (.t 48),0,[]⟩,⟨some 50,none,.lenS (.t 49),0,[]⟩,⟨some 51,none,.mov (.c (.v (.int .i64 0))),
 0,[]⟩]) (.block 1 (.loop (.seq (.reg [⟨some 52,none,.bin .lss (.t 51) (.t 50),0,[]⟩]) (.seq (.cond (.t 52) .skip (.exit 1)) (.seq (.block 2 (.seq (.reg [⟨some 53,none,
 .iaddr 2 (.t 49) (.t 51),0,[]⟩,⟨some 54,none,.load true 2 (.t 53),0,[]⟩,⟨some 7,none,.alloc [.v (.int .i64 0),.sl [] .nil],0,[]⟩,⟨none,none,.store 2 (.t 7) (.t 54),0,[]⟩
 ]) (.reg [⟨some 55,none,.mov (.t 5),0,[]⟩,⟨some 56,none,.load true 2 (.t 7),0,[]⟩,⟨some 57,none,.call (.c (.fn 54 [])) [.t 55,.t 56],0,[]⟩,⟨some 5,none,.mov (.t 57),0,[]
 ⟩]))) (.reg [⟨some 58,none,.bin .add (.t 51) (.c (.v (.int .i64 1))),0,[]⟩,⟨some 51,none,.mov (.t 58),0,[]⟩])))))))))) .skip)))))))) (.seq (.seq (.reg [⟨some 59,none,
 .faddr 4 (.t 3),0,[]⟩,⟨some 60,none,.load false 1 (.t 59),0,[]⟩,⟨some 61,none,.lenS (.t 60),0,[]⟩,⟨some 62,none,.mov (.c (.v (.int .i64 0))),0,[]⟩])
  (.block 3 (.loop (.seq (.reg [⟨some 63,none,.bin .lss (.t 62) (.t 61),0,[]⟩]) (.seq (.cond (.t 63) .skip (.exit 3)) (.seq (.block 4 (.seq (.reg [⟨some 64,none,
 .iaddr 5 (.t 60) (.t 62),0,[]⟩,⟨some 65,none,.load true 5 (.t 64),0,[]⟩,⟨some 9,none,.alloc [.v (.int .i64 0),.v (.int .i64 0),.v (.string (ByteArray.mk #[])),.sl []
  .nil,.sl [] .nil],0,[]⟩,⟨none,none,.store 5 (.t 9) (.t 65),0,[]⟩]) (.reg [⟨some 66,none,.mov (.t 5),0,[]⟩,⟨some 67,none,.mov (.t 0),0,[]⟩,⟨some 68,none,
 .load true 5 (.t 9),0,[]⟩,⟨some 69,none,.call (.c (.fn 37 [])) [.t 67,.t 68],0,[]⟩,⟨some 70,none,.call (.c (.fn 30 [])) [.t 66,.t 69],0,[]⟩,⟨some 5,none,.mov (.t 70),0,
 []⟩]))) (.reg [⟨some 71,none,.bin .add (.t 62) (.c (.v (.int .i64 1))),0,[]⟩,⟨some 62,none,.mov (.t 71),0,[]⟩]))))))) (.seq (.dreg [6,0,3] [⟨some 73,none,.mov (.t 0),0,
 []⟩,⟨some 74,none,.nilck (.t 73),1,[0]⟩,⟨some 75,none,.faddr 0 (.t 74),2,[1,0]⟩,⟨some 76,none,.load false 1 (.t 75),3,[2,1,0]⟩,⟨some 77,none,.mov (.t 5),4,[]⟩,⟨some 78,
 none,.bstr (.t 77),5,[4]⟩,⟨some 79,none,.look (.v (.int .i64 0)) true true (.t 76) (.t 78),6,[5,4,3,2,1,0]⟩,⟨some 72,none,.mov (.t 79),7,[6,5,4,3,2,1,0]⟩,⟨some 80,none,
 .ext (.t 72) 0,8,[7,6,5,4,3,2,1,0]⟩,⟨some 81,none,.ext (.t 72) 1,9,[7,6,5,4,3,2,1,0]⟩,⟨some 10,none,.mov (.t 80),10,[8,7,6,5,4,3,2,1,0]⟩,⟨some 11,none,.mov (.t 81),11,
 [10,8,9,7,6,5,4,3,2,1,0]⟩]) (.seq (.seq (.reg [⟨some 82,none,.mov (.t 11),0,[]⟩,⟨some 83,none,.un .not (.t 82),0,[]⟩]) (.cond (.t 83) (.seq (.reg [⟨some 84,none,
 .mov (.t 0),0,[]⟩,⟨some 85,none,.nilck (.t 84),0,[]⟩,⟨some 86,none,.faddr 0 (.t 85),0,[]⟩,⟨some 87,none,.load false 1 (.t 86),0,[]⟩,⟨some 88,none,.lenM (.t 87),0,[]⟩,
 ⟨some 10,none,.mov (.t 88),0,[]⟩]) (.seq (.dreg [7] [⟨some 89,none,.mov (.t 0),0,[]⟩,⟨some 90,none,.nilck (.t 89),1,[0]⟩,⟨some 91,none,.faddr 0 (.t 90),2,[1,0]⟩,
 ⟨some 92,none,.load false 1 (.t 91),3,[2,1,0]⟩,⟨some 93,none,.mov (.t 5),4,[]⟩,⟨some 94,none,.bstr (.t 93),5,[4]⟩,⟨some 95,none,.mov (.t 10),6,[]⟩,⟨none,none,
 .mapup true (.t 92) (.t 94) (.t 95),7,[6,5,4,3,2,1,0]⟩]) (.reg [⟨some 96,none,.mov (.t 0),0,[]⟩,⟨some 97,none,.mov (.t 0),0,[]⟩,⟨some 98,none,.nilck (.t 97),0,[]⟩,
 ⟨some 99,none,.faddr 1 (.t 98),0,[]⟩,⟨some 100,none,.load false 1 (.t 99),0,[]⟩,⟨some 101,none,.mov (.t 5),0,[]⟩,⟨some 102,none,.app 1 none (.t 100) (.t 101),0,[]⟩,
 ⟨some 103,none,.nilck (.t 96),0,[]⟩,⟨some 104,none,.faddr 1 (.t 103),0,[]⟩,⟨none,none,.store 1 (.t 104) (.t 102),0,[]⟩]))) .skip)) (.seq (.reg [⟨some 105,none,
 .mov (.t 10),0,[]⟩,⟨some 4,none,.mov (.t 105),0,[]⟩]) .ret))))))⟩
theorem pf37_is : pfs 37 = some pf37 := by kernel_rfl
-- (*euclid/binary.reader).fail
def pf44 : PF := ⟨4,[],.reg [⟨some 2,none,.build [] [],0,[]⟩,⟨some 3,none,.mkif 91 (.t 2),0,[]⟩,⟨none,none,.panic (.t 3),0,[]⟩]⟩
theorem pf44_is : pfs 44 = some pf44 := by kernel_rfl
-- euclid/euclidref01.SameLists
def pf47 : PF := ⟨27,[.t 4],.seq (.reg [⟨some 4,none,.mov (.c (.v (.bool false))),0,[]⟩]) (.seq (.seq (.reg [⟨some 6,none,.mov (.t 0),0,[]⟩,⟨some 7,none,.lenS (.t 6),0,[]⟩,⟨some 8,none,
 .mov (.t 1),0,[]⟩,⟨some 9,none,.lenS (.t 8),0,[]⟩,⟨some 10,none,.bin .neq (.t 7) (.t 9),0,[]⟩]) (.cond (.t 10) (.seq (.reg [⟨some 4,none,.mov (.c (.v (.bool false))),0,
 []⟩]) .ret) .skip)) (.seq (.seq (.reg [⟨some 5,none,.mov (.c (.v (.int .i64 0))),0,[]⟩]) (.block 0 (.loop (.seq (.seq (.reg [⟨some 11,none,.mov (.t 5),0,[]⟩,⟨some 12,
 none,.mov (.t 0),0,[]⟩,⟨some 13,none,.lenS (.t 12),0,[]⟩,⟨some 14,none,.bin .lss (.t 11) (.t 13),0,[]⟩]) (.cond (.t 14) .skip (.exit 0)))
  (.seq (.block 1 (.seq (.dreg [8,0] [⟨some 17,none,.mov (.t 0),0,[]⟩,⟨some 18,none,.mov (.t 5),1,[]⟩,⟨some 19,none,.iaddr 2 (.t 17) (.t 18),2,[1,0]⟩,⟨some 20,none,
 .load true 2 (.t 19),3,[2,1,0]⟩,⟨some 21,none,.mov (.t 1),4,[]⟩,⟨some 22,none,.mov (.t 5),5,[]⟩,⟨some 23,none,.iaddr 2 (.t 21) (.t 22),6,[5,4]⟩,⟨some 24,none,
 .load true 2 (.t 23),7,[6,5,4]⟩,⟨some 25,none,.call (.c (.fn 66 [])) [.t 20,.t 24],8,[7,6,5,4,3,2,1,0]⟩,⟨some 26,none,.un .not (.t 25),9,[8,7,6,5,4,3,2,1,0]⟩])
  (.cond (.t 26) (.seq (.reg [⟨some 4,none,.mov (.c (.v (.bool false))),0,[]⟩]) .ret) .skip))) (.reg [⟨some 15,none,.mov (.t 5),0,[]⟩,⟨some 16,none,.bin .add (.t 15)
  (.c (.v (.int .i64 1))),0,[]⟩,⟨some 5,none,.mov (.t 16),0,[]⟩])))))) (.seq (.reg [⟨some 4,none,.mov (.c (.v (.bool true))),0,[]⟩]) .ret)))⟩
theorem pf47_is : pfs 47 = some pf47 := by kernel_rfl
-- euclid/binary.read$1
def pf51 : PF := ⟨16,[],.seq (.reg [⟨some 5,none,.recov,0,[]⟩,⟨some 2,none,.mov (.t 5),0,[]⟩]) (.seq (.reg [⟨some 6,none,.mov (.t 2),0,[]⟩,⟨some 7,none,.eqi true (.t 6)
  (.c (.v .nilIface)),0,[]⟩]) (.cond (.t 7) (.seq (.seq (.reg [⟨some 9,none,.mov (.t 2),0,[]⟩,⟨some 10,none,.tass 91 true (.agg []) (.t 9),0,[]⟩,⟨some 8,none,.mov (.t 10)
 ,0,[]⟩,⟨some 11,none,.ext (.t 8) 0,0,[]⟩,⟨some 12,none,.ext (.t 8) 1,0,[]⟩,⟨some 3,none,.alloc [],0,[]⟩,⟨none,none,.store 0 (.t 3) (.t 11),0,[]⟩,⟨some 4,none,
 .mov (.t 12),0,[]⟩]) (.seq (.reg [⟨some 13,none,.mov (.t 4),0,[]⟩,⟨some 14,none,.un .not (.t 13),0,[]⟩]) (.cond (.t 14) (.reg [⟨some 15,none,.mov (.t 2),0,[]⟩,⟨none,
 none,.panic (.t 15),0,[]⟩]) .skip))) (.reg [⟨none,none,.store 1 (.t 0) (.c (.v (.int .i64 0))),0,[]⟩,⟨none,none,.store 1 (.t 1) (.c (.v (.int .i64 28))),0,[]⟩])) .skip))
 ⟩
theorem pf51_is : pfs 51 = some pf51 := by kernel_rfl
-- euclid/binary.measure
def pf52 : PF := ⟨48,[.t 6,.t 7],.seq (.reg [⟨some 3,none,.box (.t 0),0,[]⟩,⟨some 6,none,.mov (.c (.v (.int .i64 0))),0,[]⟩,⟨some 7,none,.mov (.c (.v (.int .i64 0))),0,[]⟩])
  (.seq (.reg [⟨some 8,none,.mov (.c (.v (.int .i64 1))),0,[]⟩,⟨some 9,none,.mov (.c (.v (.int .i64 0))),0,[]⟩]) (.seq (.seq (.reg [⟨some 14,none,.faddr 4 (.t 3),0,[]⟩,
 ⟨some 15,none,.load false 1 (.t 14),0,[]⟩,⟨some 16,none,.lenS (.t 15),0,[]⟩,⟨some 17,none,.mov (.c (.v (.int .i64 0))),0,[]⟩]) (.block 0 (.loop (.seq (.reg [⟨some 18,
 none,.bin .lss (.t 17) (.t 16),0,[]⟩]) (.seq (.cond (.t 18) .skip (.exit 0)) (.seq (.block 1 (.seq (.reg [⟨some 19,none,.iaddr 5 (.t 15) (.t 17),0,[]⟩,⟨some 20,none,
 .load true 5 (.t 19),0,[]⟩,⟨some 11,none,.alloc [.v (.int .i64 0),.v (.int .i64 0),.v (.string (ByteArray.mk #[])),.sl [] .nil,.sl [] .nil],0,[]⟩,⟨none,none,
 .store 5 (.t 11) (.t 20),0,[]⟩]) (.seq (.seq (.reg [⟨some 21,none,.mov (.t 8),0,[]⟩,⟨some 22,none,.mov (.t 1),0,[]⟩,⟨some 23,none,.bin .gtr (.t 21) (.t 22),0,[]⟩,
 ⟨some 24,none,.mov (.t 23),0,[]⟩,⟨some 25,some (24,false),.mov (.t 2),0,[]⟩,⟨some 26,some (24,false),.bin .lss (.t 25) (.c (.v (.int .i64 0))),0,[]⟩,⟨some 27,none,
 .pick (.t 24) (.c (.v (.bool true))) (.t 26),0,[]⟩]) (.cond (.t 27) (.exit 0) .skip)) (.seq (.reg [⟨some 29,none,.load true 5 (.t 11),0,[]⟩,⟨some 30,none,.mov (.t 1),0,
 []⟩,⟨some 31,none,.mov (.t 8),0,[]⟩,⟨some 32,none,.bin .sub (.t 30) (.t 31),0,[]⟩,⟨some 33,none,.mov (.t 2),0,[]⟩,⟨some 34,none,.bin .sub (.t 33) (.c (.v (.int .i64 1)))
 ,0,[]⟩,⟨some 35,none,.call (.c (.fn 52 [])) [.t 29,.t 32,.t 34],0,[]⟩,⟨some 28,none,.mov (.t 35),0,[]⟩,⟨some 36,none,.ext (.t 28) 0,0,[]⟩,⟨some 37,none,.ext (.t 28) 1,0,
 []⟩,⟨some 12,none,.mov (.t 36),0,[]⟩,⟨some 13,none,.mov (.t 37),0,[]⟩]) (.seq (.reg [⟨some 38,none,.mov (.t 8),0,[]⟩,⟨some 39,none,.mov (.t 12),0,[]⟩,⟨some 40,none,
 .bin .add (.t 38) (.t 39),0,[]⟩,⟨some 8,none,.mov (.t 40),0,[]⟩]) (.reg [⟨some 41,none,.mov (.t 9),0,[]⟩,⟨some 42,none,.mov (.t 13),0,[]⟩,⟨some 43,none,.max (.t 41)
  (.t 42),0,[]⟩,⟨some 9,none,.mov (.t 43),0,[]⟩])))))) (.reg [⟨some 44,none,.bin .add (.t 17) (.c (.v (.int .i64 1))),0,[]⟩,⟨some 17,none,.mov (.t 44),0,[]⟩])))))))
  (.seq (.reg [⟨some 45,none,.mov (.t 8),0,[]⟩,⟨some 46,none,.mov (.t 9),0,[]⟩,⟨some 47,none,.bin .add (.t 46) (.c (.v (.int .i64 1))),0,[]⟩,⟨some 6,none,.mov (.t 45),0,
 []⟩,⟨some 7,none,.mov (.t 47),0,[]⟩]) .ret)))⟩
theorem pf52_is : pfs 52 = some pf52 := by kernel_rfl
-- euclid/binary.allRight
def pf53 : PF := ⟨19,[.t 2],.seq (.reg [⟨some 1,none,.box (.t 0),0,[]⟩,⟨some 2,none,.mov (.c (.v (.bool false))),0,[]⟩]) (.seq (.seq (.reg [⟨some 5,none,.load true 5 (.t 1),0,[]⟩,
 ⟨some 6,none,.call (.c (.fn 61 [])) [.t 5],0,[]⟩,⟨some 7,none,.un .not (.t 6),0,[]⟩]) (.cond (.t 7) (.seq (.reg [⟨some 2,none,.mov (.c (.v (.bool false))),0,[]⟩]) .ret)
  .skip)) (.seq (.seq (.reg [⟨some 8,none,.faddr 4 (.t 1),0,[]⟩,⟨some 9,none,.load false 1 (.t 8),0,[]⟩,⟨some 10,none,.lenS (.t 9),0,[]⟩,⟨some 11,none,
 .mov (.c (.v (.int .i64 0))),0,[]⟩]) (.block 0 (.loop (.seq (.reg [⟨some 12,none,.bin .lss (.t 11) (.t 10),0,[]⟩]) (.seq (.cond (.t 12) .skip (.exit 0))
  (.seq (.block 1 (.seq (.reg [⟨some 13,none,.iaddr 5 (.t 9) (.t 11),0,[]⟩,⟨some 14,none,.load true 5 (.t 13),0,[]⟩,⟨some 4,none,.alloc [.v (.int .i64 0),.v (.int .i64 0)
 ,.v (.string (ByteArray.mk #[])),.sl [] .nil,.sl [] .nil],0,[]⟩,⟨none,none,.store 5 (.t 4) (.t 14),0,[]⟩]) (.seq (.reg [⟨some 15,none,.load true 5 (.t 4),0,[]⟩,⟨some 16,
 none,.call (.c (.fn 53 [])) [.t 15],0,[]⟩,⟨some 17,none,.un .not (.t 16),0,[]⟩]) (.cond (.t 17) (.seq (.reg [⟨some 2,none,.mov (.c (.v (.bool false))),0,[]⟩]) .ret)
  .skip)))) (.reg [⟨some 18,none,.bin .add (.t 11) (.c (.v (.int .i64 1))),0,[]⟩,⟨some 11,none,.mov (.t 18),0,[]⟩]))))))) (.seq (.reg [⟨some 2,none,
 .mov (.c (.v (.bool true))),0,[]⟩]) .ret)))⟩
theorem pf53_is : pfs 53 = some pf53 := by kernel_rfl
-- euclid/binary.appendLevel
def pf54 : PF := ⟨34,[.t 4],.seq (.reg [⟨some 3,none,.box (.t 1),0,[]⟩,⟨some 4,none,.mov (.c (.sl [] .nil)),0,[]⟩]) (.seq (.reg [⟨some 7,none,.mov (.t 0),0,[]⟩,⟨some 8,none,
 .faddr 0 (.t 3),0,[]⟩,⟨some 9,none,.load false 1 (.t 8),0,[]⟩,⟨some 10,none,.call (.c (.fn 30 [])) [.t 7,.t 9],0,[]⟩,⟨some 0,none,.mov (.t 10),0,[]⟩])
  (.seq (.reg [⟨some 11,none,.mov (.t 0),0,[]⟩,⟨some 12,none,.faddr 1 (.t 3),0,[]⟩,⟨some 13,none,.load false 1 (.t 12),0,[]⟩,⟨some 14,none,.lenS (.t 13),0,[]⟩,⟨some 15,
 none,.call (.c (.fn 30 [])) [.t 11,.t 14],0,[]⟩,⟨some 0,none,.mov (.t 15),0,[]⟩]) (.seq (.seq (.reg [⟨some 16,none,.faddr 1 (.t 3),0,[]⟩,⟨some 17,none,
 .load false 1 (.t 16),0,[]⟩,⟨some 18,none,.lenS (.t 17),0,[]⟩,⟨some 19,none,.mov (.c (.v (.int .i64 0))),0,[]⟩]) (.block 0 (.loop (.seq (.reg [⟨some 20,none,
 .bin .lss (.t 19) (.t 18),0,[]⟩]) (.seq (.cond (.t 20) .skip (.exit 0)) (.seq (.block 1 (.seq (.reg [⟨some 21,none,.iaddr 2 (.t 17) (.t 19),0,[]⟩,⟨some 22,none,
 .load true 2 (.t 21),0,[]⟩,⟨some 6,none,.alloc [.v (.int .i64 0),.v (.int .i64 0)],0,[]⟩,⟨none,none,.store 2 (.t 6) (.t 22),0,[]⟩]) (.seq (.reg [⟨some 23,none,
 .mov (.t 0),0,[]⟩,⟨some 24,none,.faddr 0 (.t 6),0,[]⟩,⟨some 25,none,.load false 1 (.t 24),0,[]⟩,⟨some 26,none,.bin .add (.t 25) (.c (.v (.int .i64 65536))),0,[]⟩,
 ⟨some 27,none,.call (.c (.fn 30 [])) [.t 23,.t 26],0,[]⟩,⟨some 0,none,.mov (.t 27),0,[]⟩]) (.reg [⟨some 28,none,.mov (.t 0),0,[]⟩,⟨some 29,none,.faddr 1 (.t 6),0,[]⟩,
 ⟨some 30,none,.load false 1 (.t 29),0,[]⟩,⟨some 31,none,.call (.c (.fn 30 [])) [.t 28,.t 30],0,[]⟩,⟨some 0,none,.mov (.t 31),0,[]⟩])))) (.reg [⟨some 32,none,
 .bin .add (.t 19) (.c (.v (.int .i64 1))),0,[]⟩,⟨some 19,none,.mov (.t 32),0,[]⟩]))))))) (.seq (.reg [⟨some 33,none,.mov (.t 0),0,[]⟩,⟨some 4,none,.mov (.t 33),0,[]⟩])
  .ret))))⟩
theorem pf54_is : pfs 54 = some pf54 := by kernel_rfl
-- euclid/binary.kids
def pf60 : PF := ⟨21,[.t 2],.seq (.reg [⟨some 2,none,.mov (.c (.v (.int .i64 0))),0,[]⟩]) (.seq (.seq (.reg [⟨some 3,none,.mov (.t 0),0,[]⟩]) (.block 0 (.seq (.seq (.reg [⟨some 5,none,
 .bin .eql (.t 3) (.c (.v (.int .i64 0))),0,[]⟩,⟨some 4,none,.mov (.t 5),0,[]⟩]) (.cond (.t 4) .skip (.seq (.reg [⟨some 6,none,.bin .eql (.t 3) (.c (.v (.int .i64 1))),0,
 []⟩,⟨some 4,none,.mov (.t 6),0,[]⟩]) (.cond (.t 4) .skip (.seq (.reg [⟨some 7,none,.bin .eql (.t 3) (.c (.v (.int .i64 2))),0,[]⟩,⟨some 4,none,.mov (.t 7),0,[]⟩])
  (.cond (.t 4) .skip (.seq (.reg [⟨some 8,none,.bin .eql (.t 3) (.c (.v (.int .i64 3))),0,[]⟩,⟨some 4,none,.mov (.t 8),0,[]⟩]) (.cond (.t 4) .skip (.reg [⟨some 9,none,
 .bin .eql (.t 3) (.c (.v (.int .i64 12))),0,[]⟩,⟨some 4,none,.mov (.t 9),0,[]⟩]))))))))) (.cond (.t 4) (.seq (.reg [⟨some 2,none,.mov (.c (.v (.int .i64 0))),0,[]⟩])
  .ret) (.seq (.seq (.reg [⟨some 11,none,.bin .eql (.t 3) (.c (.v (.int .i64 9))),0,[]⟩,⟨some 10,none,.mov (.t 11),0,[]⟩]) (.cond (.t 10) .skip (.reg [⟨some 12,none,
 .bin .eql (.t 3) (.c (.v (.int .i64 10))),0,[]⟩,⟨some 10,none,.mov (.t 12),0,[]⟩]))) (.cond (.t 10) (.seq (.reg [⟨some 2,none,.mov (.c (.v (.int .i64 1))),0,[]⟩]) .ret)
  (.seq (.seq (.reg [⟨some 14,none,.bin .eql (.t 3) (.c (.v (.int .i64 4))),0,[]⟩,⟨some 13,none,.mov (.t 14),0,[]⟩]) (.cond (.t 13) .skip (.seq (.reg [⟨some 15,none,
 .bin .eql (.t 3) (.c (.v (.int .i64 5))),0,[]⟩,⟨some 13,none,.mov (.t 15),0,[]⟩]) (.cond (.t 13) .skip (.seq (.reg [⟨some 16,none,.bin .eql (.t 3) (.c (.v (.int .i64 6))
 ),0,[]⟩,⟨some 13,none,.mov (.t 16),0,[]⟩]) (.cond (.t 13) .skip (.reg [⟨some 17,none,.bin .eql (.t 3) (.c (.v (.int .i64 7))),0,[]⟩,⟨some 13,none,.mov (.t 17),0,[]⟩]))))
 ))) (.cond (.t 13) (.seq (.reg [⟨some 2,none,.mov (.c (.v (.int .i64 2))),0,[]⟩]) .ret) (.seq (.seq (.reg [⟨some 19,none,.bin .eql (.t 3) (.c (.v (.int .i64 8))),0,[]⟩,
 ⟨some 18,none,.mov (.t 19),0,[]⟩]) (.cond (.t 18) .skip (.reg [⟨some 20,none,.bin .eql (.t 3) (.c (.v (.int .i64 11))),0,[]⟩,⟨some 18,none,.mov (.t 20),0,[]⟩])))
  (.cond (.t 18) (.seq (.reg [⟨some 2,none,.mov (.c (.v (.int .i64 3))),0,[]⟩]) .ret) .skip)))))))))) (.seq (.reg [⟨some 2,none,.mov (.c (.v (.int .i64 (-1)))),0,[]⟩])
  .ret))⟩
theorem pf60_is : pfs 60 = some pf60 := by kernel_rfl
-- euclid/binary.right
def pf61 : PF := ⟨76,[.t 2],.seq (.reg [⟨some 1,none,.box (.t 0),0,[]⟩,⟨some 2,none,.mov (.c (.v (.bool false))),0,[]⟩]) (.seq (.seq (.reg [⟨some 7,none,.faddr 3 (.t 1),0,[]⟩,⟨some 8,
 none,.load false 1 (.t 7),0,[]⟩,⟨some 9,none,.lenS (.t 8),0,[]⟩,⟨some 10,none,.mov (.c (.v (.int .i64 0))),0,[]⟩]) (.block 0 (.loop (.seq (.reg [⟨some 11,none,
 .bin .lss (.t 10) (.t 9),0,[]⟩]) (.seq (.cond (.t 11) .skip (.exit 0)) (.seq (.block 1 (.seq (.reg [⟨some 12,none,.iaddr 2 (.t 8) (.t 10),0,[]⟩,⟨some 13,none,
 .load true 2 (.t 12),0,[]⟩,⟨some 4,none,.alloc [.v (.int .i64 0),.sl [] .nil],0,[]⟩,⟨none,none,.store 2 (.t 4) (.t 13),0,[]⟩]) (.seq (.reg [⟨some 14,none,
 .load true 2 (.t 4),0,[]⟩,⟨some 15,none,.call (.c (.fn 67 [])) [.t 14],0,[]⟩,⟨some 16,none,.un .not (.t 15),0,[]⟩]) (.cond (.t 16) (.seq (.reg [⟨some 2,none,
 .mov (.c (.v (.bool false))),0,[]⟩]) .ret) .skip)))) (.reg [⟨some 17,none,.bin .add (.t 10) (.c (.v (.int .i64 1))),0,[]⟩,⟨some 10,none,.mov (.t 17),0,[]⟩])))))))
  (.seq (.reg [⟨some 5,none,.mov (.c (.v (.int .i64 0))),0,[]⟩,⟨some 6,none,.mov (.c (.v (.int .i64 0))),0,[]⟩]) (.seq (.seq (.reg [⟨some 18,none,.faddr 0 (.t 1),0,[]⟩,
 ⟨some 19,none,.load false 1 (.t 18),0,[]⟩]) (.block 2 (.seq (.reg [⟨some 21,none,.bin .eql (.t 19) (.c (.v (.int .i64 2))),0,[]⟩,⟨some 20,none,.mov (.t 21),0,[]⟩])
  (.cond (.t 20) (.reg [⟨some 5,none,.mov (.c (.v (.int .i64 1))),0,[]⟩,⟨some 6,none,.mov (.c (.v (.int .i64 1))),0,[]⟩]) (.seq (.reg [⟨some 23,none,.bin .eql (.t 19)
  (.c (.v (.int .i64 3))),0,[]⟩,⟨some 22,none,.mov (.t 23),0,[]⟩]) (.cond (.t 22) (.reg [⟨some 6,none,.mov (.c (.v (.int .i64 8))),0,[]⟩]) .skip))))))
  (.seq (.block 3 (.seq (.seq (.dreg [6,0] [⟨some 25,none,.faddr 4 (.t 1),0,[]⟩,⟨some 26,none,.load false 1 (.t 25),1,[0]⟩,⟨some 27,none,.lenS (.t 26),2,[1,0]⟩,⟨some 28,
 none,.faddr 0 (.t 1),3,[]⟩,⟨some 29,none,.load false 1 (.t 28),4,[3]⟩,⟨some 30,none,.call (.c (.fn 60 [])) [.t 29],5,[4,3]⟩,⟨some 31,none,.bin .neq (.t 27) (.t 30),6,[5,
 4,3,2,1,0]⟩,⟨some 24,none,.mov (.t 31),7,[6,5,4,3,2,1,0]⟩]) (.cond (.t 24) .skip (.seq (.reg [⟨some 32,none,.faddr 3 (.t 1),0,[]⟩,⟨some 33,none,.load false 1 (.t 32),0,
 []⟩,⟨some 34,none,.lenS (.t 33),0,[]⟩,⟨some 35,none,.mov (.t 5),0,[]⟩,⟨some 36,none,.bin .lss (.t 34) (.t 35),0,[]⟩,⟨some 24,none,.mov (.t 36),0,[]⟩]) (.cond (.t 24)
  .skip (.seq (.reg [⟨some 37,none,.faddr 3 (.t 1),0,[]⟩,⟨some 38,none,.load false 1 (.t 37),0,[]⟩,⟨some 39,none,.lenS (.t 38),0,[]⟩,⟨some 40,none,.mov (.t 6),0,[]⟩,
 ⟨some 41,none,.bin .gtr (.t 39) (.t 40),0,[]⟩,⟨some 24,none,.mov (.t 41),0,[]⟩]) (.cond (.t 24) .skip (.reg [⟨some 42,none,.faddr 2 (.t 1),0,[]⟩,⟨some 43,none,
 .load false 1 (.t 42),0,[]⟩,⟨some 44,none,.lenT (.t 43),0,[]⟩,⟨some 45,none,.bin .gtr (.t 44) (.c (.v (.int .i64 65536))),0,[]⟩,⟨some 24,none,.mov (.t 45),0,[]⟩])))))))
  (.cond (.t 24) (.seq (.reg [⟨some 2,none,.mov (.c (.v (.bool false))),0,[]⟩]) .ret) (.seq (.reg [⟨some 47,none,.faddr 0 (.t 1),0,[]⟩,⟨some 48,none,.load false 1 (.t 47)
 ,0,[]⟩,⟨some 49,none,.call (.c (.fn 68 [])) [.t 48],0,[]⟩,⟨some 46,none,.mov (.t 49),0,[]⟩]) (.cond (.t 46) (.seq (.reg [⟨some 50,none,.faddr 1 (.t 1),0,[]⟩,⟨some 51,
 none,.load false 1 (.t 50),0,[]⟩,⟨some 52,none,.bin .geq (.t 51) (.c (.v (.int .i64 0))),0,[]⟩,⟨some 53,none,.mov (.t 52),0,[]⟩,⟨some 54,some (53,true),.faddr 1 (.t 1),
 0,[]⟩,⟨some 55,some (53,true),.load false 1 (.t 54),0,[]⟩,⟨some 56,some (53,true),.bin .leq (.t 55) (.c (.v (.int .i64 2147483647))),0,[]⟩,⟨some 57,none,.pick (.t 53)
  (.t 56) (.c (.v (.bool false))),0,[]⟩,⟨some 58,none,.mov (.t 57),0,[]⟩,⟨some 59,some (58,true),.faddr 2 (.t 1),0,[]⟩,⟨some 60,some (58,true),.load false 1 (.t 59),0,[]⟩
 ,⟨some 61,some (58,true),.bin .eql (.t 60) (.c (.v (.string (ByteArray.mk #[])))),0,[]⟩,⟨some 62,none,.pick (.t 58) (.t 61) (.c (.v (.bool false))),0,[]⟩,⟨some 2,none,
 .mov (.t 62),0,[]⟩]) .ret) .skip))))) (.seq (.reg [⟨some 63,none,.faddr 1 (.t 1),0,[]⟩,⟨some 64,none,.load false 1 (.t 63),0,[]⟩,⟨some 65,none,.bin .eql (.t 64)
  (.c (.v (.int .i64 0))),0,[]⟩,⟨some 66,none,.mov (.t 65),0,[]⟩,⟨some 67,some (66,true),.faddr 0 (.t 1),0,[]⟩,⟨some 68,some (66,true),.load false 1 (.t 67),0,[]⟩,
 ⟨some 69,some (66,true),.bin .eql (.t 68) (.c (.v (.int .i64 3))),0,[]⟩,⟨some 70,some (66,true),.mov (.t 69),0,[]⟩,⟨some 71,some (70,false),.faddr 2 (.t 1),0,[]⟩,
 ⟨some 72,some (70,false),.load false 1 (.t 71),0,[]⟩,⟨some 73,some (70,false),.bin .eql (.t 72) (.c (.v (.string (ByteArray.mk #[])))),0,[]⟩,⟨some 74,some (66,true),
 .pick (.t 70) (.c (.v (.bool true))) (.t 73),0,[]⟩,⟨some 75,none,.pick (.t 66) (.t 74) (.c (.v (.bool false))),0,[]⟩,⟨some 2,none,.mov (.t 75),0,[]⟩]) .ret)))))⟩
theorem pf61_is : pfs 61 = some pf61 := by kernel_rfl
-- euclid/euclidref01.Same
def pf66 : PF := ⟨38,[.t 4],.seq (.reg [⟨some 2,none,.box (.t 0),0,[]⟩,⟨some 3,none,.box (.t 1),0,[]⟩,⟨some 4,none,.mov (.c (.v (.bool false))),0,[]⟩]) (.seq (.seq (.reg [⟨some 6,none,
 .faddr 0 (.t 2),0,[]⟩,⟨some 7,none,.load false 1 (.t 6),0,[]⟩,⟨some 8,none,.faddr 0 (.t 3),0,[]⟩,⟨some 9,none,.load false 1 (.t 8),0,[]⟩,⟨some 10,none,.bin .neq (.t 7)
  (.t 9),0,[]⟩,⟨some 11,none,.mov (.t 10),0,[]⟩,⟨some 12,some (11,false),.faddr 1 (.t 2),0,[]⟩,⟨some 13,some (11,false),.load false 1 (.t 12),0,[]⟩,⟨some 14,some (11,
 false),.lenS (.t 13),0,[]⟩,⟨some 15,some (11,false),.faddr 1 (.t 3),0,[]⟩,⟨some 16,some (11,false),.load false 1 (.t 15),0,[]⟩,⟨some 17,some (11,false),.lenS (.t 16),0,
 []⟩,⟨some 18,some (11,false),.bin .neq (.t 14) (.t 17),0,[]⟩,⟨some 19,none,.pick (.t 11) (.c (.v (.bool true))) (.t 18),0,[]⟩]) (.cond (.t 19) (.seq (.reg [⟨some 4,none,
 .mov (.c (.v (.bool false))),0,[]⟩]) .ret) .skip)) (.seq (.seq (.reg [⟨some 5,none,.mov (.c (.v (.int .i64 0))),0,[]⟩]) (.block 0 (.loop (.seq (.seq (.reg [⟨some 20,
 none,.mov (.t 5),0,[]⟩,⟨some 21,none,.faddr 1 (.t 2),0,[]⟩,⟨some 22,none,.load false 1 (.t 21),0,[]⟩,⟨some 23,none,.lenS (.t 22),0,[]⟩,⟨some 24,none,.bin .lss (.t 20)
  (.t 23),0,[]⟩]) (.cond (.t 24) .skip (.exit 0))) (.seq (.block 1 (.seq (.dreg [10] [⟨some 27,none,.faddr 1 (.t 2),0,[]⟩,⟨some 28,none,.load false 1 (.t 27),1,[0]⟩,
 ⟨some 29,none,.mov (.t 5),2,[]⟩,⟨some 30,none,.iaddr 2 (.t 28) (.t 29),3,[2,1,0]⟩,⟨some 31,none,.load true 2 (.t 30),4,[3,2,1,0]⟩,⟨some 32,none,.faddr 1 (.t 3),5,[]⟩,
 ⟨some 33,none,.load false 1 (.t 32),6,[5]⟩,⟨some 34,none,.mov (.t 5),7,[]⟩,⟨some 35,none,.iaddr 2 (.t 33) (.t 34),8,[7,6,5]⟩,⟨some 36,none,.load true 2 (.t 35),9,[8,7,6,
 5]⟩,⟨some 37,none,.eqg true [false,false] (.t 31) (.t 36),10,[9,8,7,6,5,4,3,2,1,0]⟩]) (.cond (.t 37) (.seq (.reg [⟨some 4,none,.mov (.c (.v (.bool false))),0,[]⟩]) .ret)
  .skip))) (.reg [⟨some 25,none,.mov (.t 5),0,[]⟩,⟨some 26,none,.bin .add (.t 25) (.c (.v (.int .i64 1))),0,[]⟩,⟨some 5,none,.mov (.t 26),0,[]⟩]))))))
  (.seq (.reg [⟨some 4,none,.mov (.c (.v (.bool true))),0,[]⟩]) .ret)))⟩
theorem pf66_is : pfs 66 = some pf66 := by kernel_rfl
-- euclid/level.Valid
def pf67 : PF := ⟨65,[.t 2],.seq (.reg [⟨some 1,none,.box (.t 0),0,[]⟩,⟨some 2,none,.mov (.c (.v (.bool false))),0,[]⟩]) (.seq (.seq (.reg [⟨some 5,none,.faddr 0 (.t 1),0,[]⟩,⟨some 6,
 none,.load false 1 (.t 5),0,[]⟩,⟨some 7,none,.bin .lss (.t 6) (.c (.v (.int .i64 0))),0,[]⟩,⟨some 8,none,.mov (.t 7),0,[]⟩,⟨some 9,some (8,false),.faddr 0 (.t 1),0,[]⟩,
 ⟨some 10,some (8,false),.load false 1 (.t 9),0,[]⟩,⟨some 11,some (8,false),.bin .gtr (.t 10) (.c (.v (.int .i64 100))),0,[]⟩,⟨some 12,none,.pick (.t 8)
  (.c (.v (.bool true))) (.t 11),0,[]⟩,⟨some 13,none,.mov (.t 12),0,[]⟩,⟨some 14,some (13,false),.faddr 0 (.t 1),0,[]⟩,⟨some 15,some (13,false),.load false 1 (.t 14),0,[]
 ⟩,⟨some 16,some (13,false),.bin .gtr (.t 15) (.c (.v (.int .i64 0))),0,[]⟩,⟨some 17,some (13,false),.mov (.t 16),0,[]⟩,⟨some 18,some (17,true),.load true 2 (.t 1),0,[]⟩,
 ⟨some 19,some (17,true),.call (.c (.fn 70 [])) [.t 18],0,[]⟩,⟨some 20,some (13,false),.pick (.t 17) (.t 19) (.c (.v (.bool false))),0,[]⟩,⟨some 21,none,.pick (.t 13)
  (.c (.v (.bool true))) (.t 20),0,[]⟩]) (.cond (.t 21) (.seq (.reg [⟨some 2,none,.mov (.c (.v (.bool false))),0,[]⟩]) .ret) .skip)) (.seq (.seq (.reg [⟨some 22,none,
 .faddr 1 (.t 1),0,[]⟩,⟨some 23,none,.load false 1 (.t 22),0,[]⟩,⟨some 24,none,.lenS (.t 23),0,[]⟩,⟨some 25,none,.mov (.c (.v (.int .i64 0))),0,[]⟩])
  (.block 0 (.loop (.seq (.reg [⟨some 26,none,.bin .lss (.t 25) (.t 24),0,[]⟩]) (.seq (.cond (.t 26) .skip (.exit 0)) (.seq (.block 1 (.seq (.reg [⟨some 27,none,
 .mov (.t 25),0,[]⟩,⟨some 28,none,.iaddr 2 (.t 23) (.t 25),0,[]⟩,⟨some 29,none,.load true 2 (.t 28),0,[]⟩,⟨some 4,none,.alloc [.v (.int .i64 0),.v (.int .i64 0)],0,[]⟩,
 ⟨some 3,none,.mov (.t 27),0,[]⟩,⟨none,none,.store 2 (.t 4) (.t 29),0,[]⟩]) (.seq (.dreg [0,0,0,0,0,0,0,0,0,0,0,0,0,0,0,0,0,0,0,0,0,0,9,0,0] [⟨some 30,none,
 .faddr 0 (.t 4),0,[]⟩,⟨some 31,none,.load false 1 (.t 30),1,[0]⟩,⟨some 32,none,.bin .lss (.t 31) (.c (.v (.int .i64 (-65536)))),2,[1,0]⟩,⟨some 33,none,.mov (.t 32),3,[2,
 1,0]⟩,⟨some 34,some (33,false),.faddr 0 (.t 4),4,[3,2,1,0]⟩,⟨some 35,some (33,false),.load false 1 (.t 34),5,[4,3,2,1,0]⟩,⟨some 36,some (33,false),.bin .gtr (.t 35)
  (.c (.v (.int .i64 7))),6,[5,4,3,2,1,0]⟩,⟨some 37,none,.pick (.t 33) (.c (.v (.bool true))) (.t 36),7,[6,5,4,3,2,1,0]⟩,⟨some 38,none,.mov (.t 37),8,[7,6,5,4,3,2,1,0]⟩,
 ⟨some 39,some (38,false),.faddr 1 (.t 4),9,[8,7,6,5,4,3,2,1,0]⟩,⟨some 40,some (38,false),.load false 1 (.t 39),10,[9,8,7,6,5,4,3,2,1,0]⟩,⟨some 41,some (38,false),
 .bin .lss (.t 40) (.c (.v (.int .i64 0))),11,[10,9,8,7,6,5,4,3,2,1,0]⟩,⟨some 42,none,.pick (.t 38) (.c (.v (.bool true))) (.t 41),12,[11,10,9,8,7,6,5,4,3,2,1,0]⟩,
 ⟨some 43,none,.mov (.t 42),13,[12,11,10,9,8,7,6,5,4,3,2,1,0]⟩,⟨some 44,some (43,false),.faddr 1 (.t 4),14,[13,12,11,10,9,8,7,6,5,4,3,2,1,0]⟩,⟨some 45,some (43,false),
 .load false 1 (.t 44),15,[14,13,12,11,10,9,8,7,6,5,4,3,2,1,0]⟩,⟨some 46,some (43,false),.bin .gtr (.t 45) (.c (.v (.int .i64 100))),16,[15,14,13,12,11,10,9,8,7,6,5,4,3,
 2,1,0]⟩,⟨some 47,none,.pick (.t 43) (.c (.v (.bool true))) (.t 46),17,[16,15,14,13,12,11,10,9,8,7,6,5,4,3,2,1,0]⟩,⟨some 48,none,.mov (.t 47),18,[17,16,15,14,13,12,11,10,
 9,8,7,6,5,4,3,2,1,0]⟩,⟨some 49,some (48,false),.mov (.t 3),19,[18,17,16,15,14,13,12,11,10,9,8,7,6,5,4,3,2,1,0]⟩,⟨some 50,some (48,false),.bin .gtr (.t 49)
  (.c (.v (.int .i64 0))),20,[19,18,17,16,15,14,13,12,11,10,9,8,7,6,5,4,3,2,1,0]⟩,⟨some 51,some (48,false),.mov (.t 50),21,[20,19,18,17,16,15,14,13,12,11,10,9,8,7,6,5,4,
 3,2,1,0]⟩,⟨some 52,some (51,true),.faddr 1 (.t 1),22,[21,20,19,18,17,16,15,14,13,12,11,10,9,8,7,6,5,4,3,2,1,0]⟩,⟨some 53,some (51,true),.load false 1 (.t 52),23,[22,21,
 20,19,18,17,16,15,14,13,12,11,10,9,8,7,6,5,4,3,2,1,0]⟩,⟨some 54,some (51,true),.mov (.t 3),24,[21,20,19,18,17,16,15,14,13,12,11,10,9,8,7,6,5,4,3,2,1,0]⟩,⟨some 55,
 some (51,true),.bin .sub (.t 54) (.c (.v (.int .i64 1))),25,[24,21,20,19,18,17,16,15,14,13,12,11,10,9,8,7,6,5,4,3,2,1,0]⟩,⟨some 56,some (51,true),.iaddr 2 (.t 53)
  (.t 55),26,[25,24,23,22,21,20,19,18,17,16,15,14,13,12,11,10,9,8,7,6,5,4,3,2,1,0]⟩,⟨some 57,some (51,true),.faddr 0 (.t 56),27,[26,25,24,23,22,21,20,19,18,17,16,15,14,
 13,12,11,10,9,8,7,6,5,4,3,2,1,0]⟩,⟨some 58,some (51,true),.load false 1 (.t 57),28,[27,26,25,24,23,22,21,20,19,18,17,16,15,14,13,12,11,10,9,8,7,6,5,4,3,2,1,0]⟩,⟨some 59,
 some (51,true),.faddr 0 (.t 4),29,[21,20,19,18,17,16,15,14,13,12,11,10,9,8,7,6,5,4,3,2,1,0]⟩,⟨some 60,some (51,true),.load false 1 (.t 59),30,[29,21,20,19,18,17,16,15,
 14,13,12,11,10,9,8,7,6,5,4,3,2,1,0]⟩,⟨some 61,some (51,true),.bin .geq (.t 58) (.t 60),31,[30,29,28,27,26,25,24,23,22,21,20,19,18,17,16,15,14,13,12,11,10,9,8,7,6,5,4,3,
 2,1,0]⟩,⟨some 62,some (48,false),.pick (.t 51) (.t 61) (.c (.v (.bool false))),32,[31,30,29,28,27,26,25,24,23,22,21,20,19,18,17,16,15,14,13,12,11,10,9,8,7,6,5,4,3,2,1,0]
 ⟩,⟨some 63,none,.pick (.t 48) (.c (.v (.bool true))) (.t 62),33,[32,31,30,29,28,27,26,25,24,23,22,21,20,19,18,17,16,15,14,13,12,11,10,9,8,7,6,5,4,3,2,1,0]⟩])
  (.cond (.t 63) (.seq (.reg [⟨some 2,none,.mov (.c (.v (.bool false))),0,[]⟩]) .ret) .skip)))) (.reg [⟨some 64,none,.bin .add (.t 25) (.c (.v (.int .i64 1))),0,[]⟩,
 ⟨some 25,none,.mov (.t 64),0,[]⟩]))))))) (.seq (.reg [⟨some 2,none,.mov (.c (.v (.bool true))),0,[]⟩]) .ret)))⟩
theorem pf67_is : pfs 67 = some pf67 := by kernel_rfl
-- euclid/binary.indexed
def pf68 : PF := ⟨9,[.t 2],.seq (.reg [⟨some 2,none,.mov (.c (.v (.bool false))),0,[]⟩]) (.seq (.reg [⟨some 3,none,.mov (.t 0),0,[]⟩,⟨some 4,none,.bin .eql (.t 3) (.c (.v (.int .i64 0)))
 ,0,[]⟩,⟨some 5,none,.mov (.t 4),0,[]⟩,⟨some 6,some (5,false),.mov (.t 0),0,[]⟩,⟨some 7,some (5,false),.bin .eql (.t 6) (.c (.v (.int .i64 12))),0,[]⟩,⟨some 8,none,
 .pick (.t 5) (.c (.v (.bool true))) (.t 7),0,[]⟩,⟨some 2,none,.mov (.t 8),0,[]⟩]) .ret)⟩
theorem pf68_is : pfs 68 = some pf68 := by kernel_rfl
-- euclid/level.covered
def pf70 : PF := ⟨7,[.t 2],.seq (.reg [⟨some 1,none,.box (.t 0),0,[]⟩,⟨some 2,none,.mov (.c (.v (.bool false))),0,[]⟩]) (.seq (.reg [⟨some 3,none,.faddr 1 (.t 1),0,[]⟩,⟨some 4,none,
 .load false 1 (.t 3),0,[]⟩,⟨some 5,none,.mkfn 72 [.t 1],0,[]⟩,⟨some 6,none,.call (.c (.fn 71 [])) [.t 4,.t 5],0,[]⟩,⟨some 2,none,.mov (.t 6),0,[]⟩]) .ret)⟩
theorem pf70_is : pfs 70 = some pf70 := by kernel_rfl
-- slices.ContainsFunc[[]euclid/api.LevelVar,euclid/api.LevelVar]
def pf71 : PF := ⟨9,[.t 4],.seq (.reg [⟨some 4,none,.mov (.c (.v (.bool false))),0,[]⟩]) (.seq (.reg [⟨some 5,none,.mov (.t 0),0,[]⟩,⟨some 6,none,.mov (.t 1),0,[]⟩,⟨some 7,none,
 .call (.c (.fn 73 [])) [.t 5,.t 6],0,[]⟩,⟨some 8,none,.bin .geq (.t 7) (.c (.v (.int .i64 0))),0,[]⟩,⟨some 4,none,.mov (.t 8),0,[]⟩]) .ret)⟩
theorem pf71_is : pfs 71 = some pf71 := by kernel_rfl
-- euclid/level.covered$1
def pf72 : PF := ⟨9,[.t 3],.seq (.reg [⟨some 2,none,.box (.t 0),0,[]⟩,⟨some 3,none,.mov (.c (.v (.bool false))),0,[]⟩]) (.seq (.reg [⟨some 4,none,.faddr 1 (.t 2),0,[]⟩,⟨some 5,none,
 .load false 1 (.t 4),0,[]⟩,⟨some 6,none,.faddr 0 (.t 1),0,[]⟩,⟨some 7,none,.load false 1 (.t 6),0,[]⟩,⟨some 8,none,.bin .geq (.t 5) (.t 7),0,[]⟩,⟨some 3,none,.mov (.t 8)
 ,0,[]⟩]) .ret)⟩
theorem pf72_is : pfs 72 = some pf72 := by kernel_rfl
-- slices.IndexFunc[[]euclid/api.LevelVar,euclid/api.LevelVar]
def pf73 : PF := ⟨19,[.t 4],.seq (.reg [⟨some 4,none,.mov (.c (.v (.int .i64 0))),0,[]⟩]) (.seq (.seq (.reg [⟨some 6,none,.mov (.t 0),0,[]⟩,⟨some 7,none,.lenS (.t 6),0,[]⟩,⟨some 8,none,
 .mov (.c (.v (.int .i64 0))),0,[]⟩]) (.block 0 (.loop (.seq (.reg [⟨some 9,none,.bin .lss (.t 8) (.t 7),0,[]⟩]) (.seq (.cond (.t 9) .skip (.exit 0))
  (.seq (.block 1 (.seq (.reg [⟨some 10,none,.mov (.t 8),0,[]⟩,⟨some 5,none,.mov (.t 10),0,[]⟩]) (.seq (.reg [⟨some 11,none,.mov (.t 1),0,[]⟩,⟨some 12,none,.mov (.t 0),0,
 []⟩,⟨some 13,none,.mov (.t 5),0,[]⟩,⟨some 14,none,.iaddr 2 (.t 12) (.t 13),0,[]⟩,⟨some 15,none,.load true 2 (.t 14),0,[]⟩,⟨some 16,none,.call (.t 11) [.t 15],0,[]⟩])
  (.cond (.t 16) (.seq (.reg [⟨some 17,none,.mov (.t 5),0,[]⟩,⟨some 4,none,.mov (.t 17),0,[]⟩]) .ret) .skip)))) (.reg [⟨some 18,none,.bin .add (.t 8)
  (.c (.v (.int .i64 1))),0,[]⟩,⟨some 8,none,.mov (.t 18),0,[]⟩]))))))) (.seq (.reg [⟨some 4,none,.mov (.c (.v (.int .i64 (-1)))),0,[]⟩]) .ret))⟩
theorem pf73_is : pfs 73 = some pf73 := by kernel_rfl
end Go.Proofs.Eng
