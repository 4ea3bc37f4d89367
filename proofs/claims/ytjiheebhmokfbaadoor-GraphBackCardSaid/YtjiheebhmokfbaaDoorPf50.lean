/- The prepared code of the functions. No conditions. -/
import Derived.Test.YtjiheebhmokfbaaDoorAP
set_option linter.all false
set_option linter.deprecated false
set_option linter.unnecessarySimpa false
set_option linter.unusedVariables false
set_option linter.unusedSimpArgs false
set_option linter.defProp false
namespace Go.Proofs.Eng
open Go Go.Proofs
def sharedF : List Nat := [2000032, 43, 44, 47, 53, 54, 55, 59, 69, 72, 73, 75, 76, 89, 90, 92]
def rawF : List Nat := [42, 68, 71, 84, 87, 98, 104]
def md (f : Nat) : Md := if rawF.contains f then .raw else if sharedF.contains f then .shared else .pure
def bf : Bf := ⟨false, fun g => rawF.contains g || sharedF.contains g, fun _ _ _ _ => none⟩
noncomputable def pfs (f : Nat) : Option PF := if f = 103 then some ⟨0, [], .ora numO⟩ else if f = 104 then some ⟨0, [], .ora fmtO⟩ else prepF Tryd.prog bf f
theorem pfsOK : PfsOK Tryd.prog pfs := fun f pf h => by
 unfold pfs at h
 split at h
 ·rename_i hf
  subst hf
  simp only [Option.some.injEq] at h; subst h
  exact .inr (.inl ⟨_, rfl, num_ok⟩)
 ·split at h
  ·rename_i hf
   subst hf
   simp only [Option.some.injEq] at h; subst h
   exact .inr (.inl ⟨_, rfl, fmt_ok⟩)
  ·exact .inl ⟨_, h⟩
theorem hm : Tryd.prog.follows .mixedOrders = true := by kernel_rfl
set_option maxRecDepth 100000
def pf8 : PF := ⟨120,[.t 4],.seq (.reg [⟨some 2,none,.box (.t 0),0,[]⟩,⟨some 3,none,.box (.t 1),0,[]⟩,⟨some 4,none,.mov (.c (.v (.bool false))),0,[]⟩]) (.seq (.seq (.reg [⟨some 20,none,
 .load true 5 (.t 2),0,[]⟩,⟨some 21,none,.call (.c (.fn 14 [])) [.t 20,.c (.v (.int .i64 60))],0,[]⟩,⟨some 19,none,.mov (.t 21),0,[]⟩,⟨some 22,none,.ext (.t 19) 0,0,[]⟩,
 ⟨some 23,none,.ext (.t 19) 1,0,[]⟩,⟨some 5,none,.mov (.t 22),0,[]⟩,⟨some 6,none,.mov (.t 23),0,[]⟩]) (.seq (.reg [⟨some 24,none,.mov (.t 6),0,[]⟩,⟨some 25,none,
 .un .not (.t 24),0,[]⟩,⟨some 26,none,.mov (.t 25),0,[]⟩,⟨some 27,some (26,false),.load true 5 (.t 2),0,[]⟩,⟨some 28,some (26,false),.call (.c (.fn 27 [])) [.t 27],0,[]⟩,
 ⟨some 29,some (26,false),.bin .neq (.t 28) (.c (.v (.int .i64 0))),0,[]⟩,⟨some 30,none,.pick (.t 26) (.c (.v (.bool true))) (.t 29),0,[]⟩]) (.cond (.t 30)
  (.seq (.reg [⟨some 31,none,.call (.c (.fn 11 [])) [],0,[]⟩,⟨some 4,none,.mov (.t 31),0,[]⟩]) .ret) .skip))) (.seq (.seq (.reg [⟨some 33,none,.load true 5 (.t 3),0,[]⟩,
 ⟨some 34,none,.call (.c (.fn 14 [])) [.t 33,.c (.v (.int .i64 60))],0,[]⟩,⟨some 32,none,.mov (.t 34),0,[]⟩,⟨some 35,none,.ext (.t 32) 0,0,[]⟩,⟨some 36,none,.ext (.t 32)
  1,0,[]⟩,⟨some 7,none,.mov (.t 35),0,[]⟩,⟨some 8,none,.mov (.t 36),0,[]⟩]) (.seq (.reg [⟨some 37,none,.mov (.t 8),0,[]⟩,⟨some 38,none,.un .not (.t 37),0,[]⟩,⟨some 39,
 none,.mov (.t 38),0,[]⟩,⟨some 40,some (39,false),.load true 5 (.t 3),0,[]⟩,⟨some 41,some (39,false),.call (.c (.fn 27 [])) [.t 40],0,[]⟩,⟨some 42,some (39,false),
 .bin .neq (.t 41) (.c (.v (.int .i64 0))),0,[]⟩,⟨some 43,none,.pick (.t 39) (.c (.v (.bool true))) (.t 42),0,[]⟩]) (.cond (.t 43) (.seq (.reg [⟨some 44,none,
 .call (.c (.fn 11 [])) [],0,[]⟩,⟨some 4,none,.mov (.t 44),0,[]⟩]) .ret) .skip))) (.seq (.reg [⟨some 46,none,.build [.sl [] .nil] [],0,[]⟩,⟨some 47,none,
 .load true 5 (.t 2),0,[]⟩,⟨some 48,none,.call (.c (.fn 16 [])) [.t 46,.t 47],0,[]⟩,⟨some 45,none,.mov (.t 48),0,[]⟩,⟨some 49,none,.ext (.t 45) 0,0,[]⟩,⟨some 50,none,
 .ext (.t 45) 1,0,[]⟩,⟨some 51,none,.ext (.t 45) 2,0,[]⟩,⟨some 9,none,.alloc [.sl [] .nil],0,[]⟩,⟨none,none,.store 1 (.t 9) (.t 49),0,[]⟩,⟨some 10,none,.mov (.t 50),0,[]⟩
 ,⟨some 11,none,.mov (.t 51),0,[]⟩]) (.seq (.reg [⟨some 53,none,.load true 1 (.t 9),0,[]⟩,⟨some 54,none,.load true 5 (.t 3),0,[]⟩,⟨some 55,none,.call (.c (.fn 16 []))
  [.t 53,.t 54],0,[]⟩,⟨some 52,none,.mov (.t 55),0,[]⟩,⟨some 56,none,.ext (.t 52) 0,0,[]⟩,⟨some 57,none,.ext (.t 52) 1,0,[]⟩,⟨some 58,none,.ext (.t 52) 2,0,[]⟩,⟨some 12,
 none,.alloc [.sl [] .nil],0,[]⟩,⟨none,none,.store 1 (.t 12) (.t 56),0,[]⟩,⟨some 13,none,.mov (.t 57),0,[]⟩,⟨some 14,none,.mov (.t 58),0,[]⟩]) (.seq (.seq (.dreg [0,0,0,
 0,0,0,0,7,0,0,0,0,0,0] [⟨some 59,none,.mov (.t 11),0,[]⟩,⟨some 60,none,.bin .neq (.t 59) (.c (.v (.int .i64 0))),1,[0]⟩,⟨some 61,none,.mov (.t 60),2,[1,0]⟩,⟨some 62,
 some (61,false),.mov (.t 14),3,[2,1,0]⟩,⟨some 63,some (61,false),.bin .neq (.t 62) (.c (.v (.int .i64 0))),4,[3,2,1,0]⟩,⟨some 64,none,.pick (.t 61) (.c (.v (.bool true))
 ) (.t 63),5,[4,3,2,1,0]⟩,⟨some 65,none,.mov (.t 64),6,[5,4,3,2,1,0]⟩,⟨some 66,some (65,false),.faddr 0 (.t 12),7,[6,5,4,3,2,1,0]⟩,⟨some 67,some (65,false),
 .load false 1 (.t 66),8,[7,6,5,4,3,2,1,0]⟩,⟨some 68,some (65,false),.lenS (.t 67),9,[8,7,6,5,4,3,2,1,0]⟩,⟨some 69,some (65,false),.load true 5 (.t 2),10,[6,5,4,3,2,1,0]⟩
 ,⟨some 70,some (65,false),.load true 5 (.t 3),11,[6,5,4,3,2,1,0]⟩,⟨some 71,some (65,false),.bsl (.agg [.v (.int .i64 0),.v (.int .i64 0),.v (.string (ByteArray.mk #[])),
 .sl [] .nil,.sl [] .nil]) 2 [(0,5,.t 69),(5,5,.t 70)],12,[11,10,6,5,4,3,2,1,0]⟩,⟨some 72,some (65,false),.call (.c (.fn 28 [])) [.t 71],13,[12,11,10,6,5,4,3,2,1,0]⟩,
 ⟨some 73,some (65,false),.bin .neq (.t 68) (.t 72),14,[13,12,11,10,9,8,7,6,5,4,3,2,1,0]⟩,⟨some 74,none,.pick (.t 65) (.c (.v (.bool true))) (.t 73),15,[14,13,12,11,10,9,
 8,7,6,5,4,3,2,1,0]⟩,⟨some 75,none,.mov (.t 74),16,[15,14,13,12,11,10,9,8,7,6,5,4,3,2,1,0]⟩,⟨some 76,some (75,false),.load true 1 (.t 12),17,[16,15,14,13,12,11,10,9,8,7,
 6,5,4,3,2,1,0]⟩,⟨some 77,some (75,false),.call (.c (.fn 12 [])) [.t 76],18,[17,16,15,14,13,12,11,10,9,8,7,6,5,4,3,2,1,0]⟩,⟨some 78,some (75,false),.bin .neq (.t 77)
  (.c (.v (.int .i64 0))),19,[18,17,16,15,14,13,12,11,10,9,8,7,6,5,4,3,2,1,0]⟩,⟨some 79,none,.pick (.t 75) (.c (.v (.bool true))) (.t 78),20,[19,18,17,16,15,14,13,12,11,
 10,9,8,7,6,5,4,3,2,1,0]⟩]) (.cond (.t 79) (.seq (.reg [⟨some 4,none,.mov (.c (.v (.bool false))),0,[]⟩]) .ret) .skip)) (.seq (.reg [⟨some 81,none,.load true 1 (.t 12),0,
 []⟩,⟨some 82,none,.mov (.t 10),0,[]⟩,⟨some 83,none,.call (.c (.fn 29 [])) [.t 81,.t 82],0,[]⟩,⟨some 80,none,.mov (.t 83),0,[]⟩,⟨some 84,none,.ext (.t 80) 0,0,[]⟩,
 ⟨some 85,none,.ext (.t 80) 1,0,[]⟩,⟨some 15,none,.alloc [.v (.int .i64 0),.v (.int .i64 0),.v (.string (ByteArray.mk #[])),.sl [] .nil,.sl [] .nil],0,[]⟩,⟨none,none,
 .store 5 (.t 15) (.t 84),0,[]⟩,⟨some 16,none,.mov (.t 85),0,[]⟩]) (.seq (.reg [⟨some 87,none,.load true 1 (.t 12),0,[]⟩,⟨some 88,none,.mov (.t 13),0,[]⟩,⟨some 89,none,
 .call (.c (.fn 29 [])) [.t 87,.t 88],0,[]⟩,⟨some 86,none,.mov (.t 89),0,[]⟩,⟨some 90,none,.ext (.t 86) 0,0,[]⟩,⟨some 91,none,.ext (.t 86) 1,0,[]⟩,⟨some 17,none,
 .alloc [.v (.int .i64 0),.v (.int .i64 0),.v (.string (ByteArray.mk #[])),.sl [] .nil,.sl [] .nil],0,[]⟩,⟨none,none,.store 5 (.t 17) (.t 90),0,[]⟩,⟨some 18,none,
 .mov (.t 91),0,[]⟩]) (.seq (.reg [⟨some 92,none,.mov (.t 16),0,[]⟩,⟨some 93,none,.bin .eql (.t 92) (.c (.v (.int .i64 0))),0,[]⟩,⟨some 94,none,.mov (.t 93),0,[]⟩,
 ⟨some 95,some (94,true),.mov (.t 18),0,[]⟩,⟨some 96,some (94,true),.bin .eql (.t 95) (.c (.v (.int .i64 0))),0,[]⟩,⟨some 97,none,.pick (.t 94) (.t 96)
  (.c (.v (.bool false))),0,[]⟩,⟨some 98,none,.mov (.t 97),0,[]⟩,⟨some 99,some (98,true),.load true 5 (.t 15),0,[]⟩,⟨some 100,some (98,true),.load true 5 (.t 2),0,[]⟩,
 ⟨some 101,some (98,true),.call (.c (.fn 30 [])) [.t 99,.t 100],0,[]⟩,⟨some 102,none,.pick (.t 98) (.t 101) (.c (.v (.bool false))),0,[]⟩,⟨some 103,none,.mov (.t 102),0,
 []⟩,⟨some 104,some (103,true),.load true 5 (.t 17),0,[]⟩,⟨some 105,some (103,true),.load true 5 (.t 3),0,[]⟩,⟨some 106,some (103,true),.call (.c (.fn 30 [])) [.t 104,
 .t 105],0,[]⟩,⟨some 107,none,.pick (.t 103) (.t 106) (.c (.v (.bool false))),0,[]⟩,⟨some 108,none,.mov (.t 107),0,[]⟩,⟨some 109,some (108,true),.mov (.t 10),0,[]⟩,
 ⟨some 110,some (108,true),.mov (.t 13),0,[]⟩,⟨some 111,some (108,true),.bin .eql (.t 109) (.t 110),0,[]⟩,⟨some 112,some (108,true),.load true 5 (.t 2),0,[]⟩,⟨some 113,
 some (108,true),.load true 5 (.t 3),0,[]⟩,⟨some 114,some (108,true),.call (.c (.fn 30 [])) [.t 112,.t 113],0,[]⟩,⟨some 115,some (108,true),.eqb false (.t 111) (.t 114),
 0,[]⟩,⟨some 116,none,.pick (.t 108) (.t 115) (.c (.v (.bool false))),0,[]⟩,⟨some 117,none,.mov (.t 116),0,[]⟩,⟨some 118,some (117,true),.call (.c (.fn 11 [])) [],0,[]⟩,
 ⟨some 119,none,.pick (.t 117) (.t 118) (.c (.v (.bool false))),0,[]⟩,⟨some 4,none,.mov (.t 119),0,[]⟩]) .ret))))))))⟩
theorem pf8_is : pfs 8 = some pf8 := by kernel_rfl
def pf12 : PF := ⟨35,[.t 2],.seq (.reg [⟨some 1,none,.box (.t 0),0,[]⟩,⟨some 2,none,.mov (.c (.v (.int .i64 0))),0,[]⟩]) (.seq (.seq (.reg [⟨some 7,none,.faddr 0 (.t 1),0,[]⟩,⟨some 8,
 none,.load false 1 (.t 7),0,[]⟩,⟨some 9,none,.lenS (.t 8),0,[]⟩,⟨some 10,none,.bin .gtr (.t 9) (.c (.v (.int .i64 65536))),0,[]⟩]) (.cond (.t 10) (.seq (.reg [⟨some 2,
 none,.mov (.c (.v (.int .i64 6))),0,[]⟩]) .ret) .skip)) (.seq (.reg [⟨some 11,none,.mkmap,0,[]⟩,⟨some 3,none,.mov (.t 11),0,[]⟩]) (.seq (.seq (.reg [⟨some 12,none,
 .faddr 0 (.t 1),0,[]⟩,⟨some 13,none,.load false 1 (.t 12),0,[]⟩,⟨some 14,none,.lenS (.t 13),0,[]⟩,⟨some 15,none,.mov (.c (.v (.int .i64 0))),0,[]⟩])
  (.block 0 (.loop (.seq (.reg [⟨some 16,none,.bin .lss (.t 15) (.t 14),0,[]⟩]) (.seq (.cond (.t 16) .skip (.exit 0)) (.seq (.block 1 (.seq (.reg [⟨some 17,none,
 .mov (.t 15),0,[]⟩,⟨some 18,none,.iaddr 5 (.t 13) (.t 15),0,[]⟩,⟨some 19,none,.load true 5 (.t 18),0,[]⟩,⟨some 4,none,.alloc [.v (.int .i64 0)],0,[]⟩,⟨some 5,none,
 .alloc [.v (.int .i64 0),.v (.int .i64 0),.v (.string (ByteArray.mk #[])),.sl [] .nil,.sl [] .nil],0,[]⟩,⟨none,none,.store 1 (.t 4) (.t 17),0,[]⟩,⟨none,none,
 .store 5 (.t 5) (.t 19),0,[]⟩]) (.seq (.seq (.reg [⟨some 20,none,.load true 5 (.t 5),0,[]⟩,⟨some 21,none,.call (.c (.fn 34 [])) [.t 20],0,[]⟩,⟨some 22,none,
 .un .not (.t 21),0,[]⟩]) (.cond (.t 22) (.seq (.reg [⟨some 2,none,.mov (.c (.v (.int .i64 3))),0,[]⟩]) .ret) .skip)) (.seq (.seq (.reg [⟨some 23,none,.faddr 4 (.t 5),0,
 []⟩,⟨some 24,none,.load false 1 (.t 23),0,[]⟩,⟨some 25,none,.mkfn 36 [.t 4],0,[]⟩,⟨some 26,none,.call (.c (.fn 35 [])) [.t 24,.t 25],0,[]⟩]) (.cond (.t 26)
  (.seq (.reg [⟨some 2,none,.mov (.c (.v (.int .i64 2))),0,[]⟩]) .ret) .skip)) (.seq (.reg [⟨some 27,none,.load true 5 (.t 5),0,[]⟩,⟨some 28,none,.call (.c (.fn 37 []))
  [.t 27],0,[]⟩,⟨some 6,none,.mov (.t 28),0,[]⟩]) (.seq (.seq (.reg [⟨some 29,none,.mov (.t 3),0,[]⟩,⟨some 30,none,.mov (.t 6),0,[]⟩,⟨some 31,none,.look (.v (.bool false)
 ) false (KK.sc true) (.t 29) (.t 30),0,[]⟩]) (.cond (.t 31) (.seq (.reg [⟨some 2,none,.mov (.c (.v (.int .i64 8))),0,[]⟩]) .ret) .skip)) (.reg [⟨some 32,none,.mov (.t 3)
 ,0,[]⟩,⟨some 33,none,.mov (.t 6),0,[]⟩,⟨none,none,.mapup (KK.sc true) (.t 32) (.t 33) (.c (.v (.bool true))),0,[]⟩]))))))) (.reg [⟨some 34,none,.bin .add (.t 15)
  (.c (.v (.int .i64 1))),0,[]⟩,⟨some 15,none,.mov (.t 34),0,[]⟩]))))))) (.seq (.reg [⟨some 2,none,.mov (.c (.v (.int .i64 0))),0,[]⟩]) .ret))))⟩
theorem pf12_is : pfs 12 = some pf12 := by kernel_rfl
def pf14 : PF := ⟨64,[.t 4,.t 5],.seq (.reg [⟨some 2,none,.box (.t 0),0,[]⟩,⟨some 4,none,.mov (.c (.v (.int .i64 0))),0,[]⟩,⟨some 5,none,.mov (.c (.v (.bool false))),0,[]⟩])
  (.seq (.seq (.reg [⟨some 12,none,.mov (.t 1),0,[]⟩,⟨some 13,none,.bin .leq (.t 12) (.c (.v (.int .i64 0))),0,[]⟩,⟨some 14,none,.mov (.t 13),0,[]⟩,⟨some 15,some (14,
 false),.faddr 2 (.t 2),0,[]⟩,⟨some 16,some (14,false),.load false 1 (.t 15),0,[]⟩,⟨some 17,some (14,false),.lenT (.t 16),0,[]⟩,⟨some 18,some (14,false),.bin .gtr (.t 17)
  (.c (.v (.int .i64 100))),0,[]⟩,⟨some 19,none,.pick (.t 14) (.c (.v (.bool true))) (.t 18),0,[]⟩,⟨some 20,none,.mov (.t 19),0,[]⟩,⟨some 21,some (20,false),
 .faddr 3 (.t 2),0,[]⟩,⟨some 22,some (20,false),.load false 1 (.t 21),0,[]⟩,⟨some 23,some (20,false),.lenS (.t 22),0,[]⟩,⟨some 24,some (20,false),.bin .gtr (.t 23)
  (.c (.v (.int .i64 10))),0,[]⟩,⟨some 25,none,.pick (.t 20) (.c (.v (.bool true))) (.t 24),0,[]⟩,⟨some 26,none,.mov (.t 25),0,[]⟩,⟨some 27,some (26,false),
 .faddr 4 (.t 2),0,[]⟩,⟨some 28,some (26,false),.load false 1 (.t 27),0,[]⟩,⟨some 29,some (26,false),.lenS (.t 28),0,[]⟩,⟨some 30,some (26,false),.bin .gtr (.t 29)
  (.c (.v (.int .i64 5))),0,[]⟩,⟨some 31,none,.pick (.t 26) (.c (.v (.bool true))) (.t 30),0,[]⟩]) (.cond (.t 31) (.seq (.reg [⟨some 4,none,.mov (.c (.v (.int .i64 0))),
 0,[]⟩,⟨some 5,none,.mov (.c (.v (.bool false))),0,[]⟩]) .ret) .skip)) (.seq (.seq (.reg [⟨some 32,none,.faddr 3 (.t 2),0,[]⟩,⟨some 33,none,.load false 1 (.t 32),0,[]⟩,
 ⟨some 34,none,.lenS (.t 33),0,[]⟩,⟨some 35,none,.mov (.c (.v (.int .i64 0))),0,[]⟩]) (.block 0 (.loop (.seq (.reg [⟨some 36,none,.bin .lss (.t 35) (.t 34),0,[]⟩])
  (.seq (.cond (.t 36) .skip (.exit 0)) (.seq (.block 1 (.seq (.reg [⟨some 37,none,.iaddr 2 (.t 33) (.t 35),0,[]⟩,⟨some 38,none,.load true 2 (.t 37),0,[]⟩,⟨some 7,none,
 .alloc [.v (.int .i64 0),.sl [] .nil],0,[]⟩,⟨none,none,.store 2 (.t 7) (.t 38),0,[]⟩]) (.seq (.reg [⟨some 39,none,.faddr 1 (.t 7),0,[]⟩,⟨some 40,none,
 .load false 1 (.t 39),0,[]⟩,⟨some 41,none,.lenS (.t 40),0,[]⟩,⟨some 42,none,.bin .gtr (.t 41) (.c (.v (.int .i64 10))),0,[]⟩]) (.cond (.t 42) (.seq (.reg [⟨some 4,none,
 .mov (.c (.v (.int .i64 0))),0,[]⟩,⟨some 5,none,.mov (.c (.v (.bool false))),0,[]⟩]) .ret) .skip)))) (.reg [⟨some 43,none,.bin .add (.t 35) (.c (.v (.int .i64 1))),0,[]⟩
 ,⟨some 35,none,.mov (.t 43),0,[]⟩]))))))) (.seq (.reg [⟨some 44,none,.mov (.t 1),0,[]⟩,⟨some 45,none,.bin .sub (.t 44) (.c (.v (.int .i64 1))),0,[]⟩,⟨some 1,none,
 .mov (.t 45),0,[]⟩]) (.seq (.seq (.reg [⟨some 46,none,.faddr 4 (.t 2),0,[]⟩,⟨some 47,none,.load false 1 (.t 46),0,[]⟩,⟨some 48,none,.lenS (.t 47),0,[]⟩,⟨some 49,none,
 .mov (.c (.v (.int .i64 0))),0,[]⟩]) (.block 2 (.loop (.seq (.reg [⟨some 50,none,.bin .lss (.t 49) (.t 48),0,[]⟩]) (.seq (.cond (.t 50) .skip (.exit 2))
  (.seq (.block 3 (.seq (.reg [⟨some 51,none,.iaddr 5 (.t 47) (.t 49),0,[]⟩,⟨some 52,none,.load true 5 (.t 51),0,[]⟩,⟨some 9,none,.alloc [.v (.int .i64 0),
 .v (.int .i64 0),.v (.string (ByteArray.mk #[])),.sl [] .nil,.sl [] .nil],0,[]⟩,⟨none,none,.store 5 (.t 9) (.t 52),0,[]⟩]) (.seq (.reg [⟨some 54,none,.load true 5 (.t 9)
 ,0,[]⟩,⟨some 55,none,.mov (.t 1),0,[]⟩,⟨some 56,none,.call (.c (.fn 14 [])) [.t 54,.t 55],0,[]⟩,⟨some 53,none,.mov (.t 56),0,[]⟩,⟨some 57,none,.ext (.t 53) 0,0,[]⟩,
 ⟨some 58,none,.ext (.t 53) 1,0,[]⟩,⟨some 10,none,.mov (.t 57),0,[]⟩,⟨some 11,none,.mov (.t 58),0,[]⟩]) (.seq (.seq (.reg [⟨some 59,none,.mov (.t 11),0,[]⟩,⟨some 60,none,
 .un .not (.t 59),0,[]⟩]) (.cond (.t 60) (.seq (.reg [⟨some 4,none,.mov (.c (.v (.int .i64 0))),0,[]⟩,⟨some 5,none,.mov (.c (.v (.bool false))),0,[]⟩]) .ret) .skip))
  (.reg [⟨some 61,none,.mov (.t 10),0,[]⟩,⟨some 1,none,.mov (.t 61),0,[]⟩]))))) (.reg [⟨some 62,none,.bin .add (.t 49) (.c (.v (.int .i64 1))),0,[]⟩,⟨some 49,none,
 .mov (.t 62),0,[]⟩]))))))) (.seq (.reg [⟨some 63,none,.mov (.t 1),0,[]⟩,⟨some 4,none,.mov (.t 63),0,[]⟩,⟨some 5,none,.mov (.c (.v (.bool true))),0,[]⟩]) .ret)))))⟩
theorem pf14_is : pfs 14 = some pf14 := by kernel_rfl
def pf16 : PF := ⟨30,[.c 4 true 1,.t 5,.t 6],.seq (.reg [⟨some 2,none,.box (.t 0),0,[]⟩,⟨some 3,none,.box (.t 1),0,[]⟩,⟨some 4,none,.alloc [.sl [] .nil],0,[]⟩,⟨some 5,none,
 .mov (.c (.v (.int .i64 0))),0,[]⟩,⟨some 6,none,.mov (.c (.v (.int .i64 0))),0,[]⟩]) (.seq (.seq (.reg [⟨some 11,none,.load true 5 (.t 3),0,[]⟩,⟨some 12,none,
 .bsl (.agg [.v (.int .i64 0),.v (.int .i64 0),.v (.string (ByteArray.mk #[])),.sl [] .nil,.sl [] .nil]) 1 [(0,5,.t 11)],0,[]⟩,⟨some 13,none,.call (.c (.fn 41 []))
  [.t 12],0,[]⟩,⟨some 10,none,.mov (.t 13),0,[]⟩,⟨some 14,none,.ext (.t 10) 0,0,[]⟩,⟨some 15,none,.ext (.t 10) 1,0,[]⟩,⟨some 7,none,.mov (.t 14),0,[]⟩,⟨some 8,none,
 .mov (.t 15),0,[]⟩]) (.seq (.reg [⟨some 16,none,.mov (.t 8),0,[]⟩,⟨some 17,none,.bin .neq (.t 16) (.c (.v (.int .i64 0))),0,[]⟩]) (.cond (.t 17) (.seq (.reg [⟨some 18,
 none,.build [.sl [] .nil] [],0,[]⟩,⟨some 19,none,.mov (.t 8),0,[]⟩,⟨none,none,.store 1 (.t 4) (.t 18),0,[]⟩,⟨some 5,none,.mov (.c (.v (.int .i64 0))),0,[]⟩,⟨some 6,none,
 .mov (.t 19),0,[]⟩]) .ret) .skip))) (.seq (.reg [⟨some 20,none,.load true 1 (.t 2),0,[]⟩,⟨some 21,none,.call (.c (.fn 42 [])) [.t 20],0,[]⟩,⟨some 9,none,.mov (.t 21),0,
 []⟩]) (.seq (.reg [⟨some 22,none,.mov (.t 9),0,[]⟩,⟨some 23,none,.mov (.t 9),0,[]⟩,⟨some 24,none,.load true 5 (.t 3),0,[]⟩,⟨some 25,none,.call (.c (.fn 44 [])) [.t 23,
 .t 24],0,[]⟩,⟨some 26,none,.call (.c (.fn 43 [])) [.t 22,.t 25],0,[]⟩,⟨some 27,none,.ext (.t 26) 0,0,[]⟩,⟨some 28,none,.ext (.t 26) 1,0,[]⟩,⟨some 29,none,.ext (.t 26) 2,
 0,[]⟩,⟨none,none,.store 1 (.t 4) (.t 27),0,[]⟩,⟨some 5,none,.mov (.t 28),0,[]⟩,⟨some 6,none,.mov (.t 29),0,[]⟩]) .ret)))⟩
theorem pf16_is : pfs 16 = some pf16 := by kernel_rfl
def pf27 : PF := ⟨12,[.t 2],.seq (.reg [⟨some 1,none,.box (.t 0),0,[]⟩,⟨some 2,none,.mov (.c (.v (.int .i64 0))),0,[]⟩]) (.seq (.seq (.reg [⟨some 3,none,.load true 5 (.t 1),0,[]⟩,
 ⟨some 4,none,.call (.c (.fn 56 [])) [.t 3,.c (.v (.int .i64 4096))],0,[]⟩,⟨some 5,none,.bin .gtr (.t 4) (.c (.v (.int .i64 4096))),0,[]⟩]) (.cond (.t 5)
  (.seq (.reg [⟨some 2,none,.mov (.c (.v (.int .i64 5))),0,[]⟩]) .ret) .skip)) (.seq (.seq (.reg [⟨some 6,none,.load true 5 (.t 1),0,[]⟩,⟨some 7,none,.call (.c (.fn 57 []
 )) [.t 6,.c (.v (.int .i64 202))],0,[]⟩,⟨some 8,none,.bin .gtr (.t 7) (.c (.v (.int .i64 200))),0,[]⟩]) (.cond (.t 8) (.seq (.reg [⟨some 2,none,
 .mov (.c (.v (.int .i64 7))),0,[]⟩]) .ret) .skip)) (.seq (.seq (.reg [⟨some 9,none,.load true 5 (.t 1),0,[]⟩,⟨some 10,none,.call (.c (.fn 58 [])) [.t 9],0,[]⟩,⟨some 11,
 none,.un .not (.t 10),0,[]⟩]) (.cond (.t 11) (.seq (.reg [⟨some 2,none,.mov (.c (.v (.int .i64 3))),0,[]⟩]) .ret) .skip)) (.seq (.reg [⟨some 2,none,
 .mov (.c (.v (.int .i64 0))),0,[]⟩]) .ret))))⟩
theorem pf27_is : pfs 27 = some pf27 := by kernel_rfl
def pf28 : PF := ⟨44,[.t 2],.seq (.reg [⟨some 2,none,.mov (.c (.v (.int .i64 0))),0,[]⟩]) (.seq (.reg [⟨some 3,none,.mov (.c (.sl [] .nil)),0,[]⟩])
  (.seq (.block 0 (.loop (.seq (.seq (.reg [⟨some 8,none,.mov (.t 0),0,[]⟩,⟨some 9,none,.lenS (.t 8),0,[]⟩,⟨some 10,none,.bin .gtr (.t 9) (.c (.v (.int .i64 0))),0,[]⟩])
  (.cond (.t 10) .skip (.exit 0))) (.block 1 (.seq (.reg [⟨some 11,none,.mov (.t 0),0,[]⟩,⟨some 12,none,.iaddr 5 (.t 11) (.c (.v (.int .i64 0))),0,[]⟩,⟨some 13,none,
 .load true 5 (.t 12),0,[]⟩,⟨some 4,none,.alloc [.v (.int .i64 0),.v (.int .i64 0),.v (.string (ByteArray.mk #[])),.sl [] .nil,.sl [] .nil],0,[]⟩,⟨none,none,
 .store 5 (.t 4) (.t 13),0,[]⟩]) (.seq (.dreg [8,0] [⟨some 14,none,.mov (.t 0),0,[]⟩,⟨some 15,none,.mov (.t 0),1,[]⟩,⟨some 16,none,.lenS (.t 15),2,[1]⟩,⟨some 17,none,
 .mov (.t 0),3,[]⟩,⟨some 18,none,.lenS (.t 17),4,[3]⟩,⟨some 19,none,.slice 5 (.t 14) (some (.c (.v (.int .i64 1)))) (some (.t 16)) (some (.t 18)),5,[4,3,2,1,0]⟩,⟨some 20,
 none,.faddr 4 (.t 4),6,[]⟩,⟨some 21,none,.load false 1 (.t 20),7,[6]⟩,⟨some 22,none,.app 5 none (.t 19) (.t 21),8,[7,6,5,4,3,2,1,0]⟩,⟨some 0,none,.mov (.t 22),9,[8,7,6,
 5,4,3,2,1,0]⟩]) (.seq (.reg [⟨some 5,none,.mov (.c (.v (.bool false))),0,[]⟩]) (.seq (.seq (.reg [⟨some 23,none,.mov (.t 3),0,[]⟩,⟨some 24,none,.lenS (.t 23),0,[]⟩,
 ⟨some 25,none,.mov (.c (.v (.int .i64 0))),0,[]⟩]) (.block 2 (.loop (.seq (.reg [⟨some 26,none,.bin .lss (.t 25) (.t 24),0,[]⟩]) (.seq (.cond (.t 26) .skip (.exit 2))
  (.seq (.block 3 (.seq (.reg [⟨some 27,none,.iaddr 5 (.t 23) (.t 25),0,[]⟩,⟨some 28,none,.load true 5 (.t 27),0,[]⟩,⟨some 7,none,.alloc [.v (.int .i64 0),
 .v (.int .i64 0),.v (.string (ByteArray.mk #[])),.sl [] .nil,.sl [] .nil],0,[]⟩,⟨none,none,.store 5 (.t 7) (.t 28),0,[]⟩]) (.reg [⟨some 29,none,.mov (.t 5),0,[]⟩,
 ⟨some 30,none,.mov (.t 29),0,[]⟩,⟨some 31,some (30,false),.load true 5 (.t 7),0,[]⟩,⟨some 32,some (30,false),.load true 5 (.t 4),0,[]⟩,⟨some 33,some (30,false),
 .call (.c (.fn 30 [])) [.t 31,.t 32],0,[]⟩,⟨some 34,none,.pick (.t 30) (.c (.v (.bool true))) (.t 33),0,[]⟩,⟨some 5,none,.mov (.t 34),0,[]⟩]))) (.reg [⟨some 35,none,
 .bin .add (.t 25) (.c (.v (.int .i64 1))),0,[]⟩,⟨some 25,none,.mov (.t 35),0,[]⟩]))))))) (.seq (.reg [⟨some 36,none,.mov (.t 5),0,[]⟩,⟨some 37,none,.un .not (.t 36),0,[]
 ⟩]) (.cond (.t 37) (.reg [⟨some 38,none,.mov (.t 3),0,[]⟩,⟨some 39,none,.load true 5 (.t 4),0,[]⟩,⟨some 40,none,.bsl (.agg [.v (.int .i64 0),.v (.int .i64 0),
 .v (.string (ByteArray.mk #[])),.sl [] .nil,.sl [] .nil]) 1 [(0,5,.t 39)],0,[]⟩,⟨some 41,none,.app 5 none (.t 38) (.t 40),0,[]⟩,⟨some 3,none,.mov (.t 41),0,[]⟩]) .skip))
 )))))))) (.seq (.reg [⟨some 42,none,.mov (.t 3),0,[]⟩,⟨some 43,none,.lenS (.t 42),0,[]⟩,⟨some 2,none,.mov (.t 43),0,[]⟩]) .ret)))⟩
theorem pf28_is : pfs 28 = some pf28 := by kernel_rfl
def pf29 : PF := ⟨101,[.c 4 true 5,.t 5],.seq (.reg [⟨some 2,none,.box (.t 0),0,[]⟩,⟨some 4,none,.alloc [.v (.int .i64 0),.v (.int .i64 0),.v (.string (ByteArray.mk #[])),.sl [] .nil,
 .sl [] .nil],0,[]⟩,⟨some 5,none,.mov (.c (.v (.int .i64 0))),0,[]⟩]) (.seq (.seq (.reg [⟨some 13,none,.mov (.t 1),0,[]⟩,⟨some 14,none,.bin .lss (.t 13)
  (.c (.v (.int .i64 0))),0,[]⟩,⟨some 15,none,.mov (.t 14),0,[]⟩,⟨some 16,some (15,false),.mov (.t 1),0,[]⟩,⟨some 17,some (15,false),.faddr 0 (.t 2),0,[]⟩,⟨some 18,
 some (15,false),.load false 1 (.t 17),0,[]⟩,⟨some 19,some (15,false),.lenS (.t 18),0,[]⟩,⟨some 20,some (15,false),.bin .geq (.t 16) (.t 19),0,[]⟩,⟨some 21,none,
 .pick (.t 15) (.c (.v (.bool true))) (.t 20),0,[]⟩]) (.cond (.t 21) (.seq (.reg [⟨some 22,none,.build [.v (.int .i64 0),.v (.int .i64 0),.v (.string (ByteArray.mk #[])),
 .sl [] .nil,.sl [] .nil] [],0,[]⟩,⟨none,none,.store 5 (.t 4) (.t 22),0,[]⟩,⟨some 5,none,.mov (.c (.v (.int .i64 2))),0,[]⟩]) .ret) .skip)) (.seq (.dreg [1002007]
  [⟨some 23,none,.mov (.t 1),0,[]⟩,⟨some 24,none,.bin .add (.t 23) (.c (.v (.int .i64 1))),1,[0]⟩,⟨some 25,none,.mksl (.v (.int .i64 0)) 1 false (.t 24),2,[1,0]⟩,
 ⟨some 26,none,.mov (.t 1),3,[]⟩,⟨some 27,none,.bin .add (.t 26) (.c (.v (.int .i64 1))),4,[3]⟩,⟨some 28,none,.mksl (.v (.int .i64 0)) 1 false (.t 27),5,[4,3]⟩,⟨some 6,
 none,.mov (.t 25),6,[2,1,0]⟩,⟨some 7,none,.mov (.t 28),7,[6,2,1,0,5,4,3]⟩]) (.seq (.seq (.reg [⟨some 29,none,.faddr 0 (.t 2),0,[]⟩,⟨some 30,none,.load false 1 (.t 29),0,
 []⟩,⟨some 31,none,.mov (.t 1),0,[]⟩,⟨some 32,none,.bin .add (.t 31) (.c (.v (.int .i64 1))),0,[]⟩,⟨some 33,none,.slice 5 (.t 30) none (some (.t 32)) none,0,[]⟩,⟨some 34,
 none,.lenS (.t 33),0,[]⟩,⟨some 35,none,.mov (.c (.v (.int .i64 0))),0,[]⟩]) (.block 0 (.loop (.seq (.reg [⟨some 36,none,.bin .lss (.t 35) (.t 34),0,[]⟩])
  (.seq (.cond (.t 36) .skip (.exit 0)) (.seq (.block 1 (.seq (.reg [⟨some 37,none,.mov (.t 35),0,[]⟩,⟨some 38,none,.iaddr 5 (.t 33) (.t 35),0,[]⟩,⟨some 39,none,
 .load true 5 (.t 38),0,[]⟩,⟨some 9,none,.alloc [.v (.int .i64 0),.v (.int .i64 0),.v (.string (ByteArray.mk #[])),.sl [] .nil,.sl [] .nil],0,[]⟩,⟨some 8,none,
 .mov (.t 37),0,[]⟩,⟨none,none,.store 5 (.t 9) (.t 39),0,[]⟩]) (.seq (.reg [⟨some 40,none,.mov (.t 6),0,[]⟩,⟨some 41,none,.mov (.t 8),0,[]⟩,⟨some 42,none,.iaddr 1 (.t 40)
  (.t 41),0,[]⟩,⟨none,none,.store 1 (.t 42) (.c (.v (.int .i64 1))),0,[]⟩]) (.seq (.seq (.reg [⟨some 43,none,.faddr 4 (.t 9),0,[]⟩,⟨some 44,none,.load false 1 (.t 43),0,
 []⟩,⟨some 45,none,.lenS (.t 44),0,[]⟩,⟨some 46,none,.mov (.c (.v (.int .i64 0))),0,[]⟩]) (.block 2 (.loop (.seq (.reg [⟨some 47,none,.bin .lss (.t 46) (.t 45),0,[]⟩])
  (.seq (.cond (.t 47) .skip (.exit 2)) (.seq (.block 3 (.seq (.reg [⟨some 48,none,.iaddr 1 (.t 44) (.t 46),0,[]⟩,⟨some 49,none,.load false 1 (.t 48),0,[]⟩,⟨some 11,none,
 .mov (.t 49),0,[]⟩]) (.seq (.dreg [12,0] [⟨some 50,none,.mov (.t 6),0,[]⟩,⟨some 51,none,.mov (.t 8),1,[]⟩,⟨some 52,none,.mov (.t 6),2,[]⟩,⟨some 53,none,.mov (.t 8),3,[]⟩
 ,⟨some 54,none,.iaddr 1 (.t 52) (.t 53),4,[3,2]⟩,⟨some 55,none,.load false 1 (.t 54),5,[4,3,2]⟩,⟨some 56,none,.mov (.t 6),6,[]⟩,⟨some 57,none,.mov (.t 11),7,[]⟩,
 ⟨some 58,none,.iaddr 1 (.t 56) (.t 57),8,[7,6]⟩,⟨some 59,none,.load false 1 (.t 58),9,[8,7,6]⟩,⟨some 60,none,.bin .add (.t 55) (.t 59),10,[9,8,7,6,5,4,3,2]⟩,⟨some 61,
 none,.min (.t 60) (.c (.v (.int .i64 4097))),11,[10,9,8,7,6,5,4,3,2]⟩,⟨some 62,none,.iaddr 1 (.t 50) (.t 51),12,[11,10,9,8,7,6,5,4,3,2,1,0]⟩,⟨none,none,.store 1 (.t 62)
  (.t 61),13,[12,11,10,9,8,7,6,5,4,3,2,1,0]⟩]) (.dreg [11,0] [⟨some 63,none,.mov (.t 7),0,[]⟩,⟨some 64,none,.mov (.t 8),1,[]⟩,⟨some 65,none,.mov (.t 7),2,[]⟩,⟨some 66,
 none,.mov (.t 8),3,[]⟩,⟨some 67,none,.iaddr 1 (.t 65) (.t 66),4,[3,2]⟩,⟨some 68,none,.load false 1 (.t 67),5,[4,3,2]⟩,⟨some 69,none,.mov (.t 7),6,[]⟩,⟨some 70,none,
 .mov (.t 11),7,[]⟩,⟨some 71,none,.iaddr 1 (.t 69) (.t 70),8,[7,6]⟩,⟨some 72,none,.load false 1 (.t 71),9,[8,7,6]⟩,⟨some 73,none,.max (.t 68) (.t 72),10,[9,8,7,6,5,4,3,2]
 ⟩,⟨some 74,none,.iaddr 1 (.t 63) (.t 64),11,[10,9,8,7,6,5,4,3,2,1,0]⟩,⟨none,none,.store 1 (.t 74) (.t 73),12,[11,10,9,8,7,6,5,4,3,2,1,0]⟩])))) (.reg [⟨some 75,none,
 .bin .add (.t 46) (.c (.v (.int .i64 1))),0,[]⟩,⟨some 46,none,.mov (.t 75),0,[]⟩]))))))) (.reg [⟨some 76,none,.mov (.t 7),0,[]⟩,⟨some 77,none,.mov (.t 8),0,[]⟩,⟨some 78,
 none,.iaddr 1 (.t 76) (.t 77),0,[]⟩,⟨some 79,none,.load false 1 (.t 78),0,[]⟩,⟨some 80,none,.bin .add (.t 79) (.c (.v (.int .i64 1))),0,[]⟩,⟨some 81,none,
 .iaddr 1 (.t 76) (.t 77),0,[]⟩,⟨none,none,.store 1 (.t 81) (.t 80),0,[]⟩]))))) (.reg [⟨some 82,none,.bin .add (.t 35) (.c (.v (.int .i64 1))),0,[]⟩,⟨some 35,none,
 .mov (.t 82),0,[]⟩]))))))) (.seq (.block 4 (.seq (.reg [⟨some 84,none,.mov (.t 6),0,[]⟩,⟨some 85,none,.mov (.t 1),0,[]⟩,⟨some 86,none,.iaddr 1 (.t 84) (.t 85),0,[]⟩,
 ⟨some 87,none,.load false 1 (.t 86),0,[]⟩,⟨some 88,none,.bin .gtr (.t 87) (.c (.v (.int .i64 4096))),0,[]⟩,⟨some 83,none,.mov (.t 88),0,[]⟩]) (.cond (.t 83)
  (.seq (.reg [⟨some 89,none,.build [.v (.int .i64 0),.v (.int .i64 0),.v (.string (ByteArray.mk #[])),.sl [] .nil,.sl [] .nil] [],0,[]⟩,⟨none,none,.store 5 (.t 4)
  (.t 89),0,[]⟩,⟨some 5,none,.mov (.c (.v (.int .i64 5))),0,[]⟩]) .ret) (.seq (.reg [⟨some 91,none,.mov (.t 7),0,[]⟩,⟨some 92,none,.mov (.t 1),0,[]⟩,⟨some 93,none,
 .iaddr 1 (.t 91) (.t 92),0,[]⟩,⟨some 94,none,.load false 1 (.t 93),0,[]⟩,⟨some 95,none,.bin .gtr (.t 94) (.c (.v (.int .i64 200))),0,[]⟩,⟨some 90,none,.mov (.t 95),0,[]⟩
 ]) (.cond (.t 90) (.seq (.reg [⟨some 96,none,.build [.v (.int .i64 0),.v (.int .i64 0),.v (.string (ByteArray.mk #[])),.sl [] .nil,.sl [] .nil] [],0,[]⟩,⟨none,none,
 .store 5 (.t 4) (.t 96),0,[]⟩,⟨some 5,none,.mov (.c (.v (.int .i64 7))),0,[]⟩]) .ret) .skip))))) (.seq (.reg [⟨some 12,none,.alloc [.v .nilFunc],0,[]⟩])
  (.seq (.reg [⟨some 97,none,.mkfn 59 [.t 2,.t 12],0,[]⟩,⟨none,none,.store 1 (.t 12) (.t 97),0,[]⟩]) (.seq (.reg [⟨some 98,none,.load false 1 (.t 12),0,[]⟩,⟨some 99,none,
 .mov (.t 1),0,[]⟩,⟨some 100,none,.call (.t 98) [.t 99],0,[]⟩,⟨none,none,.store 5 (.t 4) (.t 100),0,[]⟩,⟨some 5,none,.mov (.c (.v (.int .i64 0))),0,[]⟩]) .ret)))))))⟩
theorem pf29_is : pfs 29 = some pf29 := by kernel_rfl
def pf30 : PF := ⟨61,[.t 4],.seq (.reg [⟨some 2,none,.box (.t 0),0,[]⟩,⟨some 3,none,.box (.t 1),0,[]⟩,⟨some 4,none,.mov (.c (.v (.bool false))),0,[]⟩]) (.seq (.seq (.reg [⟨some 6,none,
 .faddr 0 (.t 2),0,[]⟩,⟨some 7,none,.load false 1 (.t 6),0,[]⟩,⟨some 8,none,.faddr 0 (.t 3),0,[]⟩,⟨some 9,none,.load false 1 (.t 8),0,[]⟩,⟨some 10,none,.bin .neq (.t 7)
  (.t 9),0,[]⟩,⟨some 11,none,.mov (.t 10),0,[]⟩,⟨some 12,some (11,false),.faddr 1 (.t 2),0,[]⟩,⟨some 13,some (11,false),.load false 1 (.t 12),0,[]⟩,⟨some 14,some (11,
 false),.faddr 1 (.t 3),0,[]⟩,⟨some 15,some (11,false),.load false 1 (.t 14),0,[]⟩,⟨some 16,some (11,false),.bin .neq (.t 13) (.t 15),0,[]⟩,⟨some 17,none,.pick (.t 11)
  (.c (.v (.bool true))) (.t 16),0,[]⟩,⟨some 18,none,.mov (.t 17),0,[]⟩,⟨some 19,some (18,false),.faddr 2 (.t 2),0,[]⟩,⟨some 20,some (18,false),.load false 1 (.t 19),0,[]
 ⟩,⟨some 21,some (18,false),.faddr 2 (.t 3),0,[]⟩,⟨some 22,some (18,false),.load false 1 (.t 21),0,[]⟩,⟨some 23,some (18,false),.bin .neq (.t 20) (.t 22),0,[]⟩,⟨some 24,
 none,.pick (.t 18) (.c (.v (.bool true))) (.t 23),0,[]⟩,⟨some 25,none,.mov (.t 24),0,[]⟩,⟨some 26,some (25,false),.faddr 3 (.t 2),0,[]⟩,⟨some 27,some (25,false),
 .load false 1 (.t 26),0,[]⟩,⟨some 28,some (25,false),.faddr 3 (.t 3),0,[]⟩,⟨some 29,some (25,false),.load false 1 (.t 28),0,[]⟩,⟨some 30,some (25,false),
 .call (.c (.fn 60 [])) [.t 27,.t 29],0,[]⟩,⟨some 31,some (25,false),.un .not (.t 30),0,[]⟩,⟨some 32,none,.pick (.t 25) (.c (.v (.bool true))) (.t 31),0,[]⟩,⟨some 33,
 none,.mov (.t 32),0,[]⟩,⟨some 34,some (33,false),.faddr 4 (.t 2),0,[]⟩,⟨some 35,some (33,false),.load false 1 (.t 34),0,[]⟩,⟨some 36,some (33,false),.lenS (.t 35),0,[]⟩,
 ⟨some 37,some (33,false),.faddr 4 (.t 3),0,[]⟩,⟨some 38,some (33,false),.load false 1 (.t 37),0,[]⟩,⟨some 39,some (33,false),.lenS (.t 38),0,[]⟩,⟨some 40,some (33,false)
 ,.bin .neq (.t 36) (.t 39),0,[]⟩,⟨some 41,none,.pick (.t 33) (.c (.v (.bool true))) (.t 40),0,[]⟩]) (.cond (.t 41) (.seq (.reg [⟨some 4,none,.mov (.c (.v (.bool false)))
 ,0,[]⟩]) .ret) .skip)) (.seq (.seq (.reg [⟨some 5,none,.mov (.c (.v (.int .i64 0))),0,[]⟩]) (.block 0 (.loop (.seq (.seq (.reg [⟨some 42,none,.mov (.t 5),0,[]⟩,⟨some 43,
 none,.faddr 4 (.t 2),0,[]⟩,⟨some 44,none,.load false 1 (.t 43),0,[]⟩,⟨some 45,none,.lenS (.t 44),0,[]⟩,⟨some 46,none,.bin .lss (.t 42) (.t 45),0,[]⟩]) (.cond (.t 46)
  .skip (.exit 0))) (.seq (.block 1 (.seq (.dreg [10,0] [⟨some 49,none,.faddr 4 (.t 2),0,[]⟩,⟨some 50,none,.load false 1 (.t 49),1,[0]⟩,⟨some 51,none,.mov (.t 5),2,[]⟩,
 ⟨some 52,none,.iaddr 5 (.t 50) (.t 51),3,[2,1,0]⟩,⟨some 53,none,.load true 5 (.t 52),4,[3,2,1,0]⟩,⟨some 54,none,.faddr 4 (.t 3),5,[]⟩,⟨some 55,none,.load false 1 (.t 54)
 ,6,[5]⟩,⟨some 56,none,.mov (.t 5),7,[]⟩,⟨some 57,none,.iaddr 5 (.t 55) (.t 56),8,[7,6,5]⟩,⟨some 58,none,.load true 5 (.t 57),9,[8,7,6,5]⟩,⟨some 59,none,
 .call (.c (.fn 30 [])) [.t 53,.t 58],10,[9,8,7,6,5,4,3,2,1,0]⟩,⟨some 60,none,.un .not (.t 59),11,[10,9,8,7,6,5,4,3,2,1,0]⟩]) (.cond (.t 60) (.seq (.reg [⟨some 4,none,
 .mov (.c (.v (.bool false))),0,[]⟩]) .ret) .skip))) (.reg [⟨some 47,none,.mov (.t 5),0,[]⟩,⟨some 48,none,.bin .add (.t 47) (.c (.v (.int .i64 1))),0,[]⟩,⟨some 5,none,
 .mov (.t 48),0,[]⟩])))))) (.seq (.reg [⟨some 4,none,.mov (.c (.v (.bool true))),0,[]⟩]) .ret)))⟩
theorem pf30_is : pfs 30 = some pf30 := by kernel_rfl
def pf34 : PF := ⟨82,[.t 2],.seq (.reg [⟨some 1,none,.box (.t 0),0,[]⟩,⟨some 2,none,.mov (.c (.v (.bool false))),0,[]⟩]) (.seq (.seq (.dreg [0,0,0,0,0,0,0,0,0,6,0] [⟨some 4,none,
 .faddr 0 (.t 1),0,[]⟩,⟨some 5,none,.load false 1 (.t 4),1,[0]⟩,⟨some 6,none,.bin .lss (.t 5) (.c (.v (.int .i64 0))),2,[1,0]⟩,⟨some 7,none,.mov (.t 6),3,[2,1,0]⟩,
 ⟨some 8,some (7,false),.faddr 0 (.t 1),4,[3,2,1,0]⟩,⟨some 9,some (7,false),.load false 1 (.t 8),5,[4,3,2,1,0]⟩,⟨some 10,some (7,false),.bin .geq (.t 9)
  (.c (.v (.int .i64 13))),6,[5,4,3,2,1,0]⟩,⟨some 11,none,.pick (.t 7) (.c (.v (.bool true))) (.t 10),7,[6,5,4,3,2,1,0]⟩,⟨some 12,none,.mov (.t 11),8,[7,6,5,4,3,2,1,0]⟩,
 ⟨some 13,some (12,false),.faddr 4 (.t 1),9,[8,7,6,5,4,3,2,1,0]⟩,⟨some 14,some (12,false),.load false 1 (.t 13),10,[9,8,7,6,5,4,3,2,1,0]⟩,⟨some 15,some (12,false),
 .lenS (.t 14),11,[10,9,8,7,6,5,4,3,2,1,0]⟩,⟨some 16,some (12,false),.faddr 0 (.t 1),12,[8,7,6,5,4,3,2,1,0]⟩,⟨some 17,some (12,false),.load false 1 (.t 16),13,[12,8,7,6,
 5,4,3,2,1,0]⟩,⟨some 18,some (12,false),.call (.c (.fn 63 [])) [.t 17],14,[13,12,8,7,6,5,4,3,2,1,0]⟩,⟨some 19,some (12,false),.bin .neq (.t 15) (.t 18),15,[14,13,12,11,
 10,9,8,7,6,5,4,3,2,1,0]⟩,⟨some 20,none,.pick (.t 12) (.c (.v (.bool true))) (.t 19),16,[15,14,13,12,11,10,9,8,7,6,5,4,3,2,1,0]⟩]) (.cond (.t 20) (.seq (.reg [⟨some 2,
 none,.mov (.c (.v (.bool false))),0,[]⟩]) .ret) .skip)) (.seq (.reg [⟨some 21,none,.faddr 0 (.t 1),0,[]⟩,⟨some 22,none,.load false 1 (.t 21),0,[]⟩,⟨some 23,none,
 .bin .eql (.t 22) (.c (.v (.int .i64 0))),0,[]⟩,⟨some 24,none,.mov (.t 23),0,[]⟩,⟨some 25,some (24,false),.faddr 0 (.t 1),0,[]⟩,⟨some 26,some (24,false),
 .load false 1 (.t 25),0,[]⟩,⟨some 27,some (24,false),.bin .eql (.t 26) (.c (.v (.int .i64 12))),0,[]⟩,⟨some 28,none,.pick (.t 24) (.c (.v (.bool true))) (.t 27),0,[]⟩,
 ⟨some 3,none,.mov (.t 28),0,[]⟩]) (.seq (.seq (.reg [⟨some 29,none,.faddr 1 (.t 1),0,[]⟩,⟨some 30,none,.load false 1 (.t 29),0,[]⟩,⟨some 31,none,.bin .lss (.t 30)
  (.c (.v (.int .i64 0))),0,[]⟩,⟨some 32,none,.mov (.t 31),0,[]⟩,⟨some 33,some (32,false),.faddr 1 (.t 1),0,[]⟩,⟨some 34,some (32,false),.load false 1 (.t 33),0,[]⟩,
 ⟨some 35,some (32,false),.bin .gtr (.t 34) (.c (.v (.int .i64 2147483647))),0,[]⟩,⟨some 36,none,.pick (.t 32) (.c (.v (.bool true))) (.t 35),0,[]⟩,⟨some 37,none,
 .mov (.t 36),0,[]⟩,⟨some 38,some (37,false),.faddr 1 (.t 1),0,[]⟩,⟨some 39,some (37,false),.load false 1 (.t 38),0,[]⟩,⟨some 40,some (37,false),.bin .gtr (.t 39)
  (.c (.v (.int .i64 0))),0,[]⟩,⟨some 41,some (37,false),.mov (.t 40),0,[]⟩,⟨some 42,some (41,true),.mov (.t 3),0,[]⟩,⟨some 43,some (41,true),.un .not (.t 42),0,[]⟩,
 ⟨some 44,some (37,false),.pick (.t 41) (.t 43) (.c (.v (.bool false))),0,[]⟩,⟨some 45,none,.pick (.t 37) (.c (.v (.bool true))) (.t 44),0,[]⟩]) (.cond (.t 45)
  (.seq (.reg [⟨some 2,none,.mov (.c (.v (.bool false))),0,[]⟩]) .ret) .skip)) (.seq (.seq (.reg [⟨some 46,none,.faddr 2 (.t 1),0,[]⟩,⟨some 47,none,.load false 1 (.t 46),
 0,[]⟩,⟨some 48,none,.lenT (.t 47),0,[]⟩,⟨some 49,none,.bin .gtr (.t 48) (.c (.v (.int .i64 65536))),0,[]⟩,⟨some 50,none,.mov (.t 49),0,[]⟩,⟨some 51,some (50,false),
 .faddr 2 (.t 1),0,[]⟩,⟨some 52,some (50,false),.load false 1 (.t 51),0,[]⟩,⟨some 53,some (50,false),.bin .neq (.t 52) (.c (.v (.string (ByteArray.mk #[])))),0,[]⟩,
 ⟨some 54,some (50,false),.mov (.t 53),0,[]⟩,⟨some 55,some (54,true),.faddr 0 (.t 1),0,[]⟩,⟨some 56,some (54,true),.load false 1 (.t 55),0,[]⟩,⟨some 57,some (54,true),
 .bin .neq (.t 56) (.c (.v (.int .i64 3))),0,[]⟩,⟨some 58,some (50,false),.pick (.t 54) (.t 57) (.c (.v (.bool false))),0,[]⟩,⟨some 59,none,.pick (.t 50)
  (.c (.v (.bool true))) (.t 58),0,[]⟩]) (.cond (.t 59) (.seq (.reg [⟨some 2,none,.mov (.c (.v (.bool false))),0,[]⟩]) .ret) .skip)) (.seq (.seq (.reg [⟨some 60,none,
 .faddr 0 (.t 1),0,[]⟩,⟨some 61,none,.load false 1 (.t 60),0,[]⟩]) (.block 0 (.seq (.reg [⟨some 67,none,.bin .eql (.t 61) (.c (.v (.int .i64 2))),0,[]⟩,⟨some 66,none,
 .mov (.t 67),0,[]⟩]) (.cond (.t 66) (.seq (.reg [⟨some 68,none,.faddr 3 (.t 1),0,[]⟩,⟨some 69,none,.load false 1 (.t 68),0,[]⟩,⟨some 70,none,.lenS (.t 69),0,[]⟩,
 ⟨some 71,none,.bin .neq (.t 70) (.c (.v (.int .i64 1))),0,[]⟩]) (.cond (.t 71) (.seq (.reg [⟨some 2,none,.mov (.c (.v (.bool false))),0,[]⟩]) .ret) .skip))
  (.seq (.reg [⟨some 73,none,.bin .eql (.t 61) (.c (.v (.int .i64 3))),0,[]⟩,⟨some 72,none,.mov (.t 73),0,[]⟩]) (.cond (.t 72) (.seq (.reg [⟨some 74,none,.faddr 3 (.t 1),
 0,[]⟩,⟨some 75,none,.load false 1 (.t 74),0,[]⟩,⟨some 76,none,.lenS (.t 75),0,[]⟩,⟨some 77,none,.bin .gtr (.t 76) (.c (.v (.int .i64 8))),0,[]⟩]) (.cond (.t 77)
  (.seq (.reg [⟨some 2,none,.mov (.c (.v (.bool false))),0,[]⟩]) .ret) .skip)) (.seq (.reg [⟨some 62,none,.faddr 3 (.t 1),0,[]⟩,⟨some 63,none,.load false 1 (.t 62),0,[]⟩,
 ⟨some 64,none,.lenS (.t 63),0,[]⟩,⟨some 65,none,.bin .gtr (.t 64) (.c (.v (.int .i64 0))),0,[]⟩]) (.cond (.t 65) (.seq (.reg [⟨some 2,none,.mov (.c (.v (.bool false))),
 0,[]⟩]) .ret) .skip)))))))) (.seq (.reg [⟨some 78,none,.faddr 3 (.t 1),0,[]⟩,⟨some 79,none,.load false 1 (.t 78),0,[]⟩,⟨some 80,none,.call (.c (.fn 64 [])) [.t 79,
 .c (.fn 65 [])],0,[]⟩,⟨some 81,none,.un .not (.t 80),0,[]⟩,⟨some 2,none,.mov (.t 81),0,[]⟩]) .ret))))))⟩
theorem pf34_is : pfs 34 = some pf34 := by kernel_rfl
def pf35 : PF := ⟨9,[.t 4],.seq (.reg [⟨some 4,none,.mov (.c (.v (.bool false))),0,[]⟩]) (.seq (.reg [⟨some 5,none,.mov (.t 0),0,[]⟩,⟨some 6,none,.mov (.t 1),0,[]⟩,⟨some 7,none,
 .call (.c (.fn 67 [])) [.t 5,.t 6],0,[]⟩,⟨some 8,none,.bin .geq (.t 7) (.c (.v (.int .i64 0))),0,[]⟩,⟨some 4,none,.mov (.t 8),0,[]⟩]) .ret)⟩
theorem pf35_is : pfs 35 = some pf35 := by kernel_rfl
def pf36 : PF := ⟨11,[.t 3],.seq (.reg [⟨some 3,none,.mov (.c (.v (.bool false))),0,[]⟩]) (.seq (.reg [⟨some 4,none,.mov (.t 0),0,[]⟩,⟨some 5,none,.bin .lss (.t 4) (.c (.v (.int .i64 0))
 ),0,[]⟩,⟨some 6,none,.mov (.t 5),0,[]⟩,⟨some 7,some (6,false),.mov (.t 0),0,[]⟩,⟨some 8,some (6,false),.load false 1 (.t 1),0,[]⟩,⟨some 9,some (6,false),.bin .geq (.t 7)
  (.t 8),0,[]⟩,⟨some 10,none,.pick (.t 6) (.c (.v (.bool true))) (.t 9),0,[]⟩,⟨some 3,none,.mov (.t 10),0,[]⟩]) .ret)⟩
theorem pf36_is : pfs 36 = some pf36 := by kernel_rfl
def pf37 : PF := ⟨74,[.t 2],.seq (.reg [⟨some 1,none,.box (.t 0),0,[]⟩,⟨some 2,none,.mov (.c (.v (.string (ByteArray.mk #[])))),0,[]⟩]) (.seq (.reg [⟨some 11,none,.faddr 0 (.t 1),0,[]⟩,
 ⟨some 12,none,.load false 1 (.t 11),0,[]⟩,⟨some 13,none,.call (.c (.fn 68 [])) [.c (.sl [] .nil),.t 12,.c (.v (.int .i64 10))],0,[]⟩,⟨some 3,none,.alloc [.sl [] .nil],0,
 []⟩,⟨none,none,.store 1 (.t 3) (.t 13),0,[]⟩]) (.seq (.reg [⟨some 14,none,.mkfn 69 [.t 3],0,[]⟩,⟨some 4,none,.mov (.t 14),0,[]⟩]) (.seq (.reg [⟨some 15,none,.mov (.t 4),
 0,[]⟩,⟨some 16,none,.faddr 1 (.t 1),0,[]⟩,⟨some 17,none,.load false 1 (.t 16),0,[]⟩,⟨some 18,none,.call (.t 15) [.t 17],0,[]⟩]) (.seq (.reg [⟨some 19,none,.mov (.t 4),0,
 []⟩,⟨some 20,none,.faddr 3 (.t 1),0,[]⟩,⟨some 21,none,.load false 1 (.t 20),0,[]⟩,⟨some 22,none,.lenS (.t 21),0,[]⟩,⟨some 23,none,.call (.t 19) [.t 22],0,[]⟩])
  (.seq (.seq (.reg [⟨some 24,none,.faddr 3 (.t 1),0,[]⟩,⟨some 25,none,.load false 1 (.t 24),0,[]⟩,⟨some 26,none,.lenS (.t 25),0,[]⟩,⟨some 27,none,
 .mov (.c (.v (.int .i64 0))),0,[]⟩]) (.block 0 (.loop (.seq (.reg [⟨some 28,none,.bin .lss (.t 27) (.t 26),0,[]⟩]) (.seq (.cond (.t 28) .skip (.exit 0))
  (.seq (.block 1 (.seq (.reg [⟨some 29,none,.iaddr 2 (.t 25) (.t 27),0,[]⟩,⟨some 30,none,.load true 2 (.t 29),0,[]⟩,⟨some 6,none,.alloc [.v (.int .i64 0),.sl [] .nil],0,
 []⟩,⟨none,none,.store 2 (.t 6) (.t 30),0,[]⟩]) (.seq (.reg [⟨some 31,none,.mov (.t 4),0,[]⟩,⟨some 32,none,.faddr 0 (.t 6),0,[]⟩,⟨some 33,none,.load false 1 (.t 32),0,[]⟩
 ,⟨some 34,none,.call (.t 31) [.t 33],0,[]⟩]) (.seq (.reg [⟨some 35,none,.mov (.t 4),0,[]⟩,⟨some 36,none,.faddr 1 (.t 6),0,[]⟩,⟨some 37,none,.load false 1 (.t 36),0,[]⟩,
 ⟨some 38,none,.lenS (.t 37),0,[]⟩,⟨some 39,none,.call (.t 35) [.t 38],0,[]⟩]) (.seq (.reg [⟨some 40,none,.faddr 1 (.t 6),0,[]⟩,⟨some 41,none,.load false 1 (.t 40),0,[]⟩,
 ⟨some 42,none,.lenS (.t 41),0,[]⟩,⟨some 43,none,.mov (.c (.v (.int .i64 0))),0,[]⟩]) (.block 2 (.loop (.seq (.reg [⟨some 44,none,.bin .lss (.t 43) (.t 42),0,[]⟩])
  (.seq (.cond (.t 44) .skip (.exit 2)) (.seq (.block 3 (.seq (.reg [⟨some 45,none,.iaddr 2 (.t 41) (.t 43),0,[]⟩,⟨some 46,none,.load true 2 (.t 45),0,[]⟩,⟨some 8,none,
 .alloc [.v (.int .i64 0),.v (.int .i64 0)],0,[]⟩,⟨none,none,.store 2 (.t 8) (.t 46),0,[]⟩]) (.seq (.reg [⟨some 47,none,.mov (.t 4),0,[]⟩,⟨some 48,none,.faddr 0 (.t 8),0,
 []⟩,⟨some 49,none,.load false 1 (.t 48),0,[]⟩,⟨some 50,none,.call (.t 47) [.t 49],0,[]⟩]) (.reg [⟨some 51,none,.mov (.t 4),0,[]⟩,⟨some 52,none,.faddr 1 (.t 8),0,[]⟩,
 ⟨some 53,none,.load false 1 (.t 52),0,[]⟩,⟨some 54,none,.call (.t 51) [.t 53],0,[]⟩])))) (.reg [⟨some 55,none,.bin .add (.t 43) (.c (.v (.int .i64 1))),0,[]⟩,⟨some 43,
 none,.mov (.t 55),0,[]⟩]))))))))))) (.reg [⟨some 56,none,.bin .add (.t 27) (.c (.v (.int .i64 1))),0,[]⟩,⟨some 27,none,.mov (.t 56),0,[]⟩])))))))
  (.seq (.seq (.reg [⟨some 57,none,.faddr 4 (.t 1),0,[]⟩,⟨some 58,none,.load false 1 (.t 57),0,[]⟩,⟨some 59,none,.lenS (.t 58),0,[]⟩,⟨some 60,none,
 .mov (.c (.v (.int .i64 0))),0,[]⟩]) (.block 4 (.loop (.seq (.reg [⟨some 61,none,.bin .lss (.t 60) (.t 59),0,[]⟩]) (.seq (.cond (.t 61) .skip (.exit 4))
  (.seq (.block 5 (.seq (.reg [⟨some 62,none,.iaddr 1 (.t 58) (.t 60),0,[]⟩,⟨some 63,none,.load false 1 (.t 62),0,[]⟩,⟨some 10,none,.mov (.t 63),0,[]⟩]) (.reg [⟨some 64,
 none,.mov (.t 4),0,[]⟩,⟨some 65,none,.mov (.t 10),0,[]⟩,⟨some 66,none,.call (.t 64) [.t 65],0,[]⟩]))) (.reg [⟨some 67,none,.bin .add (.t 60) (.c (.v (.int .i64 1))),0,[]
 ⟩,⟨some 60,none,.mov (.t 67),0,[]⟩]))))))) (.seq (.reg [⟨some 68,none,.load false 1 (.t 3),0,[]⟩,⟨some 69,none,.bstr (.t 68),0,[]⟩,⟨some 70,none,.bin .add (.t 69)
  (.c (.v (.string (ByteArray.mk #[32])))),0,[]⟩,⟨some 71,none,.faddr 2 (.t 1),0,[]⟩,⟨some 72,none,.load false 1 (.t 71),0,[]⟩,⟨some 73,none,.bin .add (.t 70) (.t 72),0,
 []⟩,⟨some 2,none,.mov (.t 73),0,[]⟩]) .ret)))))))⟩
theorem pf37_is : pfs 37 = some pf37 := by kernel_rfl
def pf41 : PF := ⟨62,[.t 2,.t 3],.seq (.reg [⟨some 2,none,.mov (.c (.v (.string (ByteArray.mk #[])))),0,[]⟩,⟨some 3,none,.mov (.c (.v (.int .i64 0))),0,[]⟩]) (.seq (.seq (.reg [⟨some 12,
 none,.mov (.t 0),0,[]⟩,⟨some 13,none,.lenS (.t 12),0,[]⟩,⟨some 14,none,.bin .gtr (.t 13) (.c (.v (.int .i64 65536))),0,[]⟩]) (.cond (.t 14) (.seq (.reg [⟨some 2,none,
 .mov (.c (.v (.string (ByteArray.mk #[])))),0,[]⟩,⟨some 3,none,.mov (.c (.v (.int .i64 6))),0,[]⟩]) .ret) .skip)) (.seq (.seq (.reg [⟨some 15,none,.mov (.t 0),0,[]⟩,
 ⟨some 16,none,.lenS (.t 15),0,[]⟩,⟨some 17,none,.mov (.c (.v (.int .i64 0))),0,[]⟩]) (.block 0 (.loop (.seq (.reg [⟨some 18,none,.bin .lss (.t 17) (.t 16),0,[]⟩])
  (.seq (.cond (.t 18) .skip (.exit 0)) (.seq (.block 1 (.seq (.reg [⟨some 19,none,.iaddr 5 (.t 15) (.t 17),0,[]⟩,⟨some 20,none,.load true 5 (.t 19),0,[]⟩,⟨some 5,none,
 .alloc [.v (.int .i64 0),.v (.int .i64 0),.v (.string (ByteArray.mk #[])),.sl [] .nil,.sl [] .nil],0,[]⟩,⟨none,none,.store 5 (.t 5) (.t 20),0,[]⟩])
  (.seq (.reg [⟨some 21,none,.load true 5 (.t 5),0,[]⟩,⟨some 22,none,.call (.c (.fn 70 [])) [.t 21],0,[]⟩,⟨some 6,none,.mov (.t 22),0,[]⟩]) (.seq (.reg [⟨some 23,none,
 .mov (.t 6),0,[]⟩,⟨some 24,none,.bin .neq (.t 23) (.c (.v (.int .i64 0))),0,[]⟩]) (.cond (.t 24) (.seq (.reg [⟨some 25,none,.mov (.t 6),0,[]⟩,⟨some 2,none,
 .mov (.c (.v (.string (ByteArray.mk #[])))),0,[]⟩,⟨some 3,none,.mov (.t 25),0,[]⟩]) .ret) .skip))))) (.reg [⟨some 26,none,.bin .add (.t 17) (.c (.v (.int .i64 1))),0,[]⟩
 ,⟨some 17,none,.mov (.t 26),0,[]⟩]))))))) (.seq (.reg [⟨some 27,none,.mkmap,0,[]⟩,⟨some 28,none,.build [.v (.map none),.sl [] .nil] [(0,1,.t 27)],0,[]⟩,⟨some 29,none,
 .box (.t 28),0,[]⟩,⟨some 7,none,.mov (.t 29),0,[]⟩]) (.seq (.reg [⟨some 8,none,.mov (.c (.sl [] .nil)),0,[]⟩]) (.seq (.seq (.reg [⟨some 30,none,.mov (.t 0),0,[]⟩,
 ⟨some 31,none,.lenS (.t 30),0,[]⟩,⟨some 32,none,.mov (.c (.v (.int .i64 0))),0,[]⟩]) (.block 2 (.loop (.seq (.reg [⟨some 33,none,.bin .lss (.t 32) (.t 31),0,[]⟩])
  (.seq (.cond (.t 33) .skip (.exit 2)) (.seq (.block 3 (.seq (.reg [⟨some 34,none,.iaddr 5 (.t 30) (.t 32),0,[]⟩,⟨some 35,none,.load true 5 (.t 34),0,[]⟩,⟨some 10,none,
 .alloc [.v (.int .i64 0),.v (.int .i64 0),.v (.string (ByteArray.mk #[])),.sl [] .nil,.sl [] .nil],0,[]⟩,⟨none,none,.store 5 (.t 10) (.t 35),0,[]⟩]) (.reg [⟨some 36,
 none,.mov (.t 8),0,[]⟩,⟨some 37,none,.mov (.t 7),0,[]⟩,⟨some 38,none,.load true 5 (.t 10),0,[]⟩,⟨some 39,none,.call (.c (.fn 72 [])) [.t 37,.t 38],0,[]⟩,⟨some 40,none,
 .call (.c (.fn 71 [])) [.t 36,.t 39],0,[]⟩,⟨some 8,none,.mov (.t 40),0,[]⟩]))) (.reg [⟨some 41,none,.bin .add (.t 32) (.c (.v (.int .i64 1))),0,[]⟩,⟨some 32,none,
 .mov (.t 41),0,[]⟩]))))))) (.seq (.reg [⟨some 42,none,.mov (.t 7),0,[]⟩,⟨some 43,none,.nilck (.t 42),0,[]⟩,⟨some 44,none,.faddr 0 (.t 43),0,[]⟩,⟨some 45,none,
 .load false 1 (.t 44),0,[]⟩,⟨some 46,none,.lenM (.t 45),0,[]⟩,⟨some 47,none,.call (.c (.fn 71 [])) [.c (.sl [] .nil),.t 46],0,[]⟩,⟨some 11,none,.mov (.t 47),0,[]⟩])
  (.seq (.reg [⟨some 48,none,.mov (.t 11),0,[]⟩,⟨some 49,none,.mov (.t 7),0,[]⟩,⟨some 50,none,.nilck (.t 49),0,[]⟩,⟨some 51,none,.faddr 1 (.t 50),0,[]⟩,⟨some 52,none,
 .load false 1 (.t 51),0,[]⟩,⟨some 53,none,.app 1 none (.t 48) (.t 52),0,[]⟩,⟨some 11,none,.mov (.t 53),0,[]⟩]) (.seq (.reg [⟨some 54,none,.mov (.t 11),0,[]⟩,⟨some 55,
 none,.mov (.t 0),0,[]⟩,⟨some 56,none,.lenS (.t 55),0,[]⟩,⟨some 57,none,.call (.c (.fn 71 [])) [.t 54,.t 56],0,[]⟩,⟨some 11,none,.mov (.t 57),0,[]⟩])
  (.seq (.reg [⟨some 58,none,.mov (.t 11),0,[]⟩,⟨some 59,none,.mov (.t 8),0,[]⟩,⟨some 60,none,.app 1 none (.t 58) (.t 59),0,[]⟩,⟨some 61,none,.bstr (.t 60),0,[]⟩,⟨some 2,
 none,.mov (.t 61),0,[]⟩,⟨some 3,none,.mov (.c (.v (.int .i64 0))),0,[]⟩]) .ret)))))))))⟩
theorem pf41_is : pfs 41 = some pf41 := by kernel_rfl
def pf42 : PF := ⟨21,[.t 2],.seq (.reg [⟨some 1,none,.box (.t 0),0,[]⟩,⟨some 2,none,.mov (.c (.v (.pointer none))),0,[]⟩]) (.seq (.reg [⟨some 6,none,.mkmap,0,[]⟩,⟨some 7,none,
 .build [.sl [] .nil,.v (.map none),.sl [] .nil,.v (.bool false),.v (.bool false)] [(1,1,.t 6)],0,[]⟩,⟨some 8,none,.box (.t 7),0,[]⟩,⟨some 3,none,.mov (.t 8),0,[]⟩])
  (.seq (.seq (.reg [⟨some 9,none,.faddr 0 (.t 1),0,[]⟩,⟨some 10,none,.load false 1 (.t 9),0,[]⟩,⟨some 11,none,.lenS (.t 10),0,[]⟩,⟨some 12,none,
 .mov (.c (.v (.int .i64 0))),0,[]⟩]) (.block 0 (.loop (.seq (.reg [⟨some 13,none,.bin .lss (.t 12) (.t 11),0,[]⟩]) (.seq (.cond (.t 13) .skip (.exit 0))
  (.seq (.block 1 (.seq (.reg [⟨some 14,none,.iaddr 5 (.t 10) (.t 12),0,[]⟩,⟨some 15,none,.load true 5 (.t 14),0,[]⟩,⟨some 5,none,.alloc [.v (.int .i64 0),
 .v (.int .i64 0),.v (.string (ByteArray.mk #[])),.sl [] .nil,.sl [] .nil],0,[]⟩,⟨none,none,.store 5 (.t 5) (.t 15),0,[]⟩]) (.reg [⟨some 16,none,.mov (.t 3),0,[]⟩,
 ⟨some 17,none,.load true 5 (.t 5),0,[]⟩,⟨some 18,none,.call (.c (.fn 73 [])) [.t 16,.t 17],0,[]⟩]))) (.reg [⟨some 19,none,.bin .add (.t 12) (.c (.v (.int .i64 1))),0,[]⟩
 ,⟨some 12,none,.mov (.t 19),0,[]⟩]))))))) (.seq (.reg [⟨some 20,none,.mov (.t 3),0,[]⟩,⟨some 2,none,.mov (.t 20),0,[]⟩]) .ret)))⟩
theorem pf42_is : pfs 42 = some pf42 := by kernel_rfl
def pf43 : PF := ⟨25,[.c 4 true 1,.t 5,.t 6],.seq (.reg [⟨some 4,none,.alloc [.sl [] .nil],0,[]⟩,⟨some 5,none,.mov (.c (.v (.int .i64 0))),0,[]⟩,⟨some 6,none,.mov (.c (.v (.int .i64 0)))
 ,0,[]⟩]) (.seq (.block 0 (.seq (.reg [⟨some 8,none,.mov (.t 0),0,[]⟩,⟨some 9,none,.nilck (.t 8),0,[]⟩,⟨some 10,none,.faddr 4 (.t 9),0,[]⟩,⟨some 11,none,
 .load false 1 (.t 10),0,[]⟩,⟨some 7,none,.mov (.t 11),0,[]⟩]) (.cond (.t 7) (.seq (.reg [⟨some 12,none,.build [.sl [] .nil] [],0,[]⟩,⟨none,none,.store 1 (.t 4) (.t 12),
 0,[]⟩,⟨some 5,none,.mov (.c (.v (.int .i64 0))),0,[]⟩,⟨some 6,none,.mov (.c (.v (.int .i64 24))),0,[]⟩]) .ret) (.seq (.reg [⟨some 14,none,.mov (.t 0),0,[]⟩,⟨some 15,
 none,.nilck (.t 14),0,[]⟩,⟨some 16,none,.faddr 3 (.t 15),0,[]⟩,⟨some 17,none,.load false 1 (.t 16),0,[]⟩,⟨some 13,none,.mov (.t 17),0,[]⟩]) (.cond (.t 13)
  (.seq (.reg [⟨some 18,none,.build [.sl [] .nil] [],0,[]⟩,⟨none,none,.store 1 (.t 4) (.t 18),0,[]⟩,⟨some 5,none,.mov (.c (.v (.int .i64 0))),0,[]⟩,⟨some 6,none,
 .mov (.c (.v (.int .i64 6))),0,[]⟩]) .ret) .skip))))) (.seq (.reg [⟨some 19,none,.mov (.t 0),0,[]⟩,⟨some 20,none,.nilck (.t 19),0,[]⟩,⟨some 21,none,.faddr 0 (.t 20),0,[]
 ⟩,⟨some 22,none,.load false 1 (.t 21),0,[]⟩,⟨some 23,none,.build [.sl [] .nil] [(0,1,.t 22)],0,[]⟩,⟨some 24,none,.mov (.t 1),0,[]⟩,⟨none,none,.store 1 (.t 4) (.t 23),0,
 []⟩,⟨some 5,none,.mov (.t 24),0,[]⟩,⟨some 6,none,.mov (.c (.v (.int .i64 0))),0,[]⟩]) .ret))⟩
theorem pf43_is : pfs 43 = some pf43 := by kernel_rfl
def pf44 : PF := ⟨36,[.t 4],.seq (.reg [⟨some 3,none,.box (.t 1),0,[]⟩,⟨some 4,none,.mov (.c (.v (.int .i64 0))),0,[]⟩]) (.seq (.reg [⟨some 8,none,.faddr 0 (.t 3),0,[]⟩,⟨some 9,none,
 .load false 1 (.t 8),0,[]⟩,⟨some 10,none,.faddr 1 (.t 3),0,[]⟩,⟨some 11,none,.load false 1 (.t 10),0,[]⟩,⟨some 12,none,.faddr 2 (.t 3),0,[]⟩,⟨some 13,none,
 .load false 1 (.t 12),0,[]⟩,⟨some 14,none,.faddr 3 (.t 3),0,[]⟩,⟨some 15,none,.load false 1 (.t 14),0,[]⟩,⟨some 16,none,.build [.v (.int .i64 0),.v (.int .i64 0),
 .v (.string (ByteArray.mk #[])),.sl [] .nil,.sl [] .nil] [(0,1,.t 9),(1,1,.t 11),(2,1,.t 13),(3,1,.t 15)],0,[]⟩,⟨some 5,none,.alloc [.v (.int .i64 0),.v (.int .i64 0),
 .v (.string (ByteArray.mk #[])),.sl [] .nil,.sl [] .nil],0,[]⟩,⟨none,none,.store 5 (.t 5) (.t 16),0,[]⟩]) (.seq (.seq (.reg [⟨some 17,none,.faddr 4 (.t 3),0,[]⟩,
 ⟨some 18,none,.load false 1 (.t 17),0,[]⟩,⟨some 19,none,.lenS (.t 18),0,[]⟩,⟨some 20,none,.mov (.c (.v (.int .i64 0))),0,[]⟩]) (.block 0 (.loop (.seq (.reg [⟨some 21,
 none,.bin .lss (.t 20) (.t 19),0,[]⟩]) (.seq (.cond (.t 21) .skip (.exit 0)) (.seq (.block 1 (.seq (.reg [⟨some 22,none,.iaddr 5 (.t 18) (.t 20),0,[]⟩,⟨some 23,none,
 .load true 5 (.t 22),0,[]⟩,⟨some 7,none,.alloc [.v (.int .i64 0),.v (.int .i64 0),.v (.string (ByteArray.mk #[])),.sl [] .nil,.sl [] .nil],0,[]⟩,⟨none,none,
 .store 5 (.t 7) (.t 23),0,[]⟩]) (.dreg [5006,0,0] [⟨some 24,none,.faddr 4 (.t 5),0,[]⟩,⟨some 25,none,.load false 1 (.t 24),1,[0]⟩,⟨some 26,none,.mov (.t 0),2,[]⟩,
 ⟨some 27,none,.load true 5 (.t 7),3,[]⟩,⟨some 28,none,.call (.c (.fn 44 [])) [.t 26,.t 27],4,[3,2]⟩,⟨some 29,none,.bsl (.v (.int .i64 0)) 1 [(0,1,.t 28)],5,[4,3,2]⟩,
 ⟨some 30,none,.app 1 none (.t 25) (.t 29),6,[5,4,3,2,1,0]⟩,⟨some 31,none,.faddr 4 (.t 5),7,[6,5,4,3,2,1,0]⟩,⟨none,none,.store 1 (.t 31) (.t 30),8,[7,6,5,4,3,2,1,0]⟩])))
  (.reg [⟨some 32,none,.bin .add (.t 20) (.c (.v (.int .i64 1))),0,[]⟩,⟨some 20,none,.mov (.t 32),0,[]⟩]))))))) (.seq (.reg [⟨some 33,none,.mov (.t 0),0,[]⟩,⟨some 34,
 none,.load true 5 (.t 5),0,[]⟩,⟨some 35,none,.call (.c (.fn 73 [])) [.t 33,.t 34],0,[]⟩,⟨some 4,none,.mov (.t 35),0,[]⟩]) .ret)))⟩
theorem pf44_is : pfs 44 = some pf44 := by kernel_rfl
def pf56 : PF := ⟨29,[.t 4],.seq (.reg [⟨some 2,none,.box (.t 0),0,[]⟩,⟨some 4,none,.mov (.c (.v (.int .i64 0))),0,[]⟩]) (.seq (.reg [⟨some 5,none,.mov (.c (.v (.int .i64 1))),0,[]⟩])
  (.seq (.seq (.reg [⟨some 6,none,.mov (.c (.v (.int .i64 0))),0,[]⟩]) (.block 0 (.loop (.seq (.seq (.reg [⟨some 7,none,.mov (.t 6),0,[]⟩,⟨some 8,none,.faddr 4 (.t 2),0,
 []⟩,⟨some 9,none,.load false 1 (.t 8),0,[]⟩,⟨some 10,none,.lenS (.t 9),0,[]⟩,⟨some 11,none,.bin .lss (.t 7) (.t 10),0,[]⟩,⟨some 12,none,.mov (.t 11),0,[]⟩,⟨some 13,
 some (12,true),.mov (.t 5),0,[]⟩,⟨some 14,some (12,true),.mov (.t 1),0,[]⟩,⟨some 15,some (12,true),.bin .leq (.t 13) (.t 14),0,[]⟩,⟨some 16,none,.pick (.t 12) (.t 15)
  (.c (.v (.bool false))),0,[]⟩]) (.cond (.t 16) .skip (.exit 0))) (.seq (.block 1 (.reg [⟨some 19,none,.mov (.t 5),0,[]⟩,⟨some 20,none,.faddr 4 (.t 2),0,[]⟩,⟨some 21,
 none,.load false 1 (.t 20),0,[]⟩,⟨some 22,none,.mov (.t 6),0,[]⟩,⟨some 23,none,.iaddr 5 (.t 21) (.t 22),0,[]⟩,⟨some 24,none,.load true 5 (.t 23),0,[]⟩,⟨some 25,none,
 .mov (.t 1),0,[]⟩,⟨some 26,none,.call (.c (.fn 56 [])) [.t 24,.t 25],0,[]⟩,⟨some 27,none,.bin .add (.t 19) (.t 26),0,[]⟩,⟨some 5,none,.mov (.t 27),0,[]⟩]))
  (.reg [⟨some 17,none,.mov (.t 6),0,[]⟩,⟨some 18,none,.bin .add (.t 17) (.c (.v (.int .i64 1))),0,[]⟩,⟨some 6,none,.mov (.t 18),0,[]⟩])))))) (.seq (.reg [⟨some 28,none,
 .mov (.t 5),0,[]⟩,⟨some 4,none,.mov (.t 28),0,[]⟩]) .ret)))⟩
theorem pf56_is : pfs 56 = some pf56 := by kernel_rfl
def pf57 : PF := ⟨28,[.t 4],.seq (.reg [⟨some 2,none,.box (.t 0),0,[]⟩,⟨some 4,none,.mov (.c (.v (.int .i64 0))),0,[]⟩]) (.seq (.seq (.reg [⟨some 7,none,.mov (.t 1),0,[]⟩,⟨some 8,none,
 .bin .lss (.t 7) (.c (.v (.int .i64 0))),0,[]⟩]) (.cond (.t 8) (.seq (.reg [⟨some 4,none,.mov (.c (.v (.int .i64 0))),0,[]⟩]) .ret) .skip)) (.seq (.reg [⟨some 5,none,
 .mov (.c (.v (.int .i64 0))),0,[]⟩]) (.seq (.seq (.reg [⟨some 6,none,.mov (.c (.v (.int .i64 0))),0,[]⟩]) (.block 0 (.loop (.seq (.seq (.reg [⟨some 9,none,.mov (.t 6),0,
 []⟩,⟨some 10,none,.faddr 4 (.t 2),0,[]⟩,⟨some 11,none,.load false 1 (.t 10),0,[]⟩,⟨some 12,none,.lenS (.t 11),0,[]⟩,⟨some 13,none,.bin .lss (.t 9) (.t 12),0,[]⟩])
  (.cond (.t 13) .skip (.exit 0))) (.seq (.block 1 (.reg [⟨some 16,none,.mov (.t 5),0,[]⟩,⟨some 17,none,.faddr 4 (.t 2),0,[]⟩,⟨some 18,none,.load false 1 (.t 17),0,[]⟩,
 ⟨some 19,none,.mov (.t 6),0,[]⟩,⟨some 20,none,.iaddr 5 (.t 18) (.t 19),0,[]⟩,⟨some 21,none,.load true 5 (.t 20),0,[]⟩,⟨some 22,none,.mov (.t 1),0,[]⟩,⟨some 23,none,
 .bin .sub (.t 22) (.c (.v (.int .i64 1))),0,[]⟩,⟨some 24,none,.call (.c (.fn 57 [])) [.t 21,.t 23],0,[]⟩,⟨some 25,none,.max (.t 16) (.t 24),0,[]⟩,⟨some 5,none,
 .mov (.t 25),0,[]⟩])) (.reg [⟨some 14,none,.mov (.t 6),0,[]⟩,⟨some 15,none,.bin .add (.t 14) (.c (.v (.int .i64 1))),0,[]⟩,⟨some 6,none,.mov (.t 15),0,[]⟩]))))))
  (.seq (.reg [⟨some 26,none,.mov (.t 5),0,[]⟩,⟨some 27,none,.bin .add (.t 26) (.c (.v (.int .i64 1))),0,[]⟩,⟨some 4,none,.mov (.t 27),0,[]⟩]) .ret))))⟩
theorem pf57_is : pfs 57 = some pf57 := by kernel_rfl
def pf58 : PF := ⟨21,[.t 2],.seq (.reg [⟨some 1,none,.box (.t 0),0,[]⟩,⟨some 2,none,.mov (.c (.v (.bool false))),0,[]⟩]) (.seq (.seq (.reg [⟨some 4,none,.load true 5 (.t 1),0,[]⟩,
 ⟨some 5,none,.call (.c (.fn 79 [])) [.t 4],0,[]⟩,⟨some 6,none,.un .not (.t 5),0,[]⟩]) (.cond (.t 6) (.seq (.reg [⟨some 2,none,.mov (.c (.v (.bool false))),0,[]⟩]) .ret)
  .skip)) (.seq (.seq (.reg [⟨some 3,none,.mov (.c (.v (.int .i64 0))),0,[]⟩]) (.block 0 (.loop (.seq (.seq (.reg [⟨some 7,none,.mov (.t 3),0,[]⟩,⟨some 8,none,
 .faddr 4 (.t 1),0,[]⟩,⟨some 9,none,.load false 1 (.t 8),0,[]⟩,⟨some 10,none,.lenS (.t 9),0,[]⟩,⟨some 11,none,.bin .lss (.t 7) (.t 10),0,[]⟩]) (.cond (.t 11)
  .skip (.exit 0))) (.seq (.block 1 (.seq (.reg [⟨some 14,none,.faddr 4 (.t 1),0,[]⟩,⟨some 15,none,.load false 1 (.t 14),0,[]⟩,⟨some 16,none,.mov (.t 3),0,[]⟩,⟨some 17,
 none,.iaddr 5 (.t 15) (.t 16),0,[]⟩,⟨some 18,none,.load true 5 (.t 17),0,[]⟩,⟨some 19,none,.call (.c (.fn 58 [])) [.t 18],0,[]⟩,⟨some 20,none,.un .not (.t 19),0,[]⟩])
  (.cond (.t 20) (.seq (.reg [⟨some 2,none,.mov (.c (.v (.bool false))),0,[]⟩]) .ret) .skip))) (.reg [⟨some 12,none,.mov (.t 3),0,[]⟩,⟨some 13,none,.bin .add (.t 12)
  (.c (.v (.int .i64 1))),0,[]⟩,⟨some 3,none,.mov (.t 13),0,[]⟩])))))) (.seq (.reg [⟨some 2,none,.mov (.c (.v (.bool true))),0,[]⟩]) .ret)))⟩
theorem pf58_is : pfs 58 = some pf58 := by kernel_rfl
def pf59 : PF := ⟨40,[.c 4 true 5],.seq (.reg [⟨some 4,none,.alloc [.v (.int .i64 0),.v (.int .i64 0),.v (.string (ByteArray.mk #[])),.sl [] .nil,.sl [] .nil],0,[]⟩])
  (.seq (.reg [⟨some 9,none,.faddr 0 (.t 1),0,[]⟩,⟨some 10,none,.load false 1 (.t 9),0,[]⟩,⟨some 11,none,.mov (.t 0),0,[]⟩,⟨some 12,none,.iaddr 5 (.t 10) (.t 11),0,[]⟩,
 ⟨some 13,none,.load true 5 (.t 12),0,[]⟩,⟨some 5,none,.alloc [.v (.int .i64 0),.v (.int .i64 0),.v (.string (ByteArray.mk #[])),.sl [] .nil,.sl [] .nil],0,[]⟩,⟨none,
 none,.store 5 (.t 5) (.t 13),0,[]⟩]) (.seq (.reg [⟨some 14,none,.faddr 0 (.t 5),0,[]⟩,⟨some 15,none,.load false 1 (.t 14),0,[]⟩,⟨some 16,none,.faddr 1 (.t 5),0,[]⟩,
 ⟨some 17,none,.load false 1 (.t 16),0,[]⟩,⟨some 18,none,.faddr 2 (.t 5),0,[]⟩,⟨some 19,none,.load false 1 (.t 18),0,[]⟩,⟨some 20,none,.faddr 3 (.t 5),0,[]⟩,⟨some 21,
 none,.load false 1 (.t 20),0,[]⟩,⟨some 22,none,.build [.v (.int .i64 0),.v (.int .i64 0),.v (.string (ByteArray.mk #[])),.sl [] .nil,.sl [] .nil] [(0,1,.t 15),(1,1,
 .t 17),(2,1,.t 19),(3,1,.t 21)],0,[]⟩,⟨some 6,none,.alloc [.v (.int .i64 0),.v (.int .i64 0),.v (.string (ByteArray.mk #[])),.sl [] .nil,.sl [] .nil],0,[]⟩,⟨none,none,
 .store 5 (.t 6) (.t 22),0,[]⟩]) (.seq (.seq (.reg [⟨some 23,none,.faddr 4 (.t 5),0,[]⟩,⟨some 24,none,.load false 1 (.t 23),0,[]⟩,⟨some 25,none,.lenS (.t 24),0,[]⟩,
 ⟨some 26,none,.mov (.c (.v (.int .i64 0))),0,[]⟩]) (.block 0 (.loop (.seq (.reg [⟨some 27,none,.bin .lss (.t 26) (.t 25),0,[]⟩]) (.seq (.cond (.t 27) .skip (.exit 0))
  (.seq (.block 1 (.seq (.reg [⟨some 28,none,.iaddr 1 (.t 24) (.t 26),0,[]⟩,⟨some 29,none,.load false 1 (.t 28),0,[]⟩,⟨some 8,none,.mov (.t 29),0,[]⟩]) (.dreg [5006,0,0]
  [⟨some 30,none,.faddr 4 (.t 6),0,[]⟩,⟨some 31,none,.load false 1 (.t 30),1,[0]⟩,⟨some 32,none,.load false 1 (.t 2),2,[]⟩,⟨some 33,none,.mov (.t 8),3,[]⟩,⟨some 34,none,
 .call (.t 32) [.t 33],4,[3,2]⟩,⟨some 35,none,.bsl (.agg [.v (.int .i64 0),.v (.int .i64 0),.v (.string (ByteArray.mk #[])),.sl [] .nil,.sl [] .nil]) 1 [(0,5,.t 34)],5,
 [4,3,2]⟩,⟨some 36,none,.app 5 none (.t 31) (.t 35),6,[5,4,3,2,1,0]⟩,⟨some 37,none,.faddr 4 (.t 6),7,[6,5,4,3,2,1,0]⟩,⟨none,none,.store 1 (.t 37) (.t 36),8,[7,6,5,4,3,2,
 1,0]⟩]))) (.reg [⟨some 38,none,.bin .add (.t 26) (.c (.v (.int .i64 1))),0,[]⟩,⟨some 26,none,.mov (.t 38),0,[]⟩]))))))) (.seq (.reg [⟨some 39,none,.load true 5 (.t 6),0,
 []⟩,⟨none,none,.store 5 (.t 4) (.t 39),0,[]⟩]) .ret))))⟩
theorem pf59_is : pfs 59 = some pf59 := by kernel_rfl
def pf60 : PF := ⟨27,[.t 4],.seq (.reg [⟨some 4,none,.mov (.c (.v (.bool false))),0,[]⟩]) (.seq (.seq (.reg [⟨some 6,none,.mov (.t 0),0,[]⟩,⟨some 7,none,.lenS (.t 6),0,[]⟩,⟨some 8,none,
 .mov (.t 1),0,[]⟩,⟨some 9,none,.lenS (.t 8),0,[]⟩,⟨some 10,none,.bin .neq (.t 7) (.t 9),0,[]⟩]) (.cond (.t 10) (.seq (.reg [⟨some 4,none,.mov (.c (.v (.bool false))),0,
 []⟩]) .ret) .skip)) (.seq (.seq (.reg [⟨some 5,none,.mov (.c (.v (.int .i64 0))),0,[]⟩]) (.block 0 (.loop (.seq (.seq (.reg [⟨some 11,none,.mov (.t 5),0,[]⟩,⟨some 12,
 none,.mov (.t 0),0,[]⟩,⟨some 13,none,.lenS (.t 12),0,[]⟩,⟨some 14,none,.bin .lss (.t 11) (.t 13),0,[]⟩]) (.cond (.t 14) .skip (.exit 0)))
  (.seq (.block 1 (.seq (.dreg [8,0] [⟨some 17,none,.mov (.t 0),0,[]⟩,⟨some 18,none,.mov (.t 5),1,[]⟩,⟨some 19,none,.iaddr 2 (.t 17) (.t 18),2,[1,0]⟩,⟨some 20,none,
 .load true 2 (.t 19),3,[2,1,0]⟩,⟨some 21,none,.mov (.t 1),4,[]⟩,⟨some 22,none,.mov (.t 5),5,[]⟩,⟨some 23,none,.iaddr 2 (.t 21) (.t 22),6,[5,4]⟩,⟨some 24,none,
 .load true 2 (.t 23),7,[6,5,4]⟩,⟨some 25,none,.call (.c (.fn 80 [])) [.t 20,.t 24],8,[7,6,5,4,3,2,1,0]⟩,⟨some 26,none,.un .not (.t 25),9,[8,7,6,5,4,3,2,1,0]⟩])
  (.cond (.t 26) (.seq (.reg [⟨some 4,none,.mov (.c (.v (.bool false))),0,[]⟩]) .ret) .skip))) (.reg [⟨some 15,none,.mov (.t 5),0,[]⟩,⟨some 16,none,.bin .add (.t 15)
  (.c (.v (.int .i64 1))),0,[]⟩,⟨some 5,none,.mov (.t 16),0,[]⟩])))))) (.seq (.reg [⟨some 4,none,.mov (.c (.v (.bool true))),0,[]⟩]) .ret)))⟩
theorem pf60_is : pfs 60 = some pf60 := by kernel_rfl
def pf63 : PF := ⟨15,[.t 2],.seq (.reg [⟨some 2,none,.mov (.c (.v (.int .i64 0))),0,[]⟩]) (.seq (.seq (.reg [⟨some 3,none,.mov (.t 0),0,[]⟩]) (.block 0 (.seq (.seq (.reg [⟨some 5,none,
 .bin .eql (.t 3) (.c (.v (.int .i64 4))),0,[]⟩,⟨some 4,none,.mov (.t 5),0,[]⟩]) (.cond (.t 4) .skip (.seq (.reg [⟨some 6,none,.bin .eql (.t 3) (.c (.v (.int .i64 5))),0,
 []⟩,⟨some 4,none,.mov (.t 6),0,[]⟩]) (.cond (.t 4) .skip (.seq (.reg [⟨some 7,none,.bin .eql (.t 3) (.c (.v (.int .i64 6))),0,[]⟩,⟨some 4,none,.mov (.t 7),0,[]⟩])
  (.cond (.t 4) .skip (.reg [⟨some 8,none,.bin .eql (.t 3) (.c (.v (.int .i64 7))),0,[]⟩,⟨some 4,none,.mov (.t 8),0,[]⟩]))))))) (.cond (.t 4) (.seq (.reg [⟨some 2,none,
 .mov (.c (.v (.int .i64 2))),0,[]⟩]) .ret) (.seq (.seq (.reg [⟨some 10,none,.bin .eql (.t 3) (.c (.v (.int .i64 8))),0,[]⟩,⟨some 9,none,.mov (.t 10),0,[]⟩])
  (.cond (.t 9) .skip (.reg [⟨some 11,none,.bin .eql (.t 3) (.c (.v (.int .i64 11))),0,[]⟩,⟨some 9,none,.mov (.t 11),0,[]⟩]))) (.cond (.t 9) (.seq (.reg [⟨some 2,none,
 .mov (.c (.v (.int .i64 3))),0,[]⟩]) .ret) (.seq (.seq (.reg [⟨some 13,none,.bin .eql (.t 3) (.c (.v (.int .i64 9))),0,[]⟩,⟨some 12,none,.mov (.t 13),0,[]⟩])
  (.cond (.t 12) .skip (.reg [⟨some 14,none,.bin .eql (.t 3) (.c (.v (.int .i64 10))),0,[]⟩,⟨some 12,none,.mov (.t 14),0,[]⟩]))) (.cond (.t 12) (.seq (.reg [⟨some 2,none,
 .mov (.c (.v (.int .i64 1))),0,[]⟩]) .ret) .skip)))))))) (.seq (.reg [⟨some 2,none,.mov (.c (.v (.int .i64 0))),0,[]⟩]) .ret))⟩
theorem pf63_is : pfs 63 = some pf63 := by kernel_rfl
def pf64 : PF := ⟨9,[.t 4],.seq (.reg [⟨some 4,none,.mov (.c (.v (.bool false))),0,[]⟩]) (.seq (.reg [⟨some 5,none,.mov (.t 0),0,[]⟩,⟨some 6,none,.mov (.t 1),0,[]⟩,⟨some 7,none,
 .call (.c (.fn 82 [])) [.t 5,.t 6],0,[]⟩,⟨some 8,none,.bin .geq (.t 7) (.c (.v (.int .i64 0))),0,[]⟩,⟨some 4,none,.mov (.t 8),0,[]⟩]) .ret)⟩
theorem pf64_is : pfs 64 = some pf64 := by kernel_rfl
def pf65 : PF := ⟨6,[.t 2],.seq (.reg [⟨some 1,none,.box (.t 0),0,[]⟩,⟨some 2,none,.mov (.c (.v (.bool false))),0,[]⟩]) (.seq (.reg [⟨some 3,none,.load true 2 (.t 1),0,[]⟩,⟨some 4,none,
 .call (.c (.fn 66 [])) [.t 3],0,[]⟩,⟨some 5,none,.un .not (.t 4),0,[]⟩,⟨some 2,none,.mov (.t 5),0,[]⟩]) .ret)⟩
theorem pf65_is : pfs 65 = some pf65 := by kernel_rfl
def pf66 : PF := ⟨65,[.t 2],.seq (.reg [⟨some 1,none,.box (.t 0),0,[]⟩,⟨some 2,none,.mov (.c (.v (.bool false))),0,[]⟩]) (.seq (.seq (.reg [⟨some 5,none,.faddr 0 (.t 1),0,[]⟩,⟨some 6,
 none,.load false 1 (.t 5),0,[]⟩,⟨some 7,none,.bin .lss (.t 6) (.c (.v (.int .i64 0))),0,[]⟩,⟨some 8,none,.mov (.t 7),0,[]⟩,⟨some 9,some (8,false),.faddr 0 (.t 1),0,[]⟩,
 ⟨some 10,some (8,false),.load false 1 (.t 9),0,[]⟩,⟨some 11,some (8,false),.bin .gtr (.t 10) (.c (.v (.int .i64 100))),0,[]⟩,⟨some 12,none,.pick (.t 8)
  (.c (.v (.bool true))) (.t 11),0,[]⟩,⟨some 13,none,.mov (.t 12),0,[]⟩,⟨some 14,some (13,false),.faddr 0 (.t 1),0,[]⟩,⟨some 15,some (13,false),.load false 1 (.t 14),0,[]
 ⟩,⟨some 16,some (13,false),.bin .gtr (.t 15) (.c (.v (.int .i64 0))),0,[]⟩,⟨some 17,some (13,false),.mov (.t 16),0,[]⟩,⟨some 18,some (17,true),.load true 2 (.t 1),0,[]⟩,
 ⟨some 19,some (17,true),.call (.c (.fn 83 [])) [.t 18],0,[]⟩,⟨some 20,some (13,false),.pick (.t 17) (.t 19) (.c (.v (.bool false))),0,[]⟩,⟨some 21,none,.pick (.t 13)
  (.c (.v (.bool true))) (.t 20),0,[]⟩]) (.cond (.t 21) (.seq (.reg [⟨some 2,none,.mov (.c (.v (.bool false))),0,[]⟩]) .ret) .skip)) (.seq (.seq (.reg [⟨some 22,none,
 .faddr 1 (.t 1),0,[]⟩,⟨some 23,none,.load false 1 (.t 22),0,[]⟩,⟨some 24,none,.lenS (.t 23),0,[]⟩,⟨some 25,none,.mov (.c (.v (.int .i64 0))),0,[]⟩])
  (.block 0 (.loop (.seq (.reg [⟨some 26,none,.bin .lss (.t 25) (.t 24),0,[]⟩]) (.seq (.cond (.t 26) .skip (.exit 0)) (.seq (.block 1 (.seq (.reg [⟨some 27,none,
 .mov (.t 25),0,[]⟩,⟨some 28,none,.iaddr 2 (.t 23) (.t 25),0,[]⟩,⟨some 29,none,.load true 2 (.t 28),0,[]⟩,⟨some 4,none,.alloc [.v (.int .i64 0),.v (.int .i64 0)],0,[]⟩,
 ⟨some 3,none,.mov (.t 27),0,[]⟩,⟨none,none,.store 2 (.t 4) (.t 29),0,[]⟩]) (.seq (.dreg [0,0,0,0,0,0,0,0,0,0,0,0,0,0,0,0,0,0,0,0,0,0,9,0,0] [⟨some 30,none,
 .faddr 0 (.t 4),0,[]⟩,⟨some 31,none,.load false 1 (.t 30),1,[0]⟩,⟨some 32,none,.bin .lss (.t 31) (.c (.v (.int .i64 (-65536)))),2,[1,0]⟩,⟨some 33,none,.mov (.t 32),3,[2,
 1,0]⟩,⟨some 34,some (33,false),.faddr 0 (.t 4),4,[3,2,1,0]⟩,⟨some 35,some (33,false),.load false 1 (.t 34),5,[4,3,2,1,0]⟩,⟨some 36,some (33,false),.bin .gtr (.t 35)
  (.c (.v (.int .i64 7))),6,[5,4,3,2,1,0]⟩,⟨some 37,none,.pick (.t 33) (.c (.v (.bool true))) (.t 36),7,[6,5,4,3,2,1,0]⟩,⟨some 38,none,.mov (.t 37),8,[7,6,5,4,3,2,1,0]⟩,
 ⟨some 39,some (38,false),.faddr 1 (.t 4),9,[8,7,6,5,4,3,2,1,0]⟩,⟨some 40,some (38,false),.load false 1 (.t 39),10,[9,8,7,6,5,4,3,2,1,0]⟩,⟨some 41,some (38,false),
 .bin .lss (.t 40) (.c (.v (.int .i64 0))),11,[10,9,8,7,6,5,4,3,2,1,0]⟩,⟨some 42,none,.pick (.t 38) (.c (.v (.bool true))) (.t 41),12,[11,10,9,8,7,6,5,4,3,2,1,0]⟩,
 ⟨some 43,none,.mov (.t 42),13,[12,11,10,9,8,7,6,5,4,3,2,1,0]⟩,⟨some 44,some (43,false),.faddr 1 (.t 4),14,[13,12,11,10,9,8,7,6,5,4,3,2,1,0]⟩,⟨some 45,some (43,false),
 .load false 1 (.t 44),15,[14,13,12,11,10,9,8,7,6,5,4,3,2,1,0]⟩,⟨some 46,some (43,false),.bin .gtr (.t 45) (.c (.v (.int .i64 100))),16,[15,14,13,12,11,10,9,8,7,6,5,4,3,
 2,1,0]⟩,⟨some 47,none,.pick (.t 43) (.c (.v (.bool true))) (.t 46),17,[16,15,14,13,12,11,10,9,8,7,6,5,4,3,2,1,0]⟩,⟨some 48,none,.mov (.t 47),18,[17,16,15,14,13,12,11,10,
 9,8,7,6,5,4,3,2,1,0]⟩,⟨some 49,some (48,false),.mov (.t 3),19,[18,17,16,15,14,13,12,11,10,9,8,7,6,5,4,3,2,1,0]⟩,⟨some 50,some (48,false),.bin .gtr (.t 49)
  (.c (.v (.int .i64 0))),20,[19,18,17,16,15,14,13,12,11,10,9,8,7,6,5,4,3,2,1,0]⟩,⟨some 51,some (48,false),.mov (.t 50),21,[20,19,18,17,16,15,14,13,12,11,10,9,8,7,6,5,4,
 3,2,1,0]⟩,⟨some 52,some (51,true),.faddr 1 (.t 1),22,[21,20,19,18,17,16,15,14,13,12,11,10,9,8,7,6,5,4,3,2,1,0]⟩,⟨some 53,some (51,true),.load false 1 (.t 52),23,[22,21,
 20,19,18,17,16,15,14,13,12,11,10,9,8,7,6,5,4,3,2,1,0]⟩,⟨some 54,some (51,true),.mov (.t 3),24,[21,20,19,18,17,16,15,14,13,12,11,10,9,8,7,6,5,4,3,2,1,0]⟩,⟨some 55,
 some (51,true),.bin .sub (.t 54) (.c (.v (.int .i64 1))),25,[24,21,20,19,18,17,16,15,14,13,12,11,10,9,8,7,6,5,4,3,2,1,0]⟩,⟨some 56,some (51,true),.iaddr 2 (.t 53)
  (.t 55),26,[25,24,23,22,21,20,19,18,17,16,15,14,13,12,11,10,9,8,7,6,5,4,3,2,1,0]⟩,⟨some 57,some (51,true),.faddr 0 (.t 56),27,[26,25,24,23,22,21,20,19,18,17,16,15,14,
 13,12,11,10,9,8,7,6,5,4,3,2,1,0]⟩,⟨some 58,some (51,true),.load false 1 (.t 57),28,[27,26,25,24,23,22,21,20,19,18,17,16,15,14,13,12,11,10,9,8,7,6,5,4,3,2,1,0]⟩,⟨some 59,
 some (51,true),.faddr 0 (.t 4),29,[21,20,19,18,17,16,15,14,13,12,11,10,9,8,7,6,5,4,3,2,1,0]⟩,⟨some 60,some (51,true),.load false 1 (.t 59),30,[29,21,20,19,18,17,16,15,
 14,13,12,11,10,9,8,7,6,5,4,3,2,1,0]⟩,⟨some 61,some (51,true),.bin .geq (.t 58) (.t 60),31,[30,29,28,27,26,25,24,23,22,21,20,19,18,17,16,15,14,13,12,11,10,9,8,7,6,5,4,3,
 2,1,0]⟩,⟨some 62,some (48,false),.pick (.t 51) (.t 61) (.c (.v (.bool false))),32,[31,30,29,28,27,26,25,24,23,22,21,20,19,18,17,16,15,14,13,12,11,10,9,8,7,6,5,4,3,2,1,0]
 ⟩,⟨some 63,none,.pick (.t 48) (.c (.v (.bool true))) (.t 62),33,[32,31,30,29,28,27,26,25,24,23,22,21,20,19,18,17,16,15,14,13,12,11,10,9,8,7,6,5,4,3,2,1,0]⟩])
  (.cond (.t 63) (.seq (.reg [⟨some 2,none,.mov (.c (.v (.bool false))),0,[]⟩]) .ret) .skip)))) (.reg [⟨some 64,none,.bin .add (.t 25) (.c (.v (.int .i64 1))),0,[]⟩,
 ⟨some 25,none,.mov (.t 64),0,[]⟩]))))))) (.seq (.reg [⟨some 2,none,.mov (.c (.v (.bool true))),0,[]⟩]) .ret)))⟩
theorem pf66_is : pfs 66 = some pf66 := by kernel_rfl
def pf67 : PF := ⟨19,[.t 4],.seq (.reg [⟨some 4,none,.mov (.c (.v (.int .i64 0))),0,[]⟩]) (.seq (.seq (.reg [⟨some 6,none,.mov (.t 0),0,[]⟩,⟨some 7,none,.lenS (.t 6),0,[]⟩,⟨some 8,none,
 .mov (.c (.v (.int .i64 0))),0,[]⟩]) (.block 0 (.loop (.seq (.reg [⟨some 9,none,.bin .lss (.t 8) (.t 7),0,[]⟩]) (.seq (.cond (.t 9) .skip (.exit 0))
  (.seq (.block 1 (.seq (.reg [⟨some 10,none,.mov (.t 8),0,[]⟩,⟨some 5,none,.mov (.t 10),0,[]⟩]) (.seq (.reg [⟨some 11,none,.mov (.t 1),0,[]⟩,⟨some 12,none,.mov (.t 0),0,
 []⟩,⟨some 13,none,.mov (.t 5),0,[]⟩,⟨some 14,none,.iaddr 1 (.t 12) (.t 13),0,[]⟩,⟨some 15,none,.load false 1 (.t 14),0,[]⟩,⟨some 16,none,.call (.t 11) [.t 15],0,[]⟩])
  (.cond (.t 16) (.seq (.reg [⟨some 17,none,.mov (.t 5),0,[]⟩,⟨some 4,none,.mov (.t 17),0,[]⟩]) .ret) .skip)))) (.reg [⟨some 18,none,.bin .add (.t 8)
  (.c (.v (.int .i64 1))),0,[]⟩,⟨some 8,none,.mov (.t 18),0,[]⟩]))))))) (.seq (.reg [⟨some 4,none,.mov (.c (.v (.int .i64 (-1)))),0,[]⟩]) .ret))⟩
theorem pf67_is : pfs 67 = some pf67 := by kernel_rfl
def pf68 : PF := ⟨11,[.t 6],.seq (.reg [⟨some 6,none,.mov (.c (.sl [] .nil)),0,[]⟩]) (.seq (.reg [⟨some 7,none,.mov (.t 0),0,[]⟩,⟨some 8,none,.mov (.t 1),0,[]⟩,⟨some 9,none,.mov (.t 2),
 0,[]⟩,⟨some 10,none,.call (.c (.fn 84 [])) [.t 7,.t 8,.t 9],0,[]⟩,⟨some 6,none,.mov (.t 10),0,[]⟩]) .ret)⟩
theorem pf68_is : pfs 68 = some pf68 := by kernel_rfl
def pf69 : PF := ⟨8,[],.reg [⟨some 3,none,.load false 1 (.t 1),0,[]⟩,⟨some 4,none,.bsl (.v (.int .u8 0)) 1 [(0,1,.c (.v (.int .u8 32)))],0,[]⟩,⟨some 5,none,.app 1 none (.t 3) (.t 4),0,[]
 ⟩,⟨some 6,none,.mov (.t 0),0,[]⟩,⟨some 7,none,.call (.c (.fn 68 [])) [.t 5,.t 6,.c (.v (.int .i64 10))],0,[]⟩,⟨none,none,.store 1 (.t 1) (.t 7),0,[]⟩]⟩
theorem pf69_is : pfs 69 = some pf69 := by kernel_rfl
def pf70 : PF := ⟨24,[.t 2],.seq (.reg [⟨some 1,none,.box (.t 0),0,[]⟩,⟨some 2,none,.mov (.c (.v (.int .i64 0))),0,[]⟩]) (.seq (.seq (.reg [⟨some 8,none,.load true 5 (.t 1),0,[]⟩,
 ⟨some 9,none,.call (.c (.fn 85 [])) [.t 8,.c (.v (.int .i64 4096)),.c (.v (.int .i64 1073741824))],0,[]⟩,⟨some 7,none,.mov (.t 9),0,[]⟩,⟨some 10,none,.ext (.t 7) 0,0,[]⟩
 ,⟨some 11,none,.ext (.t 7) 1,0,[]⟩,⟨some 3,none,.mov (.t 10),0,[]⟩,⟨some 4,none,.mov (.t 11),0,[]⟩]) (.seq (.reg [⟨some 12,none,.mov (.t 3),0,[]⟩,⟨some 13,none,
 .bin .gtr (.t 12) (.c (.v (.int .i64 4096))),0,[]⟩]) (.cond (.t 13) (.seq (.reg [⟨some 2,none,.mov (.c (.v (.int .i64 5))),0,[]⟩]) .ret) .skip)))
  (.seq (.seq (.reg [⟨some 15,none,.load true 5 (.t 1),0,[]⟩,⟨some 16,none,.call (.c (.fn 85 [])) [.t 15,.c (.v (.int .i64 4096)),.c (.v (.int .i64 1073741824))],0,[]⟩,
 ⟨some 14,none,.mov (.t 16),0,[]⟩,⟨some 17,none,.ext (.t 14) 0,0,[]⟩,⟨some 18,none,.ext (.t 14) 1,0,[]⟩,⟨some 5,none,.mov (.t 17),0,[]⟩,⟨some 6,none,.mov (.t 18),0,[]⟩])
  (.seq (.reg [⟨some 19,none,.mov (.t 6),0,[]⟩,⟨some 20,none,.bin .gtr (.t 19) (.c (.v (.int .i64 200))),0,[]⟩]) (.cond (.t 20) (.seq (.reg [⟨some 2,none,
 .mov (.c (.v (.int .i64 7))),0,[]⟩]) .ret) .skip))) (.seq (.seq (.reg [⟨some 21,none,.load true 5 (.t 1),0,[]⟩,⟨some 22,none,.call (.c (.fn 86 [])) [.t 21],0,[]⟩,
 ⟨some 23,none,.un .not (.t 22),0,[]⟩]) (.cond (.t 23) (.seq (.reg [⟨some 2,none,.mov (.c (.v (.int .i64 3))),0,[]⟩]) .ret) .skip)) (.seq (.reg [⟨some 2,none,
 .mov (.c (.v (.int .i64 0))),0,[]⟩]) .ret))))⟩
theorem pf70_is : pfs 70 = some pf70 := by kernel_rfl
def pf71 : PF := ⟨21,[.t 4],.seq (.reg [⟨some 4,none,.mov (.c (.sl [] .nil)),0,[]⟩]) (.seq (.block 0 (.loop (.seq (.seq (.reg [⟨some 5,none,.mov (.t 1),0,[]⟩,⟨some 6,none,
 .bin .geq (.t 5) (.c (.v (.int .i64 128))),0,[]⟩]) (.cond (.t 6) .skip (.exit 0))) (.block 1 (.seq (.reg [⟨some 7,none,.mov (.t 0),0,[]⟩,⟨some 8,none,.mov (.t 1),0,[]⟩,
 ⟨some 9,none,.bin .rem (.t 8) (.c (.v (.int .i64 128))),0,[]⟩,⟨some 10,none,.conv .u8 (.t 9),0,[]⟩,⟨some 11,none,.bin .or (.t 10) (.c (.v (.int .u8 128))),0,[]⟩,
 ⟨some 12,none,.bsl (.v (.int .u8 0)) 1 [(0,1,.t 11)],0,[]⟩,⟨some 13,none,.app 1 none (.t 7) (.t 12),0,[]⟩,⟨some 0,none,.mov (.t 13),0,[]⟩]) (.reg [⟨some 14,none,
 .mov (.t 1),0,[]⟩,⟨some 15,none,.bin .quo (.t 14) (.c (.v (.int .i64 128))),0,[]⟩,⟨some 1,none,.mov (.t 15),0,[]⟩])))))) (.seq (.reg [⟨some 16,none,.mov (.t 0),0,[]⟩,
 ⟨some 17,none,.mov (.t 1),0,[]⟩,⟨some 18,none,.conv .u8 (.t 17),0,[]⟩,⟨some 19,none,.bsl (.v (.int .u8 0)) 1 [(0,1,.t 18)],0,[]⟩,⟨some 20,none,.app 1 none (.t 16)
  (.t 19),0,[]⟩,⟨some 4,none,.mov (.t 20),0,[]⟩]) .ret))⟩
theorem pf71_is : pfs 71 = some pf71 := by kernel_rfl
def pf72 : PF := ⟨106,[.t 4],.seq (.reg [⟨some 3,none,.box (.t 1),0,[]⟩,⟨some 4,none,.mov (.c (.v (.int .i64 0))),0,[]⟩]) (.seq (.reg [⟨some 12,none,.faddr 0 (.t 3),0,[]⟩,⟨some 13,none,
 .load false 1 (.t 12),0,[]⟩,⟨some 14,none,.call (.c (.fn 71 [])) [.c (.sl [] .nil),.t 13],0,[]⟩,⟨some 5,none,.mov (.t 14),0,[]⟩]) (.seq (.seq (.reg [⟨some 15,none,
 .faddr 0 (.t 3),0,[]⟩,⟨some 16,none,.load false 1 (.t 15),0,[]⟩]) (.block 0 (.seq (.seq (.reg [⟨some 18,none,.bin .eql (.t 16) (.c (.v (.int .i64 0))),0,[]⟩,⟨some 17,
 none,.mov (.t 18),0,[]⟩]) (.cond (.t 17) .skip (.reg [⟨some 19,none,.bin .eql (.t 16) (.c (.v (.int .i64 12))),0,[]⟩,⟨some 17,none,.mov (.t 19),0,[]⟩]))) (.cond (.t 17)
  (.reg [⟨some 20,none,.mov (.t 5),0,[]⟩,⟨some 21,none,.faddr 1 (.t 3),0,[]⟩,⟨some 22,none,.load false 1 (.t 21),0,[]⟩,⟨some 23,none,.call (.c (.fn 71 [])) [.t 20,.t 22],
 0,[]⟩,⟨some 5,none,.mov (.t 23),0,[]⟩]) (.seq (.reg [⟨some 25,none,.bin .eql (.t 16) (.c (.v (.int .i64 2))),0,[]⟩,⟨some 24,none,.mov (.t 25),0,[]⟩]) (.cond (.t 24)
  (.reg [⟨some 26,none,.mov (.t 5),0,[]⟩,⟨some 27,none,.faddr 3 (.t 3),0,[]⟩,⟨some 28,none,.load false 1 (.t 27),0,[]⟩,⟨some 29,none,.iaddr 2 (.t 28)
  (.c (.v (.int .i64 0))),0,[]⟩,⟨some 30,none,.load true 2 (.t 29),0,[]⟩,⟨some 31,none,.call (.c (.fn 87 [])) [.t 26,.t 30],0,[]⟩,⟨some 5,none,.mov (.t 31),0,[]⟩])
  (.seq (.reg [⟨some 33,none,.bin .eql (.t 16) (.c (.v (.int .i64 3))),0,[]⟩,⟨some 32,none,.mov (.t 33),0,[]⟩]) (.cond (.t 32) (.seq (.reg [⟨some 34,none,.mov (.t 5),0,[]
 ⟩,⟨some 35,none,.faddr 2 (.t 3),0,[]⟩,⟨some 36,none,.load false 1 (.t 35),0,[]⟩,⟨some 37,none,.lenT (.t 36),0,[]⟩,⟨some 38,none,.call (.c (.fn 71 [])) [.t 34,.t 37],0,[]
 ⟩,⟨some 5,none,.mov (.t 38),0,[]⟩]) (.seq (.reg [⟨some 39,none,.mov (.t 5),0,[]⟩,⟨some 40,none,.faddr 2 (.t 3),0,[]⟩,⟨some 41,none,.load false 1 (.t 40),0,[]⟩,⟨some 42,
 none,.app 1 none (.t 39) (.t 41),0,[]⟩,⟨some 5,none,.mov (.t 42),0,[]⟩]) (.seq (.reg [⟨some 43,none,.mov (.t 5),0,[]⟩,⟨some 44,none,.faddr 3 (.t 3),0,[]⟩,⟨some 45,none,
 .load false 1 (.t 44),0,[]⟩,⟨some 46,none,.lenS (.t 45),0,[]⟩,⟨some 47,none,.call (.c (.fn 71 [])) [.t 43,.t 46],0,[]⟩,⟨some 5,none,.mov (.t 47),0,[]⟩])
  (.seq (.reg [⟨some 48,none,.faddr 3 (.t 3),0,[]⟩,⟨some 49,none,.load false 1 (.t 48),0,[]⟩,⟨some 50,none,.lenS (.t 49),0,[]⟩,⟨some 51,none,.mov (.c (.v (.int .i64 0))),
 0,[]⟩]) (.block 1 (.loop (.seq (.reg [⟨some 52,none,.bin .lss (.t 51) (.t 50),0,[]⟩]) (.seq (.cond (.t 52) .skip (.exit 1)) (.seq (.block 2 (.seq (.reg [⟨some 53,none,
 .iaddr 2 (.t 49) (.t 51),0,[]⟩,⟨some 54,none,.load true 2 (.t 53),0,[]⟩,⟨some 7,none,.alloc [.v (.int .i64 0),.sl [] .nil],0,[]⟩,⟨none,none,.store 2 (.t 7) (.t 54),0,[]⟩
 ]) (.reg [⟨some 55,none,.mov (.t 5),0,[]⟩,⟨some 56,none,.load true 2 (.t 7),0,[]⟩,⟨some 57,none,.call (.c (.fn 87 [])) [.t 55,.t 56],0,[]⟩,⟨some 5,none,.mov (.t 57),0,[]
 ⟩]))) (.reg [⟨some 58,none,.bin .add (.t 51) (.c (.v (.int .i64 1))),0,[]⟩,⟨some 51,none,.mov (.t 58),0,[]⟩])))))))))) .skip)))))))) (.seq (.seq (.reg [⟨some 59,none,
 .faddr 4 (.t 3),0,[]⟩,⟨some 60,none,.load false 1 (.t 59),0,[]⟩,⟨some 61,none,.lenS (.t 60),0,[]⟩,⟨some 62,none,.mov (.c (.v (.int .i64 0))),0,[]⟩])
  (.block 3 (.loop (.seq (.reg [⟨some 63,none,.bin .lss (.t 62) (.t 61),0,[]⟩]) (.seq (.cond (.t 63) .skip (.exit 3)) (.seq (.block 4 (.seq (.reg [⟨some 64,none,
 .iaddr 5 (.t 60) (.t 62),0,[]⟩,⟨some 65,none,.load true 5 (.t 64),0,[]⟩,⟨some 9,none,.alloc [.v (.int .i64 0),.v (.int .i64 0),.v (.string (ByteArray.mk #[])),.sl []
  .nil,.sl [] .nil],0,[]⟩,⟨none,none,.store 5 (.t 9) (.t 65),0,[]⟩]) (.reg [⟨some 66,none,.mov (.t 5),0,[]⟩,⟨some 67,none,.mov (.t 0),0,[]⟩,⟨some 68,none,
 .load true 5 (.t 9),0,[]⟩,⟨some 69,none,.call (.c (.fn 72 [])) [.t 67,.t 68],0,[]⟩,⟨some 70,none,.call (.c (.fn 71 [])) [.t 66,.t 69],0,[]⟩,⟨some 5,none,.mov (.t 70),0,
 []⟩]))) (.reg [⟨some 71,none,.bin .add (.t 62) (.c (.v (.int .i64 1))),0,[]⟩,⟨some 62,none,.mov (.t 71),0,[]⟩]))))))) (.seq (.dreg [6,0,3] [⟨some 73,none,.mov (.t 0),0,
 []⟩,⟨some 74,none,.nilck (.t 73),1,[0]⟩,⟨some 75,none,.faddr 0 (.t 74),2,[1,0]⟩,⟨some 76,none,.load false 1 (.t 75),3,[2,1,0]⟩,⟨some 77,none,.mov (.t 5),4,[]⟩,⟨some 78,
 none,.bstr (.t 77),5,[4]⟩,⟨some 79,none,.look (.v (.int .i64 0)) true (KK.sc true) (.t 76) (.t 78),6,[5,4,3,2,1,0]⟩,⟨some 72,none,.mov (.t 79),7,[6,5,4,3,2,1,0]⟩,
 ⟨some 80,none,.ext (.t 72) 0,8,[7,6,5,4,3,2,1,0]⟩,⟨some 81,none,.ext (.t 72) 1,9,[7,6,5,4,3,2,1,0]⟩,⟨some 10,none,.mov (.t 80),10,[8,7,6,5,4,3,2,1,0]⟩,⟨some 11,none,
 .mov (.t 81),11,[10,8,9,7,6,5,4,3,2,1,0]⟩]) (.seq (.seq (.reg [⟨some 82,none,.mov (.t 11),0,[]⟩,⟨some 83,none,.un .not (.t 82),0,[]⟩]) (.cond (.t 83)
  (.seq (.reg [⟨some 84,none,.mov (.t 0),0,[]⟩,⟨some 85,none,.nilck (.t 84),0,[]⟩,⟨some 86,none,.faddr 0 (.t 85),0,[]⟩,⟨some 87,none,.load false 1 (.t 86),0,[]⟩,⟨some 88,
 none,.lenM (.t 87),0,[]⟩,⟨some 10,none,.mov (.t 88),0,[]⟩]) (.seq (.dreg [7] [⟨some 89,none,.mov (.t 0),0,[]⟩,⟨some 90,none,.nilck (.t 89),1,[0]⟩,⟨some 91,none,
 .faddr 0 (.t 90),2,[1,0]⟩,⟨some 92,none,.load false 1 (.t 91),3,[2,1,0]⟩,⟨some 93,none,.mov (.t 5),4,[]⟩,⟨some 94,none,.bstr (.t 93),5,[4]⟩,⟨some 95,none,.mov (.t 10),6,
 []⟩,⟨none,none,.mapup (KK.sc true) (.t 92) (.t 94) (.t 95),7,[6,5,4,3,2,1,0]⟩]) (.reg [⟨some 96,none,.mov (.t 0),0,[]⟩,⟨some 97,none,.mov (.t 0),0,[]⟩,⟨some 98,none,
 .nilck (.t 97),0,[]⟩,⟨some 99,none,.faddr 1 (.t 98),0,[]⟩,⟨some 100,none,.load false 1 (.t 99),0,[]⟩,⟨some 101,none,.mov (.t 5),0,[]⟩,⟨some 102,none,.app 1 none (.t 100)
  (.t 101),0,[]⟩,⟨some 103,none,.nilck (.t 96),0,[]⟩,⟨some 104,none,.faddr 1 (.t 103),0,[]⟩,⟨none,none,.store 1 (.t 104) (.t 102),0,[]⟩]))) .skip))
  (.seq (.reg [⟨some 105,none,.mov (.t 10),0,[]⟩,⟨some 4,none,.mov (.t 105),0,[]⟩]) .ret))))))⟩
theorem pf72_is : pfs 72 = some pf72 := by kernel_rfl
def pf73 : PF := ⟨98,[.t 4],.seq (.reg [⟨some 3,none,.box (.t 1),0,[]⟩,⟨some 4,none,.mov (.c (.v (.int .i64 0))),0,[]⟩]) (.seq (.reg [⟨some 11,none,.load true 5 (.t 3),0,[]⟩,⟨some 12,
 none,.call (.c (.fn 37 [])) [.t 11],0,[]⟩,⟨some 5,none,.mov (.t 12),0,[]⟩]) (.seq (.seq (.reg [⟨some 14,none,.mov (.t 0),0,[]⟩,⟨some 15,none,.nilck (.t 14),0,[]⟩,
 ⟨some 16,none,.faddr 1 (.t 15),0,[]⟩,⟨some 17,none,.load false 1 (.t 16),0,[]⟩,⟨some 18,none,.mov (.t 5),0,[]⟩,⟨some 19,none,.look (.v (.int .i64 0)) true (KK.sc true)
  (.t 17) (.t 18),0,[]⟩,⟨some 13,none,.mov (.t 19),0,[]⟩,⟨some 20,none,.ext (.t 13) 0,0,[]⟩,⟨some 21,none,.ext (.t 13) 1,0,[]⟩,⟨some 6,none,.mov (.t 20),0,[]⟩,⟨some 7,
 none,.mov (.t 21),0,[]⟩]) (.seq (.reg [⟨some 22,none,.mov (.t 7),0,[]⟩]) (.cond (.t 22) (.seq (.reg [⟨some 23,none,.mov (.t 6),0,[]⟩,⟨some 4,none,.mov (.t 23),0,[]⟩])
  .ret) .skip))) (.seq (.seq (.reg [⟨some 24,none,.mov (.t 0),0,[]⟩,⟨some 25,none,.nilck (.t 24),0,[]⟩,⟨some 26,none,.faddr 0 (.t 25),0,[]⟩,⟨some 27,none,
 .load false 1 (.t 26),0,[]⟩,⟨some 28,none,.lenS (.t 27),0,[]⟩,⟨some 29,none,.bin .geq (.t 28) (.c (.v (.int .i64 65536))),0,[]⟩]) (.cond (.t 29) (.seq (.reg [⟨some 30,
 none,.mov (.t 0),0,[]⟩,⟨some 31,none,.nilck (.t 30),0,[]⟩,⟨some 32,none,.faddr 3 (.t 31),0,[]⟩,⟨none,none,.store 1 (.t 32) (.c (.v (.bool true))),0,[]⟩])
  (.seq (.reg [⟨some 4,none,.mov (.c (.v (.int .i64 0))),0,[]⟩]) .ret)) .skip)) (.seq (.reg [⟨some 8,none,.mov (.c (.v (.int .i64 0))),0,[]⟩])
  (.seq (.seq (.reg [⟨some 33,none,.faddr 0 (.t 3),0,[]⟩,⟨some 34,none,.load false 1 (.t 33),0,[]⟩,⟨some 35,none,.bin .eql (.t 34) (.c (.v (.int .i64 0))),0,[]⟩])
  (.cond (.t 35) (.reg [⟨some 36,none,.faddr 1 (.t 3),0,[]⟩,⟨some 37,none,.load false 1 (.t 36),0,[]⟩,⟨some 38,none,.bin .add (.t 37) (.c (.v (.int .i64 1))),0,[]⟩,
 ⟨some 8,none,.mov (.t 38),0,[]⟩]) .skip)) (.seq (.seq (.reg [⟨some 39,none,.faddr 4 (.t 3),0,[]⟩,⟨some 40,none,.load false 1 (.t 39),0,[]⟩,⟨some 41,none,.lenS (.t 40),0,
 []⟩,⟨some 42,none,.mov (.c (.v (.int .i64 0))),0,[]⟩]) (.block 0 (.loop (.seq (.reg [⟨some 43,none,.bin .lss (.t 42) (.t 41),0,[]⟩]) (.seq (.cond (.t 43) .skip (.exit 0)
 ) (.seq (.block 1 (.seq (.reg [⟨some 44,none,.mov (.t 42),0,[]⟩,⟨some 45,none,.iaddr 1 (.t 40) (.t 42),0,[]⟩,⟨some 46,none,.load false 1 (.t 45),0,[]⟩,⟨some 9,none,
 .mov (.t 44),0,[]⟩,⟨some 10,none,.mov (.t 46),0,[]⟩]) (.dreg [13,0] [⟨some 47,none,.mov (.t 8),0,[]⟩,⟨some 48,none,.mov (.t 0),1,[]⟩,⟨some 49,none,.nilck (.t 48),2,[1]⟩,
 ⟨some 50,none,.faddr 2 (.t 49),3,[2,1]⟩,⟨some 51,none,.load false 1 (.t 50),4,[3,2,1]⟩,⟨some 52,none,.mov (.t 10),5,[]⟩,⟨some 53,none,.iaddr 1 (.t 51) (.t 52),6,[5,4,3,
 2,1]⟩,⟨some 54,none,.load false 1 (.t 53),7,[6,5,4,3,2,1]⟩,⟨some 55,none,.faddr 0 (.t 3),8,[]⟩,⟨some 56,none,.load false 1 (.t 55),9,[8]⟩,⟨some 57,none,.mov (.t 9),10,[]
 ⟩,⟨some 58,none,.call (.c (.fn 78 [])) [.t 56,.t 57],11,[10,9,8]⟩,⟨some 59,none,.bin .sub (.t 54) (.t 58),12,[11,10,9,8,7,6,5,4,3,2,1]⟩,⟨some 60,none,.max (.t 47)
  (.t 59),13,[12,11,10,9,8,7,6,5,4,3,2,1,0]⟩,⟨some 8,none,.mov (.t 60),14,[13,12,11,10,9,8,7,6,5,4,3,2,1,0]⟩]))) (.reg [⟨some 61,none,.bin .add (.t 42)
  (.c (.v (.int .i64 1))),0,[]⟩,⟨some 42,none,.mov (.t 61),0,[]⟩]))))))) (.seq (.dreg [10] [⟨some 62,none,.mov (.t 0),0,[]⟩,⟨some 63,none,.nilck (.t 62),1,[0]⟩,⟨some 64,
 none,.faddr 1 (.t 63),2,[1,0]⟩,⟨some 65,none,.load false 1 (.t 64),3,[2,1,0]⟩,⟨some 66,none,.mov (.t 5),4,[]⟩,⟨some 67,none,.mov (.t 0),5,[]⟩,⟨some 68,none,
 .nilck (.t 67),6,[5]⟩,⟨some 69,none,.faddr 0 (.t 68),7,[6,5]⟩,⟨some 70,none,.load false 1 (.t 69),8,[7,6,5]⟩,⟨some 71,none,.lenS (.t 70),9,[8,7,6,5]⟩,⟨none,none,
 .mapup (KK.sc true) (.t 65) (.t 66) (.t 71),10,[9,8,7,6,5,4,3,2,1,0]⟩]) (.seq (.dreg [19,0,0] [⟨some 72,none,.mov (.t 0),0,[]⟩,⟨some 73,none,.mov (.t 0),1,[]⟩,⟨some 74,
 none,.mov (.t 0),2,[]⟩,⟨some 75,none,.nilck (.t 74),3,[2]⟩,⟨some 76,none,.faddr 0 (.t 75),4,[3,2]⟩,⟨some 77,none,.load false 1 (.t 76),5,[4,3,2]⟩,⟨some 78,none,
 .load true 5 (.t 3),6,[]⟩,⟨some 79,none,.bsl (.agg [.v (.int .i64 0),.v (.int .i64 0),.v (.string (ByteArray.mk #[])),.sl [] .nil,.sl [] .nil]) 1 [(0,5,.t 78)],7,[6]⟩,
 ⟨some 80,none,.app 5 none (.t 77) (.t 79),8,[7,6,5,4,3,2]⟩,⟨some 81,none,.mov (.t 0),9,[]⟩,⟨some 82,none,.nilck (.t 81),10,[9]⟩,⟨some 83,none,.faddr 2 (.t 82),11,[10,9]⟩
 ,⟨some 84,none,.load false 1 (.t 83),12,[11,10,9]⟩,⟨some 85,none,.mov (.t 8),13,[]⟩,⟨some 86,none,.bsl (.v (.int .i64 0)) 1 [(0,1,.t 85)],14,[13]⟩,⟨some 87,none,
 .app 1 none (.t 84) (.t 86),15,[8,7,6,5,4,3,2,14,13,12,11,10,9]⟩,⟨some 88,none,.nilck (.t 72),16,[15,14,13,12,11,10,9,8,7,6,5,4,3,2,0]⟩,⟨some 89,none,.faddr 0 (.t 88),
 17,[16,15,14,13,12,11,10,9,8,7,6,5,4,3,2,0]⟩,⟨none,none,.store 1 (.t 89) (.t 80),18,[17,16,15,14,13,12,11,10,9,8,7,6,5,4,3,2,0]⟩,⟨some 90,none,.nilck (.t 73),19,[18,17,
 16,15,14,13,12,11,10,9,8,7,6,5,4,3,2,0,1]⟩,⟨some 91,none,.faddr 2 (.t 90),20,[19,18,17,16,15,14,13,12,11,10,9,8,7,6,5,4,3,2,0,1]⟩,⟨none,none,.store 1 (.t 91) (.t 87),21,
 [20,19,18,17,16,15,14,13,12,11,10,9,8,7,6,5,4,3,2,0,1]⟩]) (.seq (.reg [⟨some 92,none,.mov (.t 0),0,[]⟩,⟨some 93,none,.nilck (.t 92),0,[]⟩,⟨some 94,none,.faddr 0 (.t 93),
 0,[]⟩,⟨some 95,none,.load false 1 (.t 94),0,[]⟩,⟨some 96,none,.lenS (.t 95),0,[]⟩,⟨some 97,none,.bin .sub (.t 96) (.c (.v (.int .i64 1))),0,[]⟩,⟨some 4,none,.mov (.t 97)
 ,0,[]⟩]) .ret)))))))))⟩
theorem pf73_is : pfs 73 = some pf73 := by kernel_rfl
def pf78 : PF := ⟨27,[.t 4],.seq (.reg [⟨some 4,none,.mov (.c (.v (.int .i64 0))),0,[]⟩]) (.seq (.block 0 (.seq (.reg [⟨some 6,none,.mov (.t 1),0,[]⟩,⟨some 7,none,.bin .eql (.t 6)
  (.c (.v (.int .i64 1))),0,[]⟩,⟨some 8,none,.mov (.t 7),0,[]⟩,⟨some 9,some (8,true),.mov (.t 0),0,[]⟩,⟨some 10,some (8,true),.bin .eql (.t 9) (.c (.v (.int .i64 5))),0,
 []⟩,⟨some 11,some (8,true),.mov (.t 10),0,[]⟩,⟨some 12,some (11,false),.mov (.t 0),0,[]⟩,⟨some 13,some (11,false),.bin .eql (.t 12) (.c (.v (.int .i64 6))),0,[]⟩,
 ⟨some 14,some (8,true),.pick (.t 11) (.c (.v (.bool true))) (.t 13),0,[]⟩,⟨some 15,some (8,true),.mov (.t 14),0,[]⟩,⟨some 16,some (15,false),.mov (.t 0),0,[]⟩,⟨some 17,
 some (15,false),.bin .eql (.t 16) (.c (.v (.int .i64 7))),0,[]⟩,⟨some 18,some (8,true),.pick (.t 15) (.c (.v (.bool true))) (.t 17),0,[]⟩,⟨some 19,none,.pick (.t 8)
  (.t 18) (.c (.v (.bool false))),0,[]⟩,⟨some 5,none,.mov (.t 19),0,[]⟩]) (.cond (.t 5) (.seq (.reg [⟨some 4,none,.mov (.c (.v (.int .i64 1))),0,[]⟩]) .ret)
  (.seq (.reg [⟨some 21,none,.mov (.t 1),0,[]⟩,⟨some 22,none,.bin .eql (.t 21) (.c (.v (.int .i64 2))),0,[]⟩,⟨some 23,none,.mov (.t 22),0,[]⟩,⟨some 24,some (23,true),
 .mov (.t 0),0,[]⟩,⟨some 25,some (23,true),.bin .eql (.t 24) (.c (.v (.int .i64 11))),0,[]⟩,⟨some 26,none,.pick (.t 23) (.t 25) (.c (.v (.bool false))),0,[]⟩,⟨some 20,
 none,.mov (.t 26),0,[]⟩]) (.cond (.t 20) (.seq (.reg [⟨some 4,none,.mov (.c (.v (.int .i64 1))),0,[]⟩]) .ret) .skip))))) (.seq (.reg [⟨some 4,none,
 .mov (.c (.v (.int .i64 0))),0,[]⟩]) .ret))⟩
theorem pf78_is : pfs 78 = some pf78 := by kernel_rfl
def pf79 : PF := ⟨88,[.t 2],.seq (.reg [⟨some 1,none,.box (.t 0),0,[]⟩,⟨some 2,none,.mov (.c (.v (.bool false))),0,[]⟩]) (.seq (.seq (.dreg [6] [⟨some 5,none,.faddr 0 (.t 1),0,[]⟩,
 ⟨some 6,none,.load false 1 (.t 5),1,[0]⟩,⟨some 7,none,.call (.c (.fn 93 [])) [.t 6],2,[1,0]⟩,⟨some 8,none,.faddr 4 (.t 1),3,[]⟩,⟨some 9,none,.load false 1 (.t 8),4,[3]⟩,
 ⟨some 10,none,.lenS (.t 9),5,[4,3]⟩,⟨some 11,none,.bin .neq (.t 7) (.t 10),6,[5,4,3,2,1,0]⟩]) (.cond (.t 11) (.seq (.reg [⟨some 2,none,.mov (.c (.v (.bool false))),0,[]⟩
 ]) .ret) .skip)) (.seq (.seq (.reg [⟨some 3,none,.mov (.c (.v (.int .i64 0))),0,[]⟩]) (.block 0 (.loop (.seq (.seq (.reg [⟨some 12,none,.mov (.t 3),0,[]⟩,⟨some 13,none,
 .faddr 3 (.t 1),0,[]⟩,⟨some 14,none,.load false 1 (.t 13),0,[]⟩,⟨some 15,none,.lenS (.t 14),0,[]⟩,⟨some 16,none,.bin .lss (.t 12) (.t 15),0,[]⟩]) (.cond (.t 16)
  .skip (.exit 0))) (.seq (.block 1 (.seq (.reg [⟨some 19,none,.faddr 3 (.t 1),0,[]⟩,⟨some 20,none,.load false 1 (.t 19),0,[]⟩,⟨some 21,none,.mov (.t 3),0,[]⟩,⟨some 22,
 none,.iaddr 2 (.t 20) (.t 21),0,[]⟩,⟨some 23,none,.load true 2 (.t 22),0,[]⟩,⟨some 24,none,.call (.c (.fn 94 [])) [.t 23],0,[]⟩,⟨some 25,none,.un .not (.t 24),0,[]⟩])
  (.cond (.t 25) (.seq (.reg [⟨some 2,none,.mov (.c (.v (.bool false))),0,[]⟩]) .ret) .skip))) (.reg [⟨some 17,none,.mov (.t 3),0,[]⟩,⟨some 18,none,.bin .add (.t 17)
  (.c (.v (.int .i64 1))),0,[]⟩,⟨some 3,none,.mov (.t 18),0,[]⟩])))))) (.seq (.reg [⟨some 26,none,.faddr 0 (.t 1),0,[]⟩,⟨some 27,none,.load false 1 (.t 26),0,[]⟩,
 ⟨some 28,none,.bin .eql (.t 27) (.c (.v (.int .i64 0))),0,[]⟩,⟨some 29,none,.mov (.t 28),0,[]⟩,⟨some 30,some (29,false),.faddr 0 (.t 1),0,[]⟩,⟨some 31,some (29,false),
 .load false 1 (.t 30),0,[]⟩,⟨some 32,some (29,false),.bin .eql (.t 31) (.c (.v (.int .i64 12))),0,[]⟩,⟨some 33,none,.pick (.t 29) (.c (.v (.bool true))) (.t 32),0,[]⟩,
 ⟨some 4,none,.mov (.t 33),0,[]⟩]) (.seq (.seq (.reg [⟨some 34,none,.mov (.t 4),0,[]⟩,⟨some 35,none,.mov (.t 34),0,[]⟩,⟨some 36,some (35,true),.faddr 1 (.t 1),0,[]⟩,
 ⟨some 37,some (35,true),.load false 1 (.t 36),0,[]⟩,⟨some 38,some (35,true),.bin .lss (.t 37) (.c (.v (.int .i64 0))),0,[]⟩,⟨some 39,some (35,true),.mov (.t 38),0,[]⟩,
 ⟨some 40,some (39,false),.faddr 1 (.t 1),0,[]⟩,⟨some 41,some (39,false),.load false 1 (.t 40),0,[]⟩,⟨some 42,some (39,false),.bin .gtr (.t 41)
  (.c (.v (.int .i64 2147483647))),0,[]⟩,⟨some 43,some (35,true),.pick (.t 39) (.c (.v (.bool true))) (.t 42),0,[]⟩,⟨some 44,none,.pick (.t 35) (.t 43)
  (.c (.v (.bool false))),0,[]⟩,⟨some 45,none,.mov (.t 44),0,[]⟩,⟨some 46,some (45,false),.mov (.t 4),0,[]⟩,⟨some 47,some (45,false),.un .not (.t 46),0,[]⟩,⟨some 48,
 some (45,false),.mov (.t 47),0,[]⟩,⟨some 49,some (48,true),.faddr 1 (.t 1),0,[]⟩,⟨some 50,some (48,true),.load false 1 (.t 49),0,[]⟩,⟨some 51,some (48,true),
 .bin .neq (.t 50) (.c (.v (.int .i64 0))),0,[]⟩,⟨some 52,some (45,false),.pick (.t 48) (.t 51) (.c (.v (.bool false))),0,[]⟩,⟨some 53,none,.pick (.t 45)
  (.c (.v (.bool true))) (.t 52),0,[]⟩,⟨some 54,none,.mov (.t 53),0,[]⟩,⟨some 55,some (54,false),.faddr 0 (.t 1),0,[]⟩,⟨some 56,some (54,false),.load false 1 (.t 55),0,[]
 ⟩,⟨some 57,some (54,false),.bin .neq (.t 56) (.c (.v (.int .i64 3))),0,[]⟩,⟨some 58,some (54,false),.mov (.t 57),0,[]⟩,⟨some 59,some (58,true),.faddr 2 (.t 1),0,[]⟩,
 ⟨some 60,some (58,true),.load false 1 (.t 59),0,[]⟩,⟨some 61,some (58,true),.bin .neq (.t 60) (.c (.v (.string (ByteArray.mk #[])))),0,[]⟩,⟨some 62,some (54,false),
 .pick (.t 58) (.t 61) (.c (.v (.bool false))),0,[]⟩,⟨some 63,none,.pick (.t 54) (.c (.v (.bool true))) (.t 62),0,[]⟩,⟨some 64,none,.mov (.t 63),0,[]⟩,⟨some 65,some (64,
 false),.faddr 2 (.t 1),0,[]⟩,⟨some 66,some (64,false),.load false 1 (.t 65),0,[]⟩,⟨some 67,some (64,false),.lenT (.t 66),0,[]⟩,⟨some 68,some (64,false),.bin .gtr (.t 67)
  (.c (.v (.int .i64 65536))),0,[]⟩,⟨some 69,none,.pick (.t 64) (.c (.v (.bool true))) (.t 68),0,[]⟩]) (.cond (.t 69) (.seq (.reg [⟨some 2,none,.mov (.c (.v (.bool false)
 )),0,[]⟩]) .ret) .skip)) (.seq (.seq (.reg [⟨some 70,none,.faddr 0 (.t 1),0,[]⟩,⟨some 71,none,.load false 1 (.t 70),0,[]⟩]) (.block 2 (.seq (.reg [⟨some 73,none,
 .bin .eql (.t 71) (.c (.v (.int .i64 2))),0,[]⟩,⟨some 72,none,.mov (.t 73),0,[]⟩]) (.cond (.t 72) (.seq (.reg [⟨some 74,none,.faddr 3 (.t 1),0,[]⟩,⟨some 75,none,
 .load false 1 (.t 74),0,[]⟩,⟨some 76,none,.lenS (.t 75),0,[]⟩,⟨some 77,none,.bin .eql (.t 76) (.c (.v (.int .i64 1))),0,[]⟩,⟨some 2,none,.mov (.t 77),0,[]⟩]) .ret)
  (.seq (.reg [⟨some 79,none,.bin .eql (.t 71) (.c (.v (.int .i64 3))),0,[]⟩,⟨some 78,none,.mov (.t 79),0,[]⟩]) (.cond (.t 78) (.seq (.reg [⟨some 80,none,.faddr 3 (.t 1),
 0,[]⟩,⟨some 81,none,.load false 1 (.t 80),0,[]⟩,⟨some 82,none,.lenS (.t 81),0,[]⟩,⟨some 83,none,.bin .leq (.t 82) (.c (.v (.int .i64 8))),0,[]⟩,⟨some 2,none,.mov (.t 83)
 ,0,[]⟩]) .ret) .skip)))))) (.seq (.reg [⟨some 84,none,.faddr 3 (.t 1),0,[]⟩,⟨some 85,none,.load false 1 (.t 84),0,[]⟩,⟨some 86,none,.lenS (.t 85),0,[]⟩,⟨some 87,none,
 .bin .eql (.t 86) (.c (.v (.int .i64 0))),0,[]⟩,⟨some 2,none,.mov (.t 87),0,[]⟩]) .ret))))))⟩
theorem pf79_is : pfs 79 = some pf79 := by kernel_rfl
def pf80 : PF := ⟨38,[.t 4],.seq (.reg [⟨some 2,none,.box (.t 0),0,[]⟩,⟨some 3,none,.box (.t 1),0,[]⟩,⟨some 4,none,.mov (.c (.v (.bool false))),0,[]⟩]) (.seq (.seq (.reg [⟨some 6,none,
 .faddr 0 (.t 2),0,[]⟩,⟨some 7,none,.load false 1 (.t 6),0,[]⟩,⟨some 8,none,.faddr 0 (.t 3),0,[]⟩,⟨some 9,none,.load false 1 (.t 8),0,[]⟩,⟨some 10,none,.bin .neq (.t 7)
  (.t 9),0,[]⟩,⟨some 11,none,.mov (.t 10),0,[]⟩,⟨some 12,some (11,false),.faddr 1 (.t 2),0,[]⟩,⟨some 13,some (11,false),.load false 1 (.t 12),0,[]⟩,⟨some 14,some (11,
 false),.lenS (.t 13),0,[]⟩,⟨some 15,some (11,false),.faddr 1 (.t 3),0,[]⟩,⟨some 16,some (11,false),.load false 1 (.t 15),0,[]⟩,⟨some 17,some (11,false),.lenS (.t 16),0,
 []⟩,⟨some 18,some (11,false),.bin .neq (.t 14) (.t 17),0,[]⟩,⟨some 19,none,.pick (.t 11) (.c (.v (.bool true))) (.t 18),0,[]⟩]) (.cond (.t 19) (.seq (.reg [⟨some 4,none,
 .mov (.c (.v (.bool false))),0,[]⟩]) .ret) .skip)) (.seq (.seq (.reg [⟨some 5,none,.mov (.c (.v (.int .i64 0))),0,[]⟩]) (.block 0 (.loop (.seq (.seq (.reg [⟨some 20,
 none,.mov (.t 5),0,[]⟩,⟨some 21,none,.faddr 1 (.t 2),0,[]⟩,⟨some 22,none,.load false 1 (.t 21),0,[]⟩,⟨some 23,none,.lenS (.t 22),0,[]⟩,⟨some 24,none,.bin .lss (.t 20)
  (.t 23),0,[]⟩]) (.cond (.t 24) .skip (.exit 0))) (.seq (.block 1 (.seq (.dreg [10] [⟨some 27,none,.faddr 1 (.t 2),0,[]⟩,⟨some 28,none,.load false 1 (.t 27),1,[0]⟩,
 ⟨some 29,none,.mov (.t 5),2,[]⟩,⟨some 30,none,.iaddr 2 (.t 28) (.t 29),3,[2,1,0]⟩,⟨some 31,none,.load true 2 (.t 30),4,[3,2,1,0]⟩,⟨some 32,none,.faddr 1 (.t 3),5,[]⟩,
 ⟨some 33,none,.load false 1 (.t 32),6,[5]⟩,⟨some 34,none,.mov (.t 5),7,[]⟩,⟨some 35,none,.iaddr 2 (.t 33) (.t 34),8,[7,6,5]⟩,⟨some 36,none,.load true 2 (.t 35),9,[8,7,6,
 5]⟩,⟨some 37,none,.eqg true [false,false] (.t 31) (.t 36),10,[9,8,7,6,5,4,3,2,1,0]⟩]) (.cond (.t 37) (.seq (.reg [⟨some 4,none,.mov (.c (.v (.bool false))),0,[]⟩]) .ret)
  .skip))) (.reg [⟨some 25,none,.mov (.t 5),0,[]⟩,⟨some 26,none,.bin .add (.t 25) (.c (.v (.int .i64 1))),0,[]⟩,⟨some 5,none,.mov (.t 26),0,[]⟩]))))))
  (.seq (.reg [⟨some 4,none,.mov (.c (.v (.bool true))),0,[]⟩]) .ret)))⟩
theorem pf80_is : pfs 80 = some pf80 := by kernel_rfl
def pf82 : PF := ⟨19,[.t 4],.seq (.reg [⟨some 4,none,.mov (.c (.v (.int .i64 0))),0,[]⟩]) (.seq (.seq (.reg [⟨some 6,none,.mov (.t 0),0,[]⟩,⟨some 7,none,.lenS (.t 6),0,[]⟩,⟨some 8,none,
 .mov (.c (.v (.int .i64 0))),0,[]⟩]) (.block 0 (.loop (.seq (.reg [⟨some 9,none,.bin .lss (.t 8) (.t 7),0,[]⟩]) (.seq (.cond (.t 9) .skip (.exit 0))
  (.seq (.block 1 (.seq (.reg [⟨some 10,none,.mov (.t 8),0,[]⟩,⟨some 5,none,.mov (.t 10),0,[]⟩]) (.seq (.reg [⟨some 11,none,.mov (.t 1),0,[]⟩,⟨some 12,none,.mov (.t 0),0,
 []⟩,⟨some 13,none,.mov (.t 5),0,[]⟩,⟨some 14,none,.iaddr 2 (.t 12) (.t 13),0,[]⟩,⟨some 15,none,.load true 2 (.t 14),0,[]⟩,⟨some 16,none,.call (.t 11) [.t 15],0,[]⟩])
  (.cond (.t 16) (.seq (.reg [⟨some 17,none,.mov (.t 5),0,[]⟩,⟨some 4,none,.mov (.t 17),0,[]⟩]) .ret) .skip)))) (.reg [⟨some 18,none,.bin .add (.t 8)
  (.c (.v (.int .i64 1))),0,[]⟩,⟨some 8,none,.mov (.t 18),0,[]⟩]))))))) (.seq (.reg [⟨some 4,none,.mov (.c (.v (.int .i64 (-1)))),0,[]⟩]) .ret))⟩
theorem pf82_is : pfs 82 = some pf82 := by kernel_rfl
def pf83 : PF := ⟨7,[.t 2],.seq (.reg [⟨some 1,none,.box (.t 0),0,[]⟩,⟨some 2,none,.mov (.c (.v (.bool false))),0,[]⟩]) (.seq (.reg [⟨some 3,none,.faddr 1 (.t 1),0,[]⟩,⟨some 4,none,
 .load false 1 (.t 3),0,[]⟩,⟨some 5,none,.mkfn 97 [.t 1],0,[]⟩,⟨some 6,none,.call (.c (.fn 96 [])) [.t 4,.t 5],0,[]⟩,⟨some 2,none,.mov (.t 6),0,[]⟩]) .ret)⟩
theorem pf83_is : pfs 83 = some pf83 := by kernel_rfl
def pf84 : PF := ⟨21,[.t 6],.seq (.reg [⟨some 6,none,.mov (.c (.sl [] .nil)),0,[]⟩]) (.seq (.reg [⟨some 8,none,.mov (.t 1),0,[]⟩,⟨some 9,none,.conv .u64 (.t 8),0,[]⟩,⟨some 7,none,
 .mov (.t 9),0,[]⟩]) (.seq (.seq (.reg [⟨some 10,none,.mov (.t 1),0,[]⟩,⟨some 11,none,.bin .lss (.t 10) (.c (.v (.int .i64 0))),0,[]⟩]) (.cond (.t 11)
  (.seq (.reg [⟨some 12,none,.mov (.t 0),0,[]⟩,⟨some 13,none,.bsl (.v (.int .u8 0)) 1 [(0,1,.c (.v (.int .u8 45)))],0,[]⟩,⟨some 14,none,.app 1 none (.t 12) (.t 13),0,[]⟩,
 ⟨some 0,none,.mov (.t 14),0,[]⟩]) (.reg [⟨some 15,none,.mov (.t 7),0,[]⟩,⟨some 16,none,.un .neg (.t 15),0,[]⟩,⟨some 7,none,.mov (.t 16),0,[]⟩])) .skip))
  (.seq (.reg [⟨some 17,none,.mov (.t 0),0,[]⟩,⟨some 18,none,.mov (.t 7),0,[]⟩,⟨some 19,none,.mov (.t 2),0,[]⟩,⟨some 20,none,.call (.c (.fn 98 [])) [.t 17,.t 18,.t 19],0,
 []⟩,⟨some 6,none,.mov (.t 20),0,[]⟩]) .ret)))⟩
theorem pf84_is : pfs 84 = some pf84 := by kernel_rfl
def pf85 : PF := ⟨48,[.t 6,.t 7],.seq (.reg [⟨some 3,none,.box (.t 0),0,[]⟩,⟨some 6,none,.mov (.c (.v (.int .i64 0))),0,[]⟩,⟨some 7,none,.mov (.c (.v (.int .i64 0))),0,[]⟩])
  (.seq (.reg [⟨some 8,none,.mov (.c (.v (.int .i64 1))),0,[]⟩,⟨some 9,none,.mov (.c (.v (.int .i64 0))),0,[]⟩]) (.seq (.seq (.reg [⟨some 14,none,.faddr 4 (.t 3),0,[]⟩,
 ⟨some 15,none,.load false 1 (.t 14),0,[]⟩,⟨some 16,none,.lenS (.t 15),0,[]⟩,⟨some 17,none,.mov (.c (.v (.int .i64 0))),0,[]⟩]) (.block 0 (.loop (.seq (.reg [⟨some 18,
 none,.bin .lss (.t 17) (.t 16),0,[]⟩]) (.seq (.cond (.t 18) .skip (.exit 0)) (.seq (.block 1 (.seq (.reg [⟨some 19,none,.iaddr 5 (.t 15) (.t 17),0,[]⟩,⟨some 20,none,
 .load true 5 (.t 19),0,[]⟩,⟨some 11,none,.alloc [.v (.int .i64 0),.v (.int .i64 0),.v (.string (ByteArray.mk #[])),.sl [] .nil,.sl [] .nil],0,[]⟩,⟨none,none,
 .store 5 (.t 11) (.t 20),0,[]⟩]) (.seq (.seq (.reg [⟨some 21,none,.mov (.t 8),0,[]⟩,⟨some 22,none,.mov (.t 1),0,[]⟩,⟨some 23,none,.bin .gtr (.t 21) (.t 22),0,[]⟩,
 ⟨some 24,none,.mov (.t 23),0,[]⟩,⟨some 25,some (24,false),.mov (.t 2),0,[]⟩,⟨some 26,some (24,false),.bin .lss (.t 25) (.c (.v (.int .i64 0))),0,[]⟩,⟨some 27,none,
 .pick (.t 24) (.c (.v (.bool true))) (.t 26),0,[]⟩]) (.cond (.t 27) (.exit 0) .skip)) (.seq (.reg [⟨some 29,none,.load true 5 (.t 11),0,[]⟩,⟨some 30,none,.mov (.t 1),0,
 []⟩,⟨some 31,none,.mov (.t 8),0,[]⟩,⟨some 32,none,.bin .sub (.t 30) (.t 31),0,[]⟩,⟨some 33,none,.mov (.t 2),0,[]⟩,⟨some 34,none,.bin .sub (.t 33) (.c (.v (.int .i64 1)))
 ,0,[]⟩,⟨some 35,none,.call (.c (.fn 85 [])) [.t 29,.t 32,.t 34],0,[]⟩,⟨some 28,none,.mov (.t 35),0,[]⟩,⟨some 36,none,.ext (.t 28) 0,0,[]⟩,⟨some 37,none,.ext (.t 28) 1,0,
 []⟩,⟨some 12,none,.mov (.t 36),0,[]⟩,⟨some 13,none,.mov (.t 37),0,[]⟩]) (.seq (.reg [⟨some 38,none,.mov (.t 8),0,[]⟩,⟨some 39,none,.mov (.t 12),0,[]⟩,⟨some 40,none,
 .bin .add (.t 38) (.t 39),0,[]⟩,⟨some 8,none,.mov (.t 40),0,[]⟩]) (.reg [⟨some 41,none,.mov (.t 9),0,[]⟩,⟨some 42,none,.mov (.t 13),0,[]⟩,⟨some 43,none,.max (.t 41)
  (.t 42),0,[]⟩,⟨some 9,none,.mov (.t 43),0,[]⟩])))))) (.reg [⟨some 44,none,.bin .add (.t 17) (.c (.v (.int .i64 1))),0,[]⟩,⟨some 17,none,.mov (.t 44),0,[]⟩])))))))
  (.seq (.reg [⟨some 45,none,.mov (.t 8),0,[]⟩,⟨some 46,none,.mov (.t 9),0,[]⟩,⟨some 47,none,.bin .add (.t 46) (.c (.v (.int .i64 1))),0,[]⟩,⟨some 6,none,.mov (.t 45),0,
 []⟩,⟨some 7,none,.mov (.t 47),0,[]⟩]) .ret)))⟩
theorem pf85_is : pfs 85 = some pf85 := by kernel_rfl
def pf86 : PF := ⟨19,[.t 2],.seq (.reg [⟨some 1,none,.box (.t 0),0,[]⟩,⟨some 2,none,.mov (.c (.v (.bool false))),0,[]⟩]) (.seq (.seq (.reg [⟨some 5,none,.load true 5 (.t 1),0,[]⟩,
 ⟨some 6,none,.call (.c (.fn 99 [])) [.t 5],0,[]⟩,⟨some 7,none,.un .not (.t 6),0,[]⟩]) (.cond (.t 7) (.seq (.reg [⟨some 2,none,.mov (.c (.v (.bool false))),0,[]⟩]) .ret)
  .skip)) (.seq (.seq (.reg [⟨some 8,none,.faddr 4 (.t 1),0,[]⟩,⟨some 9,none,.load false 1 (.t 8),0,[]⟩,⟨some 10,none,.lenS (.t 9),0,[]⟩,⟨some 11,none,
 .mov (.c (.v (.int .i64 0))),0,[]⟩]) (.block 0 (.loop (.seq (.reg [⟨some 12,none,.bin .lss (.t 11) (.t 10),0,[]⟩]) (.seq (.cond (.t 12) .skip (.exit 0))
  (.seq (.block 1 (.seq (.reg [⟨some 13,none,.iaddr 5 (.t 9) (.t 11),0,[]⟩,⟨some 14,none,.load true 5 (.t 13),0,[]⟩,⟨some 4,none,.alloc [.v (.int .i64 0),.v (.int .i64 0)
 ,.v (.string (ByteArray.mk #[])),.sl [] .nil,.sl [] .nil],0,[]⟩,⟨none,none,.store 5 (.t 4) (.t 14),0,[]⟩]) (.seq (.reg [⟨some 15,none,.load true 5 (.t 4),0,[]⟩,⟨some 16,
 none,.call (.c (.fn 86 [])) [.t 15],0,[]⟩,⟨some 17,none,.un .not (.t 16),0,[]⟩]) (.cond (.t 17) (.seq (.reg [⟨some 2,none,.mov (.c (.v (.bool false))),0,[]⟩]) .ret)
  .skip)))) (.reg [⟨some 18,none,.bin .add (.t 11) (.c (.v (.int .i64 1))),0,[]⟩,⟨some 11,none,.mov (.t 18),0,[]⟩]))))))) (.seq (.reg [⟨some 2,none,
 .mov (.c (.v (.bool true))),0,[]⟩]) .ret)))⟩
theorem pf86_is : pfs 86 = some pf86 := by kernel_rfl
def pf87 : PF := ⟨34,[.t 4],.seq (.reg [⟨some 3,none,.box (.t 1),0,[]⟩,⟨some 4,none,.mov (.c (.sl [] .nil)),0,[]⟩]) (.seq (.reg [⟨some 7,none,.mov (.t 0),0,[]⟩,⟨some 8,none,
 .faddr 0 (.t 3),0,[]⟩,⟨some 9,none,.load false 1 (.t 8),0,[]⟩,⟨some 10,none,.call (.c (.fn 71 [])) [.t 7,.t 9],0,[]⟩,⟨some 0,none,.mov (.t 10),0,[]⟩])
  (.seq (.reg [⟨some 11,none,.mov (.t 0),0,[]⟩,⟨some 12,none,.faddr 1 (.t 3),0,[]⟩,⟨some 13,none,.load false 1 (.t 12),0,[]⟩,⟨some 14,none,.lenS (.t 13),0,[]⟩,⟨some 15,
 none,.call (.c (.fn 71 [])) [.t 11,.t 14],0,[]⟩,⟨some 0,none,.mov (.t 15),0,[]⟩]) (.seq (.seq (.reg [⟨some 16,none,.faddr 1 (.t 3),0,[]⟩,⟨some 17,none,
 .load false 1 (.t 16),0,[]⟩,⟨some 18,none,.lenS (.t 17),0,[]⟩,⟨some 19,none,.mov (.c (.v (.int .i64 0))),0,[]⟩]) (.block 0 (.loop (.seq (.reg [⟨some 20,none,
 .bin .lss (.t 19) (.t 18),0,[]⟩]) (.seq (.cond (.t 20) .skip (.exit 0)) (.seq (.block 1 (.seq (.reg [⟨some 21,none,.iaddr 2 (.t 17) (.t 19),0,[]⟩,⟨some 22,none,
 .load true 2 (.t 21),0,[]⟩,⟨some 6,none,.alloc [.v (.int .i64 0),.v (.int .i64 0)],0,[]⟩,⟨none,none,.store 2 (.t 6) (.t 22),0,[]⟩]) (.seq (.reg [⟨some 23,none,
 .mov (.t 0),0,[]⟩,⟨some 24,none,.faddr 0 (.t 6),0,[]⟩,⟨some 25,none,.load false 1 (.t 24),0,[]⟩,⟨some 26,none,.bin .add (.t 25) (.c (.v (.int .i64 65536))),0,[]⟩,
 ⟨some 27,none,.call (.c (.fn 71 [])) [.t 23,.t 26],0,[]⟩,⟨some 0,none,.mov (.t 27),0,[]⟩]) (.reg [⟨some 28,none,.mov (.t 0),0,[]⟩,⟨some 29,none,.faddr 1 (.t 6),0,[]⟩,
 ⟨some 30,none,.load false 1 (.t 29),0,[]⟩,⟨some 31,none,.call (.c (.fn 71 [])) [.t 28,.t 30],0,[]⟩,⟨some 0,none,.mov (.t 31),0,[]⟩])))) (.reg [⟨some 32,none,
 .bin .add (.t 19) (.c (.v (.int .i64 1))),0,[]⟩,⟨some 19,none,.mov (.t 32),0,[]⟩]))))))) (.seq (.reg [⟨some 33,none,.mov (.t 0),0,[]⟩,⟨some 4,none,.mov (.t 33),0,[]⟩])
  .ret))))⟩
theorem pf87_is : pfs 87 = some pf87 := by kernel_rfl
def pf93 : PF := ⟨21,[.t 2],.seq (.reg [⟨some 2,none,.mov (.c (.v (.int .i64 0))),0,[]⟩]) (.seq (.seq (.reg [⟨some 3,none,.mov (.t 0),0,[]⟩]) (.block 0 (.seq (.seq (.reg [⟨some 5,none,
 .bin .eql (.t 3) (.c (.v (.int .i64 0))),0,[]⟩,⟨some 4,none,.mov (.t 5),0,[]⟩]) (.cond (.t 4) .skip (.seq (.reg [⟨some 6,none,.bin .eql (.t 3) (.c (.v (.int .i64 1))),0,
 []⟩,⟨some 4,none,.mov (.t 6),0,[]⟩]) (.cond (.t 4) .skip (.seq (.reg [⟨some 7,none,.bin .eql (.t 3) (.c (.v (.int .i64 2))),0,[]⟩,⟨some 4,none,.mov (.t 7),0,[]⟩])
  (.cond (.t 4) .skip (.seq (.reg [⟨some 8,none,.bin .eql (.t 3) (.c (.v (.int .i64 3))),0,[]⟩,⟨some 4,none,.mov (.t 8),0,[]⟩]) (.cond (.t 4) .skip (.reg [⟨some 9,none,
 .bin .eql (.t 3) (.c (.v (.int .i64 12))),0,[]⟩,⟨some 4,none,.mov (.t 9),0,[]⟩]))))))))) (.cond (.t 4) (.seq (.reg [⟨some 2,none,.mov (.c (.v (.int .i64 0))),0,[]⟩])
  .ret) (.seq (.seq (.reg [⟨some 11,none,.bin .eql (.t 3) (.c (.v (.int .i64 4))),0,[]⟩,⟨some 10,none,.mov (.t 11),0,[]⟩]) (.cond (.t 10) .skip (.seq (.reg [⟨some 12,
 none,.bin .eql (.t 3) (.c (.v (.int .i64 5))),0,[]⟩,⟨some 10,none,.mov (.t 12),0,[]⟩]) (.cond (.t 10) .skip (.seq (.reg [⟨some 13,none,.bin .eql (.t 3)
  (.c (.v (.int .i64 6))),0,[]⟩,⟨some 10,none,.mov (.t 13),0,[]⟩]) (.cond (.t 10) .skip (.reg [⟨some 14,none,.bin .eql (.t 3) (.c (.v (.int .i64 7))),0,[]⟩,⟨some 10,none,
 .mov (.t 14),0,[]⟩]))))))) (.cond (.t 10) (.seq (.reg [⟨some 2,none,.mov (.c (.v (.int .i64 2))),0,[]⟩]) .ret) (.seq (.seq (.reg [⟨some 16,none,.bin .eql (.t 3)
  (.c (.v (.int .i64 8))),0,[]⟩,⟨some 15,none,.mov (.t 16),0,[]⟩]) (.cond (.t 15) .skip (.reg [⟨some 17,none,.bin .eql (.t 3) (.c (.v (.int .i64 11))),0,[]⟩,⟨some 15,
 none,.mov (.t 17),0,[]⟩]))) (.cond (.t 15) (.seq (.reg [⟨some 2,none,.mov (.c (.v (.int .i64 3))),0,[]⟩]) .ret) (.seq (.seq (.reg [⟨some 19,none,.bin .eql (.t 3)
  (.c (.v (.int .i64 9))),0,[]⟩,⟨some 18,none,.mov (.t 19),0,[]⟩]) (.cond (.t 18) .skip (.reg [⟨some 20,none,.bin .eql (.t 3) (.c (.v (.int .i64 10))),0,[]⟩,⟨some 18,
 none,.mov (.t 20),0,[]⟩]))) (.cond (.t 18) (.seq (.reg [⟨some 2,none,.mov (.c (.v (.int .i64 1))),0,[]⟩]) .ret) .skip)))))))))) (.seq (.reg [⟨some 2,none,
 .mov (.c (.v (.int .i64 (-1)))),0,[]⟩]) .ret))⟩
theorem pf93_is : pfs 93 = some pf93 := by kernel_rfl
def pf94 : PF := ⟨67,[.t 2],.seq (.reg [⟨some 1,none,.box (.t 0),0,[]⟩,⟨some 2,none,.mov (.c (.v (.bool false))),0,[]⟩]) (.seq (.seq (.reg [⟨some 5,none,.faddr 0 (.t 1),0,[]⟩,⟨some 6,
 none,.load false 1 (.t 5),0,[]⟩,⟨some 7,none,.bin .lss (.t 6) (.c (.v (.int .i64 0))),0,[]⟩,⟨some 8,none,.mov (.t 7),0,[]⟩,⟨some 9,some (8,false),.faddr 0 (.t 1),0,[]⟩,
 ⟨some 10,some (8,false),.load false 1 (.t 9),0,[]⟩,⟨some 11,some (8,false),.bin .gtr (.t 10) (.c (.v (.int .i64 100))),0,[]⟩,⟨some 12,none,.pick (.t 8)
  (.c (.v (.bool true))) (.t 11),0,[]⟩]) (.cond (.t 12) (.seq (.reg [⟨some 2,none,.mov (.c (.v (.bool false))),0,[]⟩]) .ret) .skip)) (.seq (.seq (.reg [⟨some 3,none,
 .mov (.c (.v (.int .i64 0))),0,[]⟩]) (.block 0 (.loop (.seq (.seq (.reg [⟨some 13,none,.mov (.t 3),0,[]⟩,⟨some 14,none,.faddr 1 (.t 1),0,[]⟩,⟨some 15,none,
 .load false 1 (.t 14),0,[]⟩,⟨some 16,none,.lenS (.t 15),0,[]⟩,⟨some 17,none,.bin .lss (.t 13) (.t 16),0,[]⟩]) (.cond (.t 17) .skip (.exit 0)))
  (.seq (.block 1 (.seq (.reg [⟨some 20,none,.faddr 1 (.t 1),0,[]⟩,⟨some 21,none,.load false 1 (.t 20),0,[]⟩,⟨some 22,none,.mov (.t 3),0,[]⟩,⟨some 23,none,
 .iaddr 2 (.t 21) (.t 22),0,[]⟩,⟨some 24,none,.load true 2 (.t 23),0,[]⟩,⟨some 4,none,.alloc [.v (.int .i64 0),.v (.int .i64 0)],0,[]⟩,⟨none,none,.store 2 (.t 4) (.t 24),
 0,[]⟩]) (.seq (.seq (.reg [⟨some 25,none,.faddr 0 (.t 4),0,[]⟩,⟨some 26,none,.load false 1 (.t 25),0,[]⟩,⟨some 27,none,.bin .lss (.t 26) (.c (.v (.int .i64 (-65536)))),
 0,[]⟩,⟨some 28,none,.mov (.t 27),0,[]⟩,⟨some 29,some (28,false),.faddr 0 (.t 4),0,[]⟩,⟨some 30,some (28,false),.load false 1 (.t 29),0,[]⟩,⟨some 31,some (28,false),
 .bin .geq (.t 30) (.c (.v (.int .i64 8))),0,[]⟩,⟨some 32,none,.pick (.t 28) (.c (.v (.bool true))) (.t 31),0,[]⟩,⟨some 33,none,.mov (.t 32),0,[]⟩,⟨some 34,some (33,
 false),.faddr 1 (.t 4),0,[]⟩,⟨some 35,some (33,false),.load false 1 (.t 34),0,[]⟩,⟨some 36,some (33,false),.bin .lss (.t 35) (.c (.v (.int .i64 0))),0,[]⟩,⟨some 37,none,
 .pick (.t 33) (.c (.v (.bool true))) (.t 36),0,[]⟩,⟨some 38,none,.mov (.t 37),0,[]⟩,⟨some 39,some (38,false),.faddr 1 (.t 4),0,[]⟩,⟨some 40,some (38,false),
 .load false 1 (.t 39),0,[]⟩,⟨some 41,some (38,false),.bin .gtr (.t 40) (.c (.v (.int .i64 100))),0,[]⟩,⟨some 42,none,.pick (.t 38) (.c (.v (.bool true))) (.t 41),0,[]⟩])
  (.cond (.t 42) (.seq (.reg [⟨some 2,none,.mov (.c (.v (.bool false))),0,[]⟩]) .ret) .skip)) (.seq (.seq (.dreg [0,0,0,9,0] [⟨some 43,none,.mov (.t 3),0,[]⟩,⟨some 44,
 none,.bin .gtr (.t 43) (.c (.v (.int .i64 0))),1,[0]⟩,⟨some 45,none,.mov (.t 44),2,[1,0]⟩,⟨some 46,some (45,true),.faddr 1 (.t 1),3,[2,1,0]⟩,⟨some 47,some (45,true),
 .load false 1 (.t 46),4,[3,2,1,0]⟩,⟨some 48,some (45,true),.mov (.t 3),5,[2,1,0]⟩,⟨some 49,some (45,true),.bin .sub (.t 48) (.c (.v (.int .i64 1))),6,[5,2,1,0]⟩,
 ⟨some 50,some (45,true),.iaddr 2 (.t 47) (.t 49),7,[6,5,4,3,2,1,0]⟩,⟨some 51,some (45,true),.faddr 0 (.t 50),8,[7,6,5,4,3,2,1,0]⟩,⟨some 52,some (45,true),
 .load false 1 (.t 51),9,[8,7,6,5,4,3,2,1,0]⟩,⟨some 53,some (45,true),.faddr 0 (.t 4),10,[2,1,0]⟩,⟨some 54,some (45,true),.load false 1 (.t 53),11,[10,2,1,0]⟩,⟨some 55,
 some (45,true),.bin .geq (.t 52) (.t 54),12,[11,10,9,8,7,6,5,4,3,2,1,0]⟩,⟨some 56,none,.pick (.t 45) (.t 55) (.c (.v (.bool false))),13,[12,11,10,9,8,7,6,5,4,3,2,1,0]⟩])
  (.cond (.t 56) (.seq (.reg [⟨some 2,none,.mov (.c (.v (.bool false))),0,[]⟩]) .ret) .skip)) (.seq (.reg [⟨some 57,none,.faddr 0 (.t 1),0,[]⟩,⟨some 58,none,
 .load false 1 (.t 57),0,[]⟩,⟨some 59,none,.bin .gtr (.t 58) (.c (.v (.int .i64 0))),0,[]⟩,⟨some 60,none,.mov (.t 59),0,[]⟩,⟨some 61,some (60,true),.faddr 1 (.t 4),0,[]⟩,
 ⟨some 62,some (60,true),.load false 1 (.t 61),0,[]⟩,⟨some 63,some (60,true),.faddr 0 (.t 1),0,[]⟩,⟨some 64,some (60,true),.load false 1 (.t 63),0,[]⟩,⟨some 65,some (60,
 true),.bin .geq (.t 62) (.t 64),0,[]⟩,⟨some 66,none,.pick (.t 60) (.t 65) (.c (.v (.bool false))),0,[]⟩]) (.cond (.t 66) (.seq (.reg [⟨some 2,none,
 .mov (.c (.v (.bool false))),0,[]⟩]) .ret) .skip)))))) (.reg [⟨some 18,none,.mov (.t 3),0,[]⟩,⟨some 19,none,.bin .add (.t 18) (.c (.v (.int .i64 1))),0,[]⟩,⟨some 3,none,
 .mov (.t 19),0,[]⟩])))))) (.seq (.reg [⟨some 2,none,.mov (.c (.v (.bool true))),0,[]⟩]) .ret)))⟩
theorem pf94_is : pfs 94 = some pf94 := by kernel_rfl
def pf96 : PF := ⟨9,[.t 4],.seq (.reg [⟨some 4,none,.mov (.c (.v (.bool false))),0,[]⟩]) (.seq (.reg [⟨some 5,none,.mov (.t 0),0,[]⟩,⟨some 6,none,.mov (.t 1),0,[]⟩,⟨some 7,none,
 .call (.c (.fn 101 [])) [.t 5,.t 6],0,[]⟩,⟨some 8,none,.bin .geq (.t 7) (.c (.v (.int .i64 0))),0,[]⟩,⟨some 4,none,.mov (.t 8),0,[]⟩]) .ret)⟩
theorem pf96_is : pfs 96 = some pf96 := by kernel_rfl
def pf97 : PF := ⟨9,[.t 3],.seq (.reg [⟨some 2,none,.box (.t 0),0,[]⟩,⟨some 3,none,.mov (.c (.v (.bool false))),0,[]⟩]) (.seq (.reg [⟨some 4,none,.faddr 1 (.t 2),0,[]⟩,⟨some 5,none,
 .load false 1 (.t 4),0,[]⟩,⟨some 6,none,.faddr 0 (.t 1),0,[]⟩,⟨some 7,none,.load false 1 (.t 6),0,[]⟩,⟨some 8,none,.bin .geq (.t 5) (.t 7),0,[]⟩,⟨some 3,none,.mov (.t 8)
 ,0,[]⟩]) .ret)⟩
theorem pf97_is : pfs 97 = some pf97 := by kernel_rfl
def pf98 : PF := ⟨36,[.t 6],.seq (.reg [⟨some 6,none,.mov (.c (.sl [] .nil)),0,[]⟩]) (.seq (.seq (.reg [⟨some 9,none,.mov (.t 2),0,[]⟩,⟨some 10,none,.bin .eql (.t 9)
  (.c (.v (.int .i64 10))),0,[]⟩]) (.cond (.t 10) (.seq (.seq (.reg [⟨some 11,none,.mov (.t 1),0,[]⟩,⟨some 12,none,.bin .lss (.t 11) (.c (.v (.int .u64 100))),0,[]⟩])
  (.cond (.t 12) (.seq (.reg [⟨some 13,none,.mov (.t 0),0,[]⟩,⟨some 14,none,.mov (.t 1),0,[]⟩,⟨some 15,none,.conv .i64 (.t 14),0,[]⟩,⟨some 16,none,.call (.c (.fn 102 []))
  [.t 15],0,[]⟩,⟨some 17,none,.app 1 none (.t 13) (.t 16),0,[]⟩,⟨some 6,none,.mov (.t 17),0,[]⟩]) .ret) .skip)) (.seq (.reg [⟨some 7,none,.alloc [.v (.int .u8 0),
 .v (.int .u8 0),.v (.int .u8 0),.v (.int .u8 0),.v (.int .u8 0),.v (.int .u8 0),.v (.int .u8 0),.v (.int .u8 0),.v (.int .u8 0),.v (.int .u8 0),.v (.int .u8 0),
 .v (.int .u8 0),.v (.int .u8 0),.v (.int .u8 0),.v (.int .u8 0),.v (.int .u8 0),.v (.int .u8 0),.v (.int .u8 0),.v (.int .u8 0),.v (.int .u8 0),.v (.int .u8 0),
 .v (.int .u8 0),.v (.int .u8 0),.v (.int .u8 0)],0,[]⟩]) (.seq (.reg [⟨some 18,none,.mov (.t 1),0,[]⟩,⟨some 19,none,.call (.c (.fn 103 [])) [.t 18],0,[]⟩,⟨some 8,none,
 .mov (.t 19),0,[]⟩]) (.seq (.reg [⟨some 20,none,.mov (.t 8),0,[]⟩,⟨some 21,none,.slcA 24 1 false (.t 7) (some (.t 20)),0,[]⟩,⟨some 22,none,.mov (.t 1),0,[]⟩,⟨some 23,
 none,.call (.c (.fn 104 [])) [.t 21,.t 22],0,[]⟩]) (.seq (.reg [⟨some 24,none,.mov (.t 0),0,[]⟩,⟨some 25,none,.mov (.t 8),0,[]⟩,⟨some 26,none,.slcA 24 1 false (.t 7)
  (some (.t 25)),0,[]⟩,⟨some 27,none,.app 1 none (.t 24) (.t 26),0,[]⟩,⟨some 6,none,.mov (.t 27),0,[]⟩]) .ret))))) .skip)) (.seq (.reg [⟨some 29,none,.mov (.t 0),0,[]⟩,
 ⟨some 30,none,.mov (.t 1),0,[]⟩,⟨some 31,none,.mov (.t 2),0,[]⟩,⟨some 32,none,.call (.c (.fn 105 [])) [.t 29,.t 30,.t 31,.c (.v (.bool false)),.c (.v (.bool true))],0,[]
 ⟩,⟨some 28,none,.mov (.t 32),0,[]⟩,⟨some 33,none,.ext (.t 28) 0,0,[]⟩,⟨some 34,none,.ext (.t 28) 1,0,[]⟩,⟨some 0,none,.mov (.t 33),0,[]⟩]) (.seq (.reg [⟨some 35,none,
 .mov (.t 0),0,[]⟩,⟨some 6,none,.mov (.t 35),0,[]⟩]) .ret)))⟩
theorem pf98_is : pfs 98 = some pf98 := by kernel_rfl
def pf99 : PF := ⟨76,[.t 2],.seq (.reg [⟨some 1,none,.box (.t 0),0,[]⟩,⟨some 2,none,.mov (.c (.v (.bool false))),0,[]⟩]) (.seq (.seq (.reg [⟨some 7,none,.faddr 3 (.t 1),0,[]⟩,⟨some 8,
 none,.load false 1 (.t 7),0,[]⟩,⟨some 9,none,.lenS (.t 8),0,[]⟩,⟨some 10,none,.mov (.c (.v (.int .i64 0))),0,[]⟩]) (.block 0 (.loop (.seq (.reg [⟨some 11,none,
 .bin .lss (.t 10) (.t 9),0,[]⟩]) (.seq (.cond (.t 11) .skip (.exit 0)) (.seq (.block 1 (.seq (.reg [⟨some 12,none,.iaddr 2 (.t 8) (.t 10),0,[]⟩,⟨some 13,none,
 .load true 2 (.t 12),0,[]⟩,⟨some 4,none,.alloc [.v (.int .i64 0),.sl [] .nil],0,[]⟩,⟨none,none,.store 2 (.t 4) (.t 13),0,[]⟩]) (.seq (.reg [⟨some 14,none,
 .load true 2 (.t 4),0,[]⟩,⟨some 15,none,.call (.c (.fn 66 [])) [.t 14],0,[]⟩,⟨some 16,none,.un .not (.t 15),0,[]⟩]) (.cond (.t 16) (.seq (.reg [⟨some 2,none,
 .mov (.c (.v (.bool false))),0,[]⟩]) .ret) .skip)))) (.reg [⟨some 17,none,.bin .add (.t 10) (.c (.v (.int .i64 1))),0,[]⟩,⟨some 10,none,.mov (.t 17),0,[]⟩])))))))
  (.seq (.reg [⟨some 5,none,.mov (.c (.v (.int .i64 0))),0,[]⟩,⟨some 6,none,.mov (.c (.v (.int .i64 0))),0,[]⟩]) (.seq (.seq (.reg [⟨some 18,none,.faddr 0 (.t 1),0,[]⟩,
 ⟨some 19,none,.load false 1 (.t 18),0,[]⟩]) (.block 2 (.seq (.reg [⟨some 21,none,.bin .eql (.t 19) (.c (.v (.int .i64 2))),0,[]⟩,⟨some 20,none,.mov (.t 21),0,[]⟩])
  (.cond (.t 20) (.reg [⟨some 5,none,.mov (.c (.v (.int .i64 1))),0,[]⟩,⟨some 6,none,.mov (.c (.v (.int .i64 1))),0,[]⟩]) (.seq (.reg [⟨some 23,none,.bin .eql (.t 19)
  (.c (.v (.int .i64 3))),0,[]⟩,⟨some 22,none,.mov (.t 23),0,[]⟩]) (.cond (.t 22) (.reg [⟨some 6,none,.mov (.c (.v (.int .i64 8))),0,[]⟩]) .skip))))))
  (.seq (.block 3 (.seq (.seq (.dreg [6,0] [⟨some 25,none,.faddr 4 (.t 1),0,[]⟩,⟨some 26,none,.load false 1 (.t 25),1,[0]⟩,⟨some 27,none,.lenS (.t 26),2,[1,0]⟩,⟨some 28,
 none,.faddr 0 (.t 1),3,[]⟩,⟨some 29,none,.load false 1 (.t 28),4,[3]⟩,⟨some 30,none,.call (.c (.fn 106 [])) [.t 29],5,[4,3]⟩,⟨some 31,none,.bin .neq (.t 27) (.t 30),6,
 [5,4,3,2,1,0]⟩,⟨some 24,none,.mov (.t 31),7,[6,5,4,3,2,1,0]⟩]) (.cond (.t 24) .skip (.seq (.reg [⟨some 32,none,.faddr 3 (.t 1),0,[]⟩,⟨some 33,none,.load false 1 (.t 32),
 0,[]⟩,⟨some 34,none,.lenS (.t 33),0,[]⟩,⟨some 35,none,.mov (.t 5),0,[]⟩,⟨some 36,none,.bin .lss (.t 34) (.t 35),0,[]⟩,⟨some 24,none,.mov (.t 36),0,[]⟩]) (.cond (.t 24)
  .skip (.seq (.reg [⟨some 37,none,.faddr 3 (.t 1),0,[]⟩,⟨some 38,none,.load false 1 (.t 37),0,[]⟩,⟨some 39,none,.lenS (.t 38),0,[]⟩,⟨some 40,none,.mov (.t 6),0,[]⟩,
 ⟨some 41,none,.bin .gtr (.t 39) (.t 40),0,[]⟩,⟨some 24,none,.mov (.t 41),0,[]⟩]) (.cond (.t 24) .skip (.reg [⟨some 42,none,.faddr 2 (.t 1),0,[]⟩,⟨some 43,none,
 .load false 1 (.t 42),0,[]⟩,⟨some 44,none,.lenT (.t 43),0,[]⟩,⟨some 45,none,.bin .gtr (.t 44) (.c (.v (.int .i64 65536))),0,[]⟩,⟨some 24,none,.mov (.t 45),0,[]⟩])))))))
  (.cond (.t 24) (.seq (.reg [⟨some 2,none,.mov (.c (.v (.bool false))),0,[]⟩]) .ret) (.seq (.reg [⟨some 47,none,.faddr 0 (.t 1),0,[]⟩,⟨some 48,none,.load false 1 (.t 47)
 ,0,[]⟩,⟨some 49,none,.call (.c (.fn 107 [])) [.t 48],0,[]⟩,⟨some 46,none,.mov (.t 49),0,[]⟩]) (.cond (.t 46) (.seq (.reg [⟨some 50,none,.faddr 1 (.t 1),0,[]⟩,⟨some 51,
 none,.load false 1 (.t 50),0,[]⟩,⟨some 52,none,.bin .geq (.t 51) (.c (.v (.int .i64 0))),0,[]⟩,⟨some 53,none,.mov (.t 52),0,[]⟩,⟨some 54,some (53,true),.faddr 1 (.t 1),
 0,[]⟩,⟨some 55,some (53,true),.load false 1 (.t 54),0,[]⟩,⟨some 56,some (53,true),.bin .leq (.t 55) (.c (.v (.int .i64 2147483647))),0,[]⟩,⟨some 57,none,.pick (.t 53)
  (.t 56) (.c (.v (.bool false))),0,[]⟩,⟨some 58,none,.mov (.t 57),0,[]⟩,⟨some 59,some (58,true),.faddr 2 (.t 1),0,[]⟩,⟨some 60,some (58,true),.load false 1 (.t 59),0,[]⟩
 ,⟨some 61,some (58,true),.bin .eql (.t 60) (.c (.v (.string (ByteArray.mk #[])))),0,[]⟩,⟨some 62,none,.pick (.t 58) (.t 61) (.c (.v (.bool false))),0,[]⟩,⟨some 2,none,
 .mov (.t 62),0,[]⟩]) .ret) .skip))))) (.seq (.reg [⟨some 63,none,.faddr 1 (.t 1),0,[]⟩,⟨some 64,none,.load false 1 (.t 63),0,[]⟩,⟨some 65,none,.bin .eql (.t 64)
  (.c (.v (.int .i64 0))),0,[]⟩,⟨some 66,none,.mov (.t 65),0,[]⟩,⟨some 67,some (66,true),.faddr 0 (.t 1),0,[]⟩,⟨some 68,some (66,true),.load false 1 (.t 67),0,[]⟩,
 ⟨some 69,some (66,true),.bin .eql (.t 68) (.c (.v (.int .i64 3))),0,[]⟩,⟨some 70,some (66,true),.mov (.t 69),0,[]⟩,⟨some 71,some (70,false),.faddr 2 (.t 1),0,[]⟩,
 ⟨some 72,some (70,false),.load false 1 (.t 71),0,[]⟩,⟨some 73,some (70,false),.bin .eql (.t 72) (.c (.v (.string (ByteArray.mk #[])))),0,[]⟩,⟨some 74,some (66,true),
 .pick (.t 70) (.c (.v (.bool true))) (.t 73),0,[]⟩,⟨some 75,none,.pick (.t 66) (.t 74) (.c (.v (.bool false))),0,[]⟩,⟨some 2,none,.mov (.t 75),0,[]⟩]) .ret)))))⟩
theorem pf99_is : pfs 99 = some pf99 := by kernel_rfl
def pf101 : PF := ⟨19,[.t 4],.seq (.reg [⟨some 4,none,.mov (.c (.v (.int .i64 0))),0,[]⟩]) (.seq (.seq (.reg [⟨some 6,none,.mov (.t 0),0,[]⟩,⟨some 7,none,.lenS (.t 6),0,[]⟩,⟨some 8,none,
 .mov (.c (.v (.int .i64 0))),0,[]⟩]) (.block 0 (.loop (.seq (.reg [⟨some 9,none,.bin .lss (.t 8) (.t 7),0,[]⟩]) (.seq (.cond (.t 9) .skip (.exit 0))
  (.seq (.block 1 (.seq (.reg [⟨some 10,none,.mov (.t 8),0,[]⟩,⟨some 5,none,.mov (.t 10),0,[]⟩]) (.seq (.reg [⟨some 11,none,.mov (.t 1),0,[]⟩,⟨some 12,none,.mov (.t 0),0,
 []⟩,⟨some 13,none,.mov (.t 5),0,[]⟩,⟨some 14,none,.iaddr 2 (.t 12) (.t 13),0,[]⟩,⟨some 15,none,.load true 2 (.t 14),0,[]⟩,⟨some 16,none,.call (.t 11) [.t 15],0,[]⟩])
  (.cond (.t 16) (.seq (.reg [⟨some 17,none,.mov (.t 5),0,[]⟩,⟨some 4,none,.mov (.t 17),0,[]⟩]) .ret) .skip)))) (.reg [⟨some 18,none,.bin .add (.t 8)
  (.c (.v (.int .i64 1))),0,[]⟩,⟨some 8,none,.mov (.t 18),0,[]⟩]))))))) (.seq (.reg [⟨some 4,none,.mov (.c (.v (.int .i64 (-1)))),0,[]⟩]) .ret))⟩
theorem pf101_is : pfs 101 = some pf101 := by kernel_rfl
def pf102 : PF := ⟨15,[.t 2],.seq (.reg [⟨some 2,none,.mov (.c (.v (.string (ByteArray.mk #[])))),0,[]⟩]) (.seq (.seq (.reg [⟨some 3,none,.mov (.t 0),0,[]⟩,⟨some 4,none,.bin .lss (.t 3)
  (.c (.v (.int .i64 10))),0,[]⟩]) (.cond (.t 4) (.seq (.reg [⟨some 5,none,.mov (.t 0),0,[]⟩,⟨some 6,none,.mov (.t 0),0,[]⟩,⟨some 7,none,.bin .add (.t 6)
  (.c (.v (.int .i64 1))),0,[]⟩,⟨some 8,none,.strsl (.c (.v (.string (ByteArray.mk #[48,49,50,51,52,53,54,55,56,57,97,98,99,100,101,102,103,104,105,106,107,108,109,110,
 111,112,113,114,115,116,117,118,119,120,121,122])))) (some (.t 5)) (some (.t 7)),0,[]⟩,⟨some 2,none,.mov (.t 8),0,[]⟩]) .ret) .skip)) (.seq (.reg [⟨some 9,none,
 .mov (.t 0),0,[]⟩,⟨some 10,none,.bin .mul (.t 9) (.c (.v (.int .i64 2))),0,[]⟩,⟨some 11,none,.mov (.t 0),0,[]⟩,⟨some 12,none,.bin .mul (.t 11) (.c (.v (.int .i64 2))),0,
 []⟩,⟨some 13,none,.bin .add (.t 12) (.c (.v (.int .i64 2))),0,[]⟩,⟨some 14,none,.strsl (.c (.v (.string (ByteArray.mk #[48,48,48,49,48,50,48,51,48,52,48,53,48,54,48,55,
 48,56,48,57,49,48,49,49,49,50,49,51,49,52,49,53,49,54,49,55,49,56,49,57,50,48,50,49,50,50,50,51,50,52,50,53,50,54,50,55,50,56,50,57,51,48,51,49,51,50,51,51,51,52,51,53,
 51,54,51,55,51,56,51,57,52,48,52,49,52,50,52,51,52,52,52,53,52,54,52,55,52,56,52,57,53,48,53,49,53,50,53,51,53,52,53,53,53,54,53,55,53,56,53,57,54,48,54,49,54,50,54,51,
 54,52,54,53,54,54,54,55,54,56,54,57,55,48,55,49,55,50,55,51,55,52,55,53,55,54,55,55,55,56,55,57,56,48,56,49,56,50,56,51,56,52,56,53,56,54,56,55,56,56,56,57,57,48,57,49,
 57,50,57,51,57,52,57,53,57,54,57,55,57,56,57,57])))) (some (.t 10)) (some (.t 13)),0,[]⟩,⟨some 2,none,.mov (.t 14),0,[]⟩]) .ret))⟩
theorem pf102_is : pfs 102 = some pf102 := by kernel_rfl
def pf106 : PF := ⟨21,[.t 2],.seq (.reg [⟨some 2,none,.mov (.c (.v (.int .i64 0))),0,[]⟩]) (.seq (.seq (.reg [⟨some 3,none,.mov (.t 0),0,[]⟩]) (.block 0 (.seq (.seq (.reg [⟨some 5,none,
 .bin .eql (.t 3) (.c (.v (.int .i64 0))),0,[]⟩,⟨some 4,none,.mov (.t 5),0,[]⟩]) (.cond (.t 4) .skip (.seq (.reg [⟨some 6,none,.bin .eql (.t 3) (.c (.v (.int .i64 1))),0,
 []⟩,⟨some 4,none,.mov (.t 6),0,[]⟩]) (.cond (.t 4) .skip (.seq (.reg [⟨some 7,none,.bin .eql (.t 3) (.c (.v (.int .i64 2))),0,[]⟩,⟨some 4,none,.mov (.t 7),0,[]⟩])
  (.cond (.t 4) .skip (.seq (.reg [⟨some 8,none,.bin .eql (.t 3) (.c (.v (.int .i64 3))),0,[]⟩,⟨some 4,none,.mov (.t 8),0,[]⟩]) (.cond (.t 4) .skip (.reg [⟨some 9,none,
 .bin .eql (.t 3) (.c (.v (.int .i64 12))),0,[]⟩,⟨some 4,none,.mov (.t 9),0,[]⟩]))))))))) (.cond (.t 4) (.seq (.reg [⟨some 2,none,.mov (.c (.v (.int .i64 0))),0,[]⟩])
  .ret) (.seq (.seq (.reg [⟨some 11,none,.bin .eql (.t 3) (.c (.v (.int .i64 9))),0,[]⟩,⟨some 10,none,.mov (.t 11),0,[]⟩]) (.cond (.t 10) .skip (.reg [⟨some 12,none,
 .bin .eql (.t 3) (.c (.v (.int .i64 10))),0,[]⟩,⟨some 10,none,.mov (.t 12),0,[]⟩]))) (.cond (.t 10) (.seq (.reg [⟨some 2,none,.mov (.c (.v (.int .i64 1))),0,[]⟩]) .ret)
  (.seq (.seq (.reg [⟨some 14,none,.bin .eql (.t 3) (.c (.v (.int .i64 4))),0,[]⟩,⟨some 13,none,.mov (.t 14),0,[]⟩]) (.cond (.t 13) .skip (.seq (.reg [⟨some 15,none,
 .bin .eql (.t 3) (.c (.v (.int .i64 5))),0,[]⟩,⟨some 13,none,.mov (.t 15),0,[]⟩]) (.cond (.t 13) .skip (.seq (.reg [⟨some 16,none,.bin .eql (.t 3) (.c (.v (.int .i64 6))
 ),0,[]⟩,⟨some 13,none,.mov (.t 16),0,[]⟩]) (.cond (.t 13) .skip (.reg [⟨some 17,none,.bin .eql (.t 3) (.c (.v (.int .i64 7))),0,[]⟩,⟨some 13,none,.mov (.t 17),0,[]⟩]))))
 ))) (.cond (.t 13) (.seq (.reg [⟨some 2,none,.mov (.c (.v (.int .i64 2))),0,[]⟩]) .ret) (.seq (.seq (.reg [⟨some 19,none,.bin .eql (.t 3) (.c (.v (.int .i64 8))),0,[]⟩,
 ⟨some 18,none,.mov (.t 19),0,[]⟩]) (.cond (.t 18) .skip (.reg [⟨some 20,none,.bin .eql (.t 3) (.c (.v (.int .i64 11))),0,[]⟩,⟨some 18,none,.mov (.t 20),0,[]⟩])))
  (.cond (.t 18) (.seq (.reg [⟨some 2,none,.mov (.c (.v (.int .i64 3))),0,[]⟩]) .ret) .skip)))))))))) (.seq (.reg [⟨some 2,none,.mov (.c (.v (.int .i64 (-1)))),0,[]⟩])
  .ret))⟩
theorem pf106_is : pfs 106 = some pf106 := by kernel_rfl
def pf107 : PF := ⟨9,[.t 2],.seq (.reg [⟨some 2,none,.mov (.c (.v (.bool false))),0,[]⟩]) (.seq (.reg [⟨some 3,none,.mov (.t 0),0,[]⟩,⟨some 4,none,.bin .eql (.t 3) (.c (.v (.int .i64 0)))
 ,0,[]⟩,⟨some 5,none,.mov (.t 4),0,[]⟩,⟨some 6,some (5,false),.mov (.t 0),0,[]⟩,⟨some 7,some (5,false),.bin .eql (.t 6) (.c (.v (.int .i64 12))),0,[]⟩,⟨some 8,none,
 .pick (.t 5) (.c (.v (.bool true))) (.t 7),0,[]⟩,⟨some 2,none,.mov (.t 8),0,[]⟩]) .ret)⟩
theorem pf107_is : pfs 107 = some pf107 := by kernel_rfl
end Go.Proofs.Eng
