/- The prepared code of the functions. No conditions. -/
import Derived.Test.YtodnkbnbjhcikaaDoorCN
set_option linter.all false
set_option linter.deprecated false
set_option linter.unnecessarySimpa false
set_option linter.unusedVariables false
set_option linter.unusedSimpArgs false
set_option linter.defProp false
namespace Go.Proofs.Eng
open Go Go.Proofs
def sharedF : List Nat := [28, 39, 51, 52]
def md (f : Nat) : Md := if f = 63 then .raw else if sharedF.contains f then .shared else .pure
def bf : Bf := ⟨false, fun g => sharedF.contains g, fun _ _ _ _ => none⟩
noncomputable def pfs (f : Nat) : Option PF := if f = 63 then some ⟨0, [], .ora growO⟩ else if f = 30 then some ⟨0, [], .ora closureO⟩ else prepF Tryd.prog bf f
theorem pfsOK : PfsOK Tryd.prog pfs := fun f pf h => by
  unfold pfs at h
  split at h
  · rename_i hf
    subst hf
    simp only [Option.some.injEq] at h; subst h
    exact .inr (.inl ⟨_, rfl, grow_ok⟩)
  · split at h
    · rename_i hf
      subst hf
      simp only [Option.some.injEq] at h; subst h
      exact .inr (.inl ⟨_, rfl, closure_ok⟩)
    · exact .inl ⟨_, h⟩
set_option maxRecDepth 100000
def pf9 : PF := ⟨123,[.t 4],.seq (.reg [⟨some 4,none,.mov (.c (.v (.bool false))),0,[]⟩]) (.seq (.seq (.reg [⟨some 16,none,.mov (.t 0),0,[]⟩,⟨some 17,none,.call (.c (.fn 12 [])) [.t 16]
 ,0,[]⟩,⟨some 18,none,.un .not (.t 17),0,[]⟩,⟨some 19,none,.mov (.t 18),0,[]⟩,⟨some 20,some (19,false),.mov (.t 0),0,[]⟩,⟨some 21,some (19,false),.lenS (.t 20),0,[]⟩,
 ⟨some 22,some (19,false),.bin .eql (.t 21) (.c (.v (.int .i64 0))),0,[]⟩,⟨some 23,none,.pick (.t 19) (.c (.v (.bool true))) (.t 22),0,[]⟩,⟨some 24,none,.mov (.t 23),0,[]
 ⟩,⟨some 25,some (24,false),.mov (.t 1),0,[]⟩,⟨some 26,some (24,false),.lenS (.t 25),0,[]⟩,⟨some 27,some (24,false),.bin .eql (.t 26) (.c (.v (.int .i64 0))),0,[]⟩,
 ⟨some 28,none,.pick (.t 24) (.c (.v (.bool true))) (.t 27),0,[]⟩,⟨some 29,none,.mov (.t 28),0,[]⟩,⟨some 30,some (29,false),.mov (.t 1),0,[]⟩,⟨some 31,some (29,false),
 .lenS (.t 30),0,[]⟩,⟨some 32,some (29,false),.bin .gtr (.t 31) (.c (.v (.int .i64 12))),0,[]⟩,⟨some 33,none,.pick (.t 29) (.c (.v (.bool true))) (.t 32),0,[]⟩])
  (.cond (.t 33) (.seq (.reg [⟨some 34,none,.call (.c (.fn 13 [])) [],0,[]⟩,⟨some 4,none,.mov (.t 34),0,[]⟩]) .ret) .skip)) (.seq (.reg [⟨some 36,none,.mov (.t 0),0,[]⟩,
 ⟨some 37,none,.call (.c (.fn 17 [])) [.t 36],0,[]⟩,⟨some 35,none,.mov (.t 37),0,[]⟩,⟨some 38,none,.ext (.t 35) 0,0,[]⟩,⟨some 39,none,.ext (.t 35) 1,0,[]⟩,⟨some 40,none,
 .ext (.t 35) 2,0,[]⟩,⟨some 6,none,.alloc [.v (.int .i64 0),.v (.int .i64 0),.sl [] .nil],0,[]⟩,⟨some 5,none,.mov (.t 38),0,[]⟩,⟨none,none,.store 3 (.t 6) (.t 39),0,[]⟩,
 ⟨some 7,none,.mov (.t 40),0,[]⟩]) (.seq (.seq (.reg [⟨some 41,none,.mov (.t 7),0,[]⟩,⟨some 42,none,.bin .neq (.t 41) (.c (.v (.int .i64 0))),0,[]⟩,⟨some 43,none,
 .mov (.t 42),0,[]⟩,⟨some 44,some (43,false),.mov (.t 5),0,[]⟩,⟨some 45,some (43,false),.un .not (.t 44),0,[]⟩,⟨some 46,none,.pick (.t 43) (.c (.v (.bool true))) (.t 45),
 0,[]⟩]) (.cond (.t 46) (.seq (.reg [⟨some 47,none,.call (.c (.fn 13 [])) [],0,[]⟩,⟨some 4,none,.mov (.t 47),0,[]⟩]) .ret) .skip)) (.seq (.reg [⟨some 48,none,.mov (.t 0),
 0,[]⟩,⟨some 49,none,.mov (.t 1),0,[]⟩,⟨some 50,none,.iaddr 1 (.t 49) (.c (.v (.int .i64 0))),0,[]⟩,⟨some 51,none,.load false 1 (.t 50),0,[]⟩,⟨some 52,none,
 .conv .i64 (.t 51),0,[]⟩,⟨some 53,none,.mov (.t 0),0,[]⟩,⟨some 54,none,.lenS (.t 53),0,[]⟩,⟨some 55,none,.bin .rem (.t 52) (.t 54),0,[]⟩,⟨some 56,none,.iaddr 3 (.t 48)
  (.t 55),0,[]⟩,⟨some 57,none,.load true 3 (.t 56),0,[]⟩,⟨some 8,none,.alloc [.v (.int .i64 0),.v (.int .i64 0),.sl [] .nil],0,[]⟩,⟨none,none,.store 3 (.t 8) (.t 57),0,[]
 ⟩]) (.seq (.seq (.reg [⟨some 9,none,.mov (.c (.v (.int .i64 1))),0,[]⟩]) (.block 0 (.loop (.seq (.seq (.reg [⟨some 58,none,.mov (.t 9),0,[]⟩,⟨some 59,none,.mov (.t 1),0,
 []⟩,⟨some 60,none,.lenS (.t 59),0,[]⟩,⟨some 61,none,.bin .lss (.t 58) (.t 60),0,[]⟩]) (.cond (.t 61) .skip (.exit 0))) (.seq (.block 1 (.seq (.dreg [18] [⟨some 10,none,
 .alloc [.v (.int .i64 0),.v (.int .i64 0),.sl [] .nil],16,[]⟩,⟨some 65,none,.load true 3 (.t 8),0,[]⟩,⟨some 66,none,.mov (.t 0),1,[]⟩,⟨some 67,none,.mov (.t 1),2,[]⟩,
 ⟨some 68,none,.mov (.t 9),3,[]⟩,⟨some 69,none,.iaddr 1 (.t 67) (.t 68),4,[3,2]⟩,⟨some 70,none,.load false 1 (.t 69),5,[4,3,2]⟩,⟨some 71,none,.conv .i64 (.t 70),6,[5,4,3,
 2]⟩,⟨some 72,none,.mov (.t 0),7,[]⟩,⟨some 73,none,.lenS (.t 72),8,[7]⟩,⟨some 74,none,.bin .rem (.t 71) (.t 73),9,[8,7,6,5,4,3,2]⟩,⟨some 75,none,.iaddr 3 (.t 66) (.t 74),
 10,[9,8,7,6,5,4,3,2,1]⟩,⟨some 76,none,.load true 3 (.t 75),11,[10,9,8,7,6,5,4,3,2,1]⟩,⟨some 77,none,.call (.c (.fn 21 [])) [.t 65,.t 76],12,[11,10,9,8,7,6,5,4,3,2,1,0]⟩,
 ⟨some 64,none,.mov (.t 77),13,[12,11,10,9,8,7,6,5,4,3,2,1,0]⟩,⟨some 78,none,.ext (.t 64) 0,14,[13,12,11,10,9,8,7,6,5,4,3,2,1,0]⟩,⟨some 79,none,.ext (.t 64) 1,15,[13,12,
 11,10,9,8,7,6,5,4,3,2,1,0]⟩,⟨none,none,.store 3 (.t 10) (.t 78),17,[14,13,12,11,10,9,8,7,6,5,4,3,2,1,0,16]⟩,⟨some 11,none,.mov (.t 79),18,[17,14,16,15,13,12,11,10,9,8,7,
 6,5,4,3,2,1,0]⟩]) (.seq (.seq (.reg [⟨some 80,none,.mov (.t 11),0,[]⟩,⟨some 81,none,.bin .neq (.t 80) (.c (.v (.int .i64 0))),0,[]⟩]) (.cond (.t 81)
  (.seq (.reg [⟨some 82,none,.call (.c (.fn 13 [])) [],0,[]⟩,⟨some 83,none,.mov (.t 82),0,[]⟩,⟨some 84,some (83,true),.mov (.t 11),0,[]⟩,⟨some 85,some (83,true),
 .bin .eql (.t 84) (.c (.v (.int .i64 1))),0,[]⟩,⟨some 86,none,.pick (.t 83) (.t 85) (.c (.v (.bool false))),0,[]⟩,⟨some 4,none,.mov (.t 86),0,[]⟩]) .ret) .skip))
  (.reg [⟨some 87,none,.load true 3 (.t 10),0,[]⟩,⟨none,none,.store 3 (.t 8) (.t 87),0,[]⟩])))) (.reg [⟨some 62,none,.mov (.t 9),0,[]⟩,⟨some 63,none,.bin .add (.t 62)
  (.c (.v (.int .i64 1))),0,[]⟩,⟨some 9,none,.mov (.t 63),0,[]⟩])))))) (.seq (.seq (.reg [⟨some 88,none,.faddr 0 (.t 8),0,[]⟩,⟨some 89,none,.load false 1 (.t 88),0,[]⟩,
 ⟨some 90,none,.faddr 1 (.t 8),0,[]⟩,⟨some 91,none,.load false 1 (.t 90),0,[]⟩,⟨some 92,none,.bin .neq (.t 89) (.t 91),0,[]⟩]) (.cond (.t 92) (.seq (.reg [⟨some 93,none,
 .call (.c (.fn 13 [])) [],0,[]⟩,⟨some 4,none,.mov (.t 93),0,[]⟩]) .ret) .skip)) (.seq (.reg [⟨some 94,none,.load true 3 (.t 8),0,[]⟩,⟨some 12,none,
 .alloc [.v (.int .i64 0),.v (.int .i64 0),.sl [] .nil],0,[]⟩,⟨none,none,.store 3 (.t 12) (.t 94),0,[]⟩]) (.seq (.seq (.reg [⟨some 13,none,.mov (.c (.v (.int .i64 0))),0,
 []⟩]) (.block 2 (.loop (.seq (.seq (.reg [⟨some 95,none,.mov (.t 13),0,[]⟩,⟨some 96,none,.bin .lss (.t 95) (.c (.v (.int .i64 3000))),0,[]⟩]) (.cond (.t 96)
  .skip (.exit 2))) (.seq (.block 3 (.seq (.reg [⟨some 100,none,.load true 3 (.t 12),0,[]⟩,⟨some 101,none,.load true 3 (.t 12),0,[]⟩,⟨some 102,none,.call (.c (.fn 21 []))
  [.t 100,.t 101],0,[]⟩,⟨some 99,none,.mov (.t 102),0,[]⟩,⟨some 103,none,.ext (.t 99) 0,0,[]⟩,⟨some 104,none,.ext (.t 99) 1,0,[]⟩,⟨some 14,none,.alloc [.v (.int .i64 0),
 .v (.int .i64 0),.sl [] .nil],0,[]⟩,⟨none,none,.store 3 (.t 14) (.t 103),0,[]⟩,⟨some 15,none,.mov (.t 104),0,[]⟩]) (.seq (.seq (.reg [⟨some 105,none,.mov (.t 15),0,[]⟩,
 ⟨some 106,none,.bin .neq (.t 105) (.c (.v (.int .i64 0))),0,[]⟩]) (.cond (.t 106) (.seq (.reg [⟨some 4,none,.mov (.c (.v (.bool false))),0,[]⟩]) .ret) .skip))
  (.seq (.seq (.reg [⟨some 107,none,.load true 3 (.t 14),0,[]⟩,⟨some 108,none,.load true 3 (.t 12),0,[]⟩,⟨some 109,none,.call (.c (.fn 19 [])) [.t 107,.t 108],0,[]⟩])
  (.cond (.t 109) (.seq (.reg [⟨some 110,none,.call (.c (.fn 13 [])) [],0,[]⟩,⟨some 111,none,.mov (.t 110),0,[]⟩,⟨some 112,some (111,true),.load true 3 (.t 12),0,[]⟩,
 ⟨some 113,some (111,true),.call (.c (.fn 25 [])) [.t 112],0,[]⟩,⟨some 114,none,.pick (.t 111) (.t 113) (.c (.v (.bool false))),0,[]⟩,⟨some 4,none,.mov (.t 114),0,[]⟩])
  .ret) .skip)) (.seq (.reg [⟨some 116,none,.load true 3 (.t 12),0,[]⟩,⟨some 117,none,.load true 3 (.t 8),0,[]⟩,⟨some 118,none,.call (.c (.fn 21 [])) [.t 116,.t 117],0,[]
 ⟩,⟨some 115,none,.mov (.t 118),0,[]⟩,⟨some 119,none,.ext (.t 115) 0,0,[]⟩,⟨some 120,none,.ext (.t 115) 1,0,[]⟩,⟨none,none,.store 3 (.t 12) (.t 119),0,[]⟩,⟨some 15,none,
 .mov (.t 120),0,[]⟩]) (.seq (.reg [⟨some 121,none,.mov (.t 15),0,[]⟩,⟨some 122,none,.bin .neq (.t 121) (.c (.v (.int .i64 0))),0,[]⟩]) (.cond (.t 122)
  (.seq (.reg [⟨some 4,none,.mov (.c (.v (.bool false))),0,[]⟩]) .ret) .skip))))))) (.reg [⟨some 97,none,.mov (.t 13),0,[]⟩,⟨some 98,none,.bin .add (.t 97)
  (.c (.v (.int .i64 1))),0,[]⟩,⟨some 13,none,.mov (.t 98),0,[]⟩])))))) (.seq (.reg [⟨some 4,none,.mov (.c (.v (.bool false))),0,[]⟩]) .ret)))))))))⟩
theorem pf9_is : pfs 9 = some pf9 := by kernel_rfl
def pf12 : PF := ⟨23,[.t 2],.seq (.reg [⟨some 2,none,.mov (.c (.v (.bool false))),0,[]⟩]) (.seq (.seq (.reg [⟨some 3,none,.mov (.c (.v (.int .i64 0))),0,[]⟩])
  (.block 0 (.loop (.seq (.seq (.reg [⟨some 4,none,.mov (.t 3),0,[]⟩,⟨some 5,none,.mov (.t 0),0,[]⟩,⟨some 6,none,.lenS (.t 5),0,[]⟩,⟨some 7,none,.bin .lss (.t 4) (.t 6),
 0,[]⟩,⟨some 8,none,.mov (.t 7),0,[]⟩,⟨some 9,some (8,true),.mov (.t 3),0,[]⟩,⟨some 10,some (8,true),.bin .lss (.t 9) (.c (.v (.int .i64 8))),0,[]⟩,⟨some 11,none,
 .pick (.t 8) (.t 10) (.c (.v (.bool false))),0,[]⟩]) (.cond (.t 11) .skip (.exit 0))) (.seq (.block 1 (.seq (.reg [⟨some 14,none,.mov (.t 0),0,[]⟩,⟨some 15,none,
 .mov (.t 3),0,[]⟩,⟨some 16,none,.iaddr 3 (.t 14) (.t 15),0,[]⟩,⟨some 17,none,.load true 3 (.t 16),0,[]⟩,⟨some 18,none,.call (.c (.fn 20 [])) [.t 17,.c (.v (.int .i64 3))
 ],0,[]⟩,⟨some 19,none,.un .not (.t 18),0,[]⟩]) (.cond (.t 19) (.seq (.reg [⟨some 2,none,.mov (.c (.v (.bool false))),0,[]⟩]) .ret) .skip))) (.reg [⟨some 12,none,
 .mov (.t 3),0,[]⟩,⟨some 13,none,.bin .add (.t 12) (.c (.v (.int .i64 1))),0,[]⟩,⟨some 3,none,.mov (.t 13),0,[]⟩])))))) (.seq (.reg [⟨some 20,none,.mov (.t 0),0,[]⟩,
 ⟨some 21,none,.lenS (.t 20),0,[]⟩,⟨some 22,none,.bin .leq (.t 21) (.c (.v (.int .i64 6))),0,[]⟩,⟨some 2,none,.mov (.t 22),0,[]⟩]) .ret))⟩
theorem pf12_is : pfs 12 = some pf12 := by kernel_rfl
def pf14 : PF := ⟨20,[.t 2,.t 3],.seq (.reg [⟨some 2,none,.mov (.c (.sl [] .nil)),0,[]⟩,⟨some 3,none,.mov (.c (.v (.int .i64 0))),0,[]⟩]) (.seq (.seq (.reg [⟨some 7,none,.mov (.t 0),0,[]
 ⟩,⟨some 8,none,.call (.c (.fn 29 [])) [.t 7],0,[]⟩,⟨some 4,none,.mov (.t 8),0,[]⟩]) (.seq (.reg [⟨some 9,none,.mov (.t 4),0,[]⟩,⟨some 10,none,.bin .neq (.t 9)
  (.c (.v (.int .i64 0))),0,[]⟩]) (.cond (.t 10) (.seq (.reg [⟨some 11,none,.mov (.t 4),0,[]⟩,⟨some 2,none,.mov (.c (.sl [] .nil)),0,[]⟩,⟨some 3,none,.mov (.t 11),0,[]⟩])
  .ret) .skip))) (.seq (.reg [⟨some 13,none,.mov (.t 0),0,[]⟩,⟨some 14,none,.call (.c (.fn 30 [])) [.t 13],0,[]⟩,⟨some 12,none,.mov (.t 14),0,[]⟩,⟨some 15,none,
 .ext (.t 12) 0,0,[]⟩,⟨some 16,none,.ext (.t 12) 1,0,[]⟩,⟨some 5,none,.mov (.t 15),0,[]⟩,⟨some 6,none,.mov (.t 16),0,[]⟩]) (.seq (.seq (.reg [⟨some 17,none,.mov (.t 6),0,
 []⟩,⟨some 18,none,.un .not (.t 17),0,[]⟩]) (.cond (.t 18) (.seq (.reg [⟨some 2,none,.mov (.c (.sl [] .nil)),0,[]⟩,⟨some 3,none,.mov (.c (.v (.int .i64 6))),0,[]⟩]) .ret)
  .skip)) (.seq (.reg [⟨some 19,none,.mov (.t 5),0,[]⟩,⟨some 2,none,.mov (.t 19),0,[]⟩,⟨some 3,none,.mov (.c (.v (.int .i64 0))),0,[]⟩]) .ret))))⟩
theorem pf14_is : pfs 14 = some pf14 := by kernel_rfl
def pf17 : PF := ⟨46,[.t 2,.c 3 true 3,.t 4],.seq (.reg [⟨some 2,none,.mov (.c (.v (.bool false))),0,[]⟩,⟨some 3,none,.alloc [.v (.int .i64 0),.v (.int .i64 0),.sl [] .nil],0,[]⟩,
 ⟨some 4,none,.mov (.c (.v (.int .i64 0))),0,[]⟩]) (.seq (.reg [⟨some 10,none,.mov (.t 0),0,[]⟩,⟨some 11,none,.call (.c (.fn 14 [])) [.t 10],0,[]⟩,⟨some 9,none,
 .mov (.t 11),0,[]⟩,⟨some 12,none,.ext (.t 9) 0,0,[]⟩,⟨some 13,none,.ext (.t 9) 1,0,[]⟩,⟨some 5,none,.mov (.t 12),0,[]⟩,⟨some 6,none,.mov (.t 13),0,[]⟩])
  (.seq (.seq (.reg [⟨some 14,none,.mov (.t 6),0,[]⟩,⟨some 15,none,.bin .neq (.t 14) (.c (.v (.int .i64 0))),0,[]⟩]) (.cond (.t 15) (.seq (.reg [⟨some 16,none,
 .build [.v (.int .i64 0),.v (.int .i64 0),.sl [] .nil] [],0,[]⟩,⟨some 17,none,.mov (.t 6),0,[]⟩,⟨some 2,none,.mov (.c (.v (.bool false))),0,[]⟩,⟨none,none,
 .store 3 (.t 3) (.t 16),0,[]⟩,⟨some 4,none,.mov (.t 17),0,[]⟩]) .ret) .skip)) (.seq (.seq (.reg [⟨some 18,none,.mov (.t 5),0,[]⟩,⟨some 19,none,.lenS (.t 18),0,[]⟩,
 ⟨some 20,none,.mov (.c (.v (.int .i64 0))),0,[]⟩]) (.block 0 (.loop (.seq (.reg [⟨some 21,none,.bin .lss (.t 20) (.t 19),0,[]⟩]) (.seq (.cond (.t 21) .skip (.exit 0))
  (.seq (.block 1 (.seq (.reg [⟨some 22,none,.iaddr 3 (.t 18) (.t 20),0,[]⟩,⟨some 23,none,.load true 3 (.t 22),0,[]⟩,⟨some 8,none,.alloc [.v (.int .i64 0),
 .v (.int .i64 0),.sl [] .nil],0,[]⟩,⟨none,none,.store 3 (.t 8) (.t 23),0,[]⟩]) (.seq (.dreg [4,0,0,0,0,0,0,4,0,0,0] [⟨some 24,none,.faddr 0 (.t 8),0,[]⟩,⟨some 25,none,
 .load false 1 (.t 24),1,[0]⟩,⟨some 26,none,.faddr 1 (.t 8),2,[]⟩,⟨some 27,none,.load false 1 (.t 26),3,[2]⟩,⟨some 28,none,.bin .eql (.t 25) (.t 27),4,[3,2,1,0]⟩,
 ⟨some 29,none,.mov (.t 28),5,[4,3,2,1,0]⟩,⟨some 30,some (29,true),.load true 3 (.t 8),6,[5,4,3,2,1,0]⟩,⟨some 31,some (29,true),.call (.c (.fn 34 [])) [.t 30],7,[6,5,4,3,
 2,1,0]⟩,⟨some 32,some (29,true),.un .not (.t 31),8,[7,6,5,4,3,2,1,0]⟩,⟨some 33,none,.pick (.t 29) (.t 32) (.c (.v (.bool false))),9,[8,7,6,5,4,3,2,1,0]⟩,⟨some 34,none,
 .mov (.t 33),10,[9,8,7,6,5,4,3,2,1,0]⟩,⟨some 35,some (34,true),.load true 3 (.t 8),11,[10,9,8,7,6,5,4,3,2,1,0]⟩,⟨some 36,some (34,true),.call (.c (.fn 36 [])) [.t 35],
 12,[11,10,9,8,7,6,5,4,3,2,1,0]⟩,⟨some 37,some (34,true),.load true 3 (.t 8),13,[10,9,8,7,6,5,4,3,2,1,0]⟩,⟨some 38,some (34,true),.load true 3 (.t 8),14,[10,9,8,7,6,5,4,
 3,2,1,0]⟩,⟨some 39,some (34,true),.call (.c (.fn 37 [])) [.t 37,.t 38],15,[12,11,14,13,10,9,8,7,6,5,4,3,2,1,0]⟩,⟨some 40,some (34,true),.call (.c (.fn 36 [])) [.t 39],
 16,[15,12,11,14,13,10,9,8,7,6,5,4,3,2,1,0]⟩,⟨some 41,some (34,true),.call (.c (.fn 35 [])) [.t 36,.t 40],17,[16,15,14,13,12,11,10,9,8,7,6,5,4,3,2,1,0]⟩,⟨some 42,none,
 .pick (.t 34) (.t 41) (.c (.v (.bool false))),18,[17,16,15,14,13,12,11,10,9,8,7,6,5,4,3,2,1,0]⟩]) (.cond (.t 42) (.seq (.dreg [2,0] [⟨some 43,none,.load true 3 (.t 8),0,
 []⟩,⟨some 2,none,.mov (.c (.v (.bool false))),1,[]⟩,⟨none,none,.store 3 (.t 3) (.t 43),2,[1,0]⟩,⟨some 4,none,.mov (.c (.v (.int .i64 0))),3,[2,1,0]⟩]) .ret) .skip))))
  (.reg [⟨some 44,none,.bin .add (.t 20) (.c (.v (.int .i64 1))),0,[]⟩,⟨some 20,none,.mov (.t 44),0,[]⟩]))))))) (.seq (.reg [⟨some 45,none,.build [.v (.int .i64 0),
 .v (.int .i64 0),.sl [] .nil] [],0,[]⟩,⟨some 2,none,.mov (.c (.v (.bool true))),0,[]⟩,⟨none,none,.store 3 (.t 3) (.t 45),0,[]⟩,⟨some 4,none,.mov (.c (.v (.int .i64 0))),
 0,[]⟩]) .ret))))⟩
theorem pf17_is : pfs 17 = some pf17 := by kernel_rfl
def pf19 : PF := ⟨75,[.t 4],.seq (.reg [⟨some 2,none,.box (.t 0),0,[]⟩,⟨some 3,none,.box (.t 1),0,[]⟩,⟨some 4,none,.mov (.c (.v (.bool false))),0,[]⟩]) (.seq (.seq (.reg [⟨some 7,none,
 .faddr 0 (.t 2),0,[]⟩,⟨some 8,none,.load false 1 (.t 7),0,[]⟩,⟨some 9,none,.faddr 0 (.t 3),0,[]⟩,⟨some 10,none,.load false 1 (.t 9),0,[]⟩,⟨some 11,none,.bin .neq (.t 8)
  (.t 10),0,[]⟩,⟨some 12,none,.mov (.t 11),0,[]⟩,⟨some 13,some (12,false),.faddr 1 (.t 2),0,[]⟩,⟨some 14,some (12,false),.load false 1 (.t 13),0,[]⟩,⟨some 15,some (12,
 false),.faddr 1 (.t 3),0,[]⟩,⟨some 16,some (12,false),.load false 1 (.t 15),0,[]⟩,⟨some 17,some (12,false),.bin .neq (.t 14) (.t 16),0,[]⟩,⟨some 18,none,.pick (.t 12)
  (.c (.v (.bool true))) (.t 17),0,[]⟩,⟨some 19,none,.mov (.t 18),0,[]⟩,⟨some 20,some (19,false),.faddr 2 (.t 2),0,[]⟩,⟨some 21,some (19,false),.load false 1 (.t 20),0,[]
 ⟩,⟨some 22,some (19,false),.lenS (.t 21),0,[]⟩,⟨some 23,some (19,false),.faddr 2 (.t 3),0,[]⟩,⟨some 24,some (19,false),.load false 1 (.t 23),0,[]⟩,⟨some 25,some (19,
 false),.lenS (.t 24),0,[]⟩,⟨some 26,some (19,false),.bin .neq (.t 22) (.t 25),0,[]⟩,⟨some 27,none,.pick (.t 19) (.c (.v (.bool true))) (.t 26),0,[]⟩]) (.cond (.t 27)
  (.seq (.reg [⟨some 4,none,.mov (.c (.v (.bool false))),0,[]⟩]) .ret) .skip)) (.seq (.seq (.reg [⟨some 5,none,.mov (.c (.v (.int .i64 0))),0,[]⟩])
  (.block 0 (.loop (.seq (.seq (.reg [⟨some 28,none,.mov (.t 5),0,[]⟩,⟨some 29,none,.faddr 2 (.t 2),0,[]⟩,⟨some 30,none,.load false 1 (.t 29),0,[]⟩,⟨some 31,none,
 .lenS (.t 30),0,[]⟩,⟨some 32,none,.bin .lss (.t 28) (.t 31),0,[]⟩]) (.cond (.t 32) .skip (.exit 0))) (.seq (.block 1 (.seq (.seq (.dreg [12] [⟨some 35,none,
 .faddr 2 (.t 2),0,[]⟩,⟨some 36,none,.load false 1 (.t 35),1,[0]⟩,⟨some 37,none,.mov (.t 5),2,[]⟩,⟨some 38,none,.iaddr 1 (.t 36) (.t 37),3,[2,1,0]⟩,⟨some 39,none,
 .load false 1 (.t 38),4,[3,2,1,0]⟩,⟨some 40,none,.lenS (.t 39),5,[4,3,2,1,0]⟩,⟨some 41,none,.faddr 2 (.t 3),6,[]⟩,⟨some 42,none,.load false 1 (.t 41),7,[6]⟩,⟨some 43,
 none,.mov (.t 5),8,[]⟩,⟨some 44,none,.iaddr 1 (.t 42) (.t 43),9,[8,7,6]⟩,⟨some 45,none,.load false 1 (.t 44),10,[9,8,7,6]⟩,⟨some 46,none,.lenS (.t 45),11,[10,9,8,7,6]⟩,
 ⟨some 47,none,.bin .neq (.t 40) (.t 46),12,[11,10,9,8,7,6,5,4,3,2,1,0]⟩]) (.cond (.t 47) (.seq (.reg [⟨some 4,none,.mov (.c (.v (.bool false))),0,[]⟩]) .ret) .skip))
  (.seq (.reg [⟨some 6,none,.mov (.c (.v (.int .i64 0))),0,[]⟩]) (.block 2 (.loop (.seq (.seq (.reg [⟨some 48,none,.mov (.t 6),0,[]⟩,⟨some 49,none,.faddr 2 (.t 2),0,[]⟩,
 ⟨some 50,none,.load false 1 (.t 49),0,[]⟩,⟨some 51,none,.mov (.t 5),0,[]⟩,⟨some 52,none,.iaddr 1 (.t 50) (.t 51),0,[]⟩,⟨some 53,none,.load false 1 (.t 52),0,[]⟩,
 ⟨some 54,none,.lenS (.t 53),0,[]⟩,⟨some 55,none,.bin .lss (.t 48) (.t 54),0,[]⟩]) (.cond (.t 55) .skip (.exit 2))) (.seq (.block 3 (.seq (.dreg [16] [⟨some 58,none,
 .faddr 2 (.t 2),0,[]⟩,⟨some 59,none,.load false 1 (.t 58),1,[0]⟩,⟨some 60,none,.mov (.t 5),2,[]⟩,⟨some 61,none,.iaddr 1 (.t 59) (.t 60),3,[2,1,0]⟩,⟨some 62,none,
 .load false 1 (.t 61),4,[3,2,1,0]⟩,⟨some 63,none,.mov (.t 6),5,[]⟩,⟨some 64,none,.iaddr 1 (.t 62) (.t 63),6,[5,4,3,2,1,0]⟩,⟨some 65,none,.load false 1 (.t 64),7,[6,5,4,
 3,2,1,0]⟩,⟨some 66,none,.faddr 2 (.t 3),8,[]⟩,⟨some 67,none,.load false 1 (.t 66),9,[8]⟩,⟨some 68,none,.mov (.t 5),10,[]⟩,⟨some 69,none,.iaddr 1 (.t 67) (.t 68),11,[10,
 9,8]⟩,⟨some 70,none,.load false 1 (.t 69),12,[11,10,9,8]⟩,⟨some 71,none,.mov (.t 6),13,[]⟩,⟨some 72,none,.iaddr 1 (.t 70) (.t 71),14,[13,12,11,10,9,8]⟩,⟨some 73,none,
 .load false 1 (.t 72),15,[14,13,12,11,10,9,8]⟩,⟨some 74,none,.bin .neq (.t 65) (.t 73),16,[15,14,13,12,11,10,9,8,7,6,5,4,3,2,1,0]⟩]) (.cond (.t 74) (.seq (.reg [⟨some 4,
 none,.mov (.c (.v (.bool false))),0,[]⟩]) .ret) .skip))) (.reg [⟨some 56,none,.mov (.t 6),0,[]⟩,⟨some 57,none,.bin .add (.t 56) (.c (.v (.int .i64 1))),0,[]⟩,⟨some 6,
 none,.mov (.t 57),0,[]⟩])))))))) (.reg [⟨some 33,none,.mov (.t 5),0,[]⟩,⟨some 34,none,.bin .add (.t 33) (.c (.v (.int .i64 1))),0,[]⟩,⟨some 5,none,.mov (.t 34),0,[]⟩])))
 ))) (.seq (.reg [⟨some 4,none,.mov (.c (.v (.bool true))),0,[]⟩]) .ret)))⟩
theorem pf19_is : pfs 19 = some pf19 := by kernel_rfl
def pf20 : PF := ⟨31,[.t 4],.seq (.reg [⟨some 2,none,.box (.t 0),0,[]⟩,⟨some 4,none,.mov (.c (.v (.bool false))),0,[]⟩]) (.seq (.seq (.reg [⟨some 5,none,.mov (.c (.v (.int .i64 0))),0,[]
 ⟩]) (.block 0 (.loop (.seq (.seq (.reg [⟨some 6,none,.mov (.t 5),0,[]⟩,⟨some 7,none,.faddr 2 (.t 2),0,[]⟩,⟨some 8,none,.load false 1 (.t 7),0,[]⟩,⟨some 9,none,
 .lenS (.t 8),0,[]⟩,⟨some 10,none,.bin .lss (.t 6) (.t 9),0,[]⟩,⟨some 11,none,.mov (.t 10),0,[]⟩,⟨some 12,some (11,true),.mov (.t 5),0,[]⟩,⟨some 13,some (11,true),
 .mov (.t 1),0,[]⟩,⟨some 14,some (11,true),.bin .leq (.t 12) (.t 13),0,[]⟩,⟨some 15,none,.pick (.t 11) (.t 14) (.c (.v (.bool false))),0,[]⟩]) (.cond (.t 15)
  .skip (.exit 0))) (.seq (.block 1 (.seq (.reg [⟨some 18,none,.faddr 2 (.t 2),0,[]⟩,⟨some 19,none,.load false 1 (.t 18),0,[]⟩,⟨some 20,none,.mov (.t 5),0,[]⟩,⟨some 21,
 none,.iaddr 1 (.t 19) (.t 20),0,[]⟩,⟨some 22,none,.load false 1 (.t 21),0,[]⟩,⟨some 23,none,.lenS (.t 22),0,[]⟩,⟨some 24,none,.mov (.t 1),0,[]⟩,⟨some 25,none,
 .bin .gtr (.t 23) (.t 24),0,[]⟩]) (.cond (.t 25) (.seq (.reg [⟨some 4,none,.mov (.c (.v (.bool false))),0,[]⟩]) .ret) .skip))) (.reg [⟨some 16,none,.mov (.t 5),0,[]⟩,
 ⟨some 17,none,.bin .add (.t 16) (.c (.v (.int .i64 1))),0,[]⟩,⟨some 5,none,.mov (.t 17),0,[]⟩])))))) (.seq (.reg [⟨some 26,none,.faddr 2 (.t 2),0,[]⟩,⟨some 27,none,
 .load false 1 (.t 26),0,[]⟩,⟨some 28,none,.lenS (.t 27),0,[]⟩,⟨some 29,none,.mov (.t 1),0,[]⟩,⟨some 30,none,.bin .leq (.t 28) (.t 29),0,[]⟩,⟨some 4,none,.mov (.t 30),0,
 []⟩]) .ret))⟩
theorem pf20_is : pfs 20 = some pf20 := by kernel_rfl
def pf21 : PF := ⟨24,[.c 4 true 3,.t 5],.seq (.reg [⟨some 2,none,.box (.t 0),0,[]⟩,⟨some 3,none,.box (.t 1),0,[]⟩,⟨some 4,none,.alloc [.v (.int .i64 0),.v (.int .i64 0),.sl [] .nil],0,[]
 ⟩,⟨some 5,none,.mov (.c (.v (.int .i64 0))),0,[]⟩]) (.seq (.seq (.reg [⟨some 7,none,.load true 3 (.t 2),0,[]⟩,⟨some 8,none,.load true 3 (.t 3),0,[]⟩,⟨some 9,none,
 .bsl (.agg [.v (.int .i64 0),.v (.int .i64 0),.sl [] .nil]) 2 [(0,3,.t 7),(3,3,.t 8)],0,[]⟩,⟨some 10,none,.call (.c (.fn 29 [])) [.t 9],0,[]⟩,⟨some 6,none,.mov (.t 10),
 0,[]⟩]) (.seq (.reg [⟨some 11,none,.mov (.t 6),0,[]⟩,⟨some 12,none,.bin .neq (.t 11) (.c (.v (.int .i64 0))),0,[]⟩]) (.cond (.t 12) (.seq (.reg [⟨some 13,none,
 .build [.v (.int .i64 0),.v (.int .i64 0),.sl [] .nil] [],0,[]⟩,⟨some 14,none,.mov (.t 6),0,[]⟩,⟨none,none,.store 3 (.t 4) (.t 13),0,[]⟩,⟨some 5,none,.mov (.t 14),0,[]⟩]
 ) .ret) .skip))) (.seq (.seq (.reg [⟨some 15,none,.faddr 1 (.t 2),0,[]⟩,⟨some 16,none,.load false 1 (.t 15),0,[]⟩,⟨some 17,none,.faddr 0 (.t 3),0,[]⟩,⟨some 18,none,
 .load false 1 (.t 17),0,[]⟩,⟨some 19,none,.bin .neq (.t 16) (.t 18),0,[]⟩]) (.cond (.t 19) (.seq (.reg [⟨some 20,none,.build [.v (.int .i64 0),.v (.int .i64 0),.sl []
  .nil] [],0,[]⟩,⟨none,none,.store 3 (.t 4) (.t 20),0,[]⟩,⟨some 5,none,.mov (.c (.v (.int .i64 1))),0,[]⟩]) .ret) .skip)) (.seq (.reg [⟨some 21,none,.load true 3 (.t 2),
 0,[]⟩,⟨some 22,none,.load true 3 (.t 3),0,[]⟩,⟨some 23,none,.call (.c (.fn 37 [])) [.t 21,.t 22],0,[]⟩,⟨none,none,.store 3 (.t 4) (.t 23),0,[]⟩,⟨some 5,none,
 .mov (.c (.v (.int .i64 0))),0,[]⟩]) .ret)))⟩
theorem pf21_is : pfs 21 = some pf21 := by kernel_rfl
def pf25 : PF := ⟨30,[.t 2],.seq (.reg [⟨some 1,none,.box (.t 0),0,[]⟩,⟨some 2,none,.mov (.c (.v (.bool false))),0,[]⟩]) (.seq (.seq (.reg [⟨some 3,none,.mov (.c (.v (.int .i64 0))),0,[]
 ⟩]) (.block 0 (.loop (.seq (.seq (.reg [⟨some 4,none,.mov (.t 3),0,[]⟩,⟨some 5,none,.faddr 2 (.t 1),0,[]⟩,⟨some 6,none,.load false 1 (.t 5),0,[]⟩,⟨some 7,none,
 .lenS (.t 6),0,[]⟩,⟨some 8,none,.bin .lss (.t 4) (.t 7),0,[]⟩]) (.cond (.t 8) .skip (.exit 0))) (.seq (.block 1 (.seq (.reg [⟨some 11,none,.mov (.t 3),0,[]⟩,⟨some 12,
 none,.faddr 2 (.t 1),0,[]⟩,⟨some 13,none,.load false 1 (.t 12),0,[]⟩,⟨some 14,none,.mov (.t 3),0,[]⟩,⟨some 15,none,.iaddr 1 (.t 13) (.t 14),0,[]⟩,⟨some 16,none,
 .load false 1 (.t 15),0,[]⟩,⟨some 17,none,.lenS (.t 16),0,[]⟩,⟨some 18,none,.bin .lss (.t 11) (.t 17),0,[]⟩,⟨some 19,none,.mov (.t 18),0,[]⟩,⟨some 20,some (19,true),
 .faddr 2 (.t 1),0,[]⟩,⟨some 21,some (19,true),.load false 1 (.t 20),0,[]⟩,⟨some 22,some (19,true),.mov (.t 3),0,[]⟩,⟨some 23,some (19,true),.iaddr 1 (.t 21) (.t 22),0,[]
 ⟩,⟨some 24,some (19,true),.load false 1 (.t 23),0,[]⟩,⟨some 25,some (19,true),.mov (.t 3),0,[]⟩,⟨some 26,some (19,true),.iaddr 1 (.t 24) (.t 25),0,[]⟩,⟨some 27,some (19,
 true),.load false 1 (.t 26),0,[]⟩,⟨some 28,some (19,true),.bin .eql (.t 27) (.c (.v (.int .i64 2))),0,[]⟩,⟨some 29,none,.pick (.t 19) (.t 28) (.c (.v (.bool false))),0,
 []⟩]) (.cond (.t 29) (.seq (.reg [⟨some 2,none,.mov (.c (.v (.bool true))),0,[]⟩]) .ret) .skip))) (.reg [⟨some 9,none,.mov (.t 3),0,[]⟩,⟨some 10,none,.bin .add (.t 9)
  (.c (.v (.int .i64 1))),0,[]⟩,⟨some 3,none,.mov (.t 10),0,[]⟩])))))) (.seq (.reg [⟨some 2,none,.mov (.c (.v (.bool false))),0,[]⟩]) .ret))⟩
theorem pf25_is : pfs 25 = some pf25 := by kernel_rfl
def pf29 : PF := ⟨66,[.t 2],.seq (.reg [⟨some 2,none,.mov (.c (.v (.int .i64 0))),0,[]⟩]) (.seq (.seq (.reg [⟨some 10,none,.mov (.t 0),0,[]⟩,⟨some 11,none,.call (.c (.fn 40 [])) [.t 10,
 .c (.fn 41 [])],0,[]⟩]) (.cond (.t 11) (.seq (.reg [⟨some 2,none,.mov (.c (.v (.int .i64 3))),0,[]⟩]) .ret) .skip)) (.seq (.reg [⟨some 12,none,.mkmap,0,[]⟩,⟨some 3,none,
 .mov (.t 12),0,[]⟩]) (.seq (.seq (.reg [⟨some 13,none,.mov (.t 0),0,[]⟩,⟨some 14,none,.lenS (.t 13),0,[]⟩,⟨some 15,none,.mov (.c (.v (.int .i64 0))),0,[]⟩])
  (.block 0 (.loop (.seq (.reg [⟨some 16,none,.bin .lss (.t 15) (.t 14),0,[]⟩]) (.seq (.cond (.t 16) .skip (.exit 0)) (.seq (.block 1 (.seq (.reg [⟨some 17,none,
 .iaddr 3 (.t 13) (.t 15),0,[]⟩,⟨some 18,none,.load true 3 (.t 17),0,[]⟩,⟨some 5,none,.alloc [.v (.int .i64 0),.v (.int .i64 0),.sl [] .nil],0,[]⟩,⟨none,none,
 .store 3 (.t 5) (.t 18),0,[]⟩]) (.seq (.seq (.reg [⟨some 20,none,.mov (.t 3),0,[]⟩,⟨some 21,none,.faddr 0 (.t 5),0,[]⟩,⟨some 22,none,.load false 1 (.t 21),0,[]⟩,
 ⟨some 23,none,.look (.v (.int .i64 0)) true false (.t 20) (.t 22),0,[]⟩,⟨some 19,none,.mov (.t 23),0,[]⟩,⟨some 24,none,.ext (.t 19) 0,0,[]⟩,⟨some 25,none,.ext (.t 19) 1,
 0,[]⟩,⟨some 6,none,.mov (.t 24),0,[]⟩,⟨some 7,none,.mov (.t 25),0,[]⟩]) (.seq (.reg [⟨some 26,none,.mov (.t 7),0,[]⟩,⟨some 27,none,.mov (.t 26),0,[]⟩,⟨some 28,some (27,
 true),.mov (.t 6),0,[]⟩,⟨some 29,some (27,true),.faddr 2 (.t 5),0,[]⟩,⟨some 30,some (27,true),.load false 1 (.t 29),0,[]⟩,⟨some 31,some (27,true),.iaddr 1 (.t 30)
  (.c (.v (.int .i64 0))),0,[]⟩,⟨some 32,some (27,true),.load false 1 (.t 31),0,[]⟩,⟨some 33,some (27,true),.lenS (.t 32),0,[]⟩,⟨some 34,some (27,true),.bin .neq (.t 28)
  (.t 33),0,[]⟩,⟨some 35,none,.pick (.t 27) (.t 34) (.c (.v (.bool false))),0,[]⟩]) (.cond (.t 35) (.seq (.reg [⟨some 2,none,.mov (.c (.v (.int .i64 1))),0,[]⟩]) .ret)
  .skip))) (.seq (.dreg [8] [⟨some 36,none,.mov (.t 3),0,[]⟩,⟨some 37,none,.faddr 0 (.t 5),1,[]⟩,⟨some 38,none,.load false 1 (.t 37),2,[1]⟩,⟨some 39,none,.faddr 2 (.t 5),
 3,[]⟩,⟨some 40,none,.load false 1 (.t 39),4,[3]⟩,⟨some 41,none,.iaddr 1 (.t 40) (.c (.v (.int .i64 0))),5,[4,3]⟩,⟨some 42,none,.load false 1 (.t 41),6,[5,4,3]⟩,⟨some 43,
 none,.lenS (.t 42),7,[6,5,4,3]⟩,⟨none,none,.mapup false (.t 36) (.t 38) (.t 43),8,[7,6,5,4,3,2,1,0]⟩]) (.seq (.seq (.reg [⟨some 45,none,.mov (.t 3),0,[]⟩,⟨some 46,none,
 .faddr 1 (.t 5),0,[]⟩,⟨some 47,none,.load false 1 (.t 46),0,[]⟩,⟨some 48,none,.look (.v (.int .i64 0)) true false (.t 45) (.t 47),0,[]⟩,⟨some 44,none,.mov (.t 48),0,[]⟩,
 ⟨some 49,none,.ext (.t 44) 0,0,[]⟩,⟨some 50,none,.ext (.t 44) 1,0,[]⟩,⟨some 8,none,.mov (.t 49),0,[]⟩,⟨some 9,none,.mov (.t 50),0,[]⟩]) (.seq (.reg [⟨some 51,none,
 .mov (.t 9),0,[]⟩,⟨some 52,none,.mov (.t 51),0,[]⟩,⟨some 53,some (52,true),.mov (.t 8),0,[]⟩,⟨some 54,some (52,true),.faddr 2 (.t 5),0,[]⟩,⟨some 55,some (52,true),
 .load false 1 (.t 54),0,[]⟩,⟨some 56,some (52,true),.lenS (.t 55),0,[]⟩,⟨some 57,some (52,true),.bin .neq (.t 53) (.t 56),0,[]⟩,⟨some 58,none,.pick (.t 52) (.t 57)
  (.c (.v (.bool false))),0,[]⟩]) (.cond (.t 58) (.seq (.reg [⟨some 2,none,.mov (.c (.v (.int .i64 1))),0,[]⟩]) .ret) .skip))) (.reg [⟨some 59,none,.mov (.t 3),0,[]⟩,
 ⟨some 60,none,.faddr 1 (.t 5),0,[]⟩,⟨some 61,none,.load false 1 (.t 60),0,[]⟩,⟨some 62,none,.faddr 2 (.t 5),0,[]⟩,⟨some 63,none,.load false 1 (.t 62),0,[]⟩,⟨some 64,
 none,.lenS (.t 63),0,[]⟩,⟨none,none,.mapup false (.t 59) (.t 61) (.t 64),0,[]⟩])))))) (.reg [⟨some 65,none,.bin .add (.t 15) (.c (.v (.int .i64 1))),0,[]⟩,⟨some 15,none,
 .mov (.t 65),0,[]⟩]))))))) (.seq (.reg [⟨some 2,none,.mov (.c (.v (.int .i64 0))),0,[]⟩]) .ret))))⟩
theorem pf29_is : pfs 29 = some pf29 := by kernel_rfl
def pf34 : PF := ⟨25,[.t 2],.seq (.reg [⟨some 1,none,.box (.t 0),0,[]⟩,⟨some 2,none,.mov (.c (.v (.bool false))),0,[]⟩]) (.seq (.seq (.reg [⟨some 5,none,.faddr 2 (.t 1),0,[]⟩,⟨some 6,
 none,.load false 1 (.t 5),0,[]⟩,⟨some 7,none,.lenS (.t 6),0,[]⟩,⟨some 8,none,.mov (.c (.v (.int .i64 0))),0,[]⟩]) (.block 0 (.loop (.seq (.reg [⟨some 9,none,
 .bin .lss (.t 8) (.t 7),0,[]⟩]) (.seq (.cond (.t 9) .skip (.exit 0)) (.seq (.block 1 (.seq (.reg [⟨some 10,none,.mov (.t 8),0,[]⟩,⟨some 11,none,.iaddr 1 (.t 6) (.t 8),0,
 []⟩,⟨some 12,none,.load false 1 (.t 11),0,[]⟩,⟨some 3,none,.mov (.t 10),0,[]⟩,⟨some 4,none,.mov (.t 12),0,[]⟩]) (.seq (.reg [⟨some 13,none,.mov (.t 3),0,[]⟩,⟨some 14,
 none,.mov (.t 4),0,[]⟩,⟨some 15,none,.lenS (.t 14),0,[]⟩,⟨some 16,none,.bin .lss (.t 13) (.t 15),0,[]⟩,⟨some 17,none,.mov (.t 16),0,[]⟩,⟨some 18,some (17,true),
 .mov (.t 4),0,[]⟩,⟨some 19,some (17,true),.mov (.t 3),0,[]⟩,⟨some 20,some (17,true),.iaddr 1 (.t 18) (.t 19),0,[]⟩,⟨some 21,some (17,true),.load false 1 (.t 20),0,[]⟩,
 ⟨some 22,some (17,true),.bin .eql (.t 21) (.c (.v (.int .i64 2))),0,[]⟩,⟨some 23,none,.pick (.t 17) (.t 22) (.c (.v (.bool false))),0,[]⟩]) (.cond (.t 23)
  (.seq (.reg [⟨some 2,none,.mov (.c (.v (.bool true))),0,[]⟩]) .ret) .skip)))) (.reg [⟨some 24,none,.bin .add (.t 8) (.c (.v (.int .i64 1))),0,[]⟩,⟨some 8,none,
 .mov (.t 24),0,[]⟩]))))))) (.seq (.reg [⟨some 2,none,.mov (.c (.v (.bool false))),0,[]⟩]) .ret))⟩
theorem pf34_is : pfs 34 = some pf34 := by kernel_rfl
def pf35 : PF := ⟨26,[.t 4],.seq (.reg [⟨some 4,none,.mov (.c (.v (.bool false))),0,[]⟩]) (.seq (.seq (.reg [⟨some 6,none,.mov (.t 0),0,[]⟩,⟨some 7,none,.lenS (.t 6),0,[]⟩,⟨some 8,none,
 .mov (.t 1),0,[]⟩,⟨some 9,none,.lenS (.t 8),0,[]⟩,⟨some 10,none,.bin .neq (.t 7) (.t 9),0,[]⟩]) (.cond (.t 10) (.seq (.reg [⟨some 4,none,.mov (.c (.v (.bool false))),0,
 []⟩]) .ret) .skip)) (.seq (.seq (.reg [⟨some 11,none,.mov (.t 0),0,[]⟩,⟨some 12,none,.lenS (.t 11),0,[]⟩,⟨some 13,none,.mov (.c (.v (.int .i64 0))),0,[]⟩])
  (.block 0 (.loop (.seq (.reg [⟨some 14,none,.bin .lss (.t 13) (.t 12),0,[]⟩]) (.seq (.cond (.t 14) .skip (.exit 0)) (.seq (.block 1 (.seq (.reg [⟨some 15,none,
 .mov (.t 13),0,[]⟩,⟨some 5,none,.mov (.t 15),0,[]⟩]) (.seq (.dreg [8] [⟨some 16,none,.mov (.t 0),0,[]⟩,⟨some 17,none,.mov (.t 5),1,[]⟩,⟨some 18,none,.iaddr 1 (.t 16)
  (.t 17),2,[1,0]⟩,⟨some 19,none,.load false 1 (.t 18),3,[2,1,0]⟩,⟨some 20,none,.mov (.t 1),4,[]⟩,⟨some 21,none,.mov (.t 5),5,[]⟩,⟨some 22,none,.iaddr 1 (.t 20) (.t 21),
 6,[5,4]⟩,⟨some 23,none,.load false 1 (.t 22),7,[6,5,4]⟩,⟨some 24,none,.bin .neq (.t 19) (.t 23),8,[7,6,5,4,3,2,1,0]⟩]) (.cond (.t 24) (.seq (.reg [⟨some 4,none,
 .mov (.c (.v (.bool false))),0,[]⟩]) .ret) .skip)))) (.reg [⟨some 25,none,.bin .add (.t 13) (.c (.v (.int .i64 1))),0,[]⟩,⟨some 13,none,.mov (.t 25),0,[]⟩])))))))
  (.seq (.reg [⟨some 4,none,.mov (.c (.v (.bool true))),0,[]⟩]) .ret)))⟩
theorem pf35_is : pfs 35 = some pf35 := by kernel_rfl
def pf36 : PF := ⟨12,[.t 2],.seq (.reg [⟨some 1,none,.box (.t 0),0,[]⟩,⟨some 2,none,.mov (.c (.sl [] .nil)),0,[]⟩]) (.seq (.dreg [8,0] [⟨some 3,none,.faddr 0 (.t 1),0,[]⟩,⟨some 4,none,
 .load false 1 (.t 3),1,[0]⟩,⟨some 5,none,.faddr 1 (.t 1),2,[]⟩,⟨some 6,none,.load false 1 (.t 5),3,[2]⟩,⟨some 7,none,.bsl (.v (.int .i64 0)) 2 [(0,1,.t 4),(1,1,.t 6)],4,
 [3,2,1,0]⟩,⟨some 8,none,.faddr 2 (.t 1),5,[]⟩,⟨some 9,none,.load false 1 (.t 8),6,[5]⟩,⟨some 10,none,.call (.c (.fn 50 [])) [.t 9],7,[6,5]⟩,⟨some 11,none,
 .app 1 none (.t 7) (.t 10),8,[7,6,5,4,3,2,1,0]⟩,⟨some 2,none,.mov (.t 11),9,[8,7,6,5,4,3,2,1,0]⟩]) .ret)⟩
theorem pf36_is : pfs 36 = some pf36 := by kernel_rfl
def pf37 : PF := ⟨79,[.c 4 true 3],.seq (.reg [⟨some 2,none,.box (.t 0),0,[]⟩,⟨some 3,none,.box (.t 1),0,[]⟩,⟨some 4,none,.alloc [.v (.int .i64 0),.v (.int .i64 0),.sl [] .nil],0,[]⟩])
  (.seq (.reg [⟨some 13,none,.faddr 0 (.t 2),0,[]⟩,⟨some 14,none,.load false 1 (.t 13),0,[]⟩,⟨some 15,none,.faddr 1 (.t 3),0,[]⟩,⟨some 16,none,.load false 1 (.t 15),0,[]⟩
 ,⟨some 17,none,.build [.v (.int .i64 0),.v (.int .i64 0),.sl [] .nil] [(0,1,.t 14),(1,1,.t 16)],0,[]⟩,⟨some 5,none,.alloc [.v (.int .i64 0),.v (.int .i64 0),.sl [] .nil]
 ,0,[]⟩,⟨none,none,.store 3 (.t 5) (.t 17),0,[]⟩]) (.seq (.seq (.reg [⟨some 18,none,.faddr 2 (.t 3),0,[]⟩,⟨some 19,none,.load false 1 (.t 18),0,[]⟩,⟨some 20,none,
 .lenS (.t 19),0,[]⟩,⟨some 21,none,.mov (.c (.v (.int .i64 0))),0,[]⟩]) (.block 0 (.loop (.seq (.reg [⟨some 22,none,.bin .lss (.t 21) (.t 20),0,[]⟩]) (.seq (.cond (.t 22)
  .skip (.exit 0)) (.seq (.block 1 (.seq (.reg [⟨some 23,none,.iaddr 1 (.t 19) (.t 21),0,[]⟩,⟨some 24,none,.load false 1 (.t 23),0,[]⟩,⟨some 7,none,.mov (.t 24),0,[]⟩])
  (.seq (.reg [⟨some 25,none,.faddr 2 (.t 2),0,[]⟩,⟨some 26,none,.load false 1 (.t 25),0,[]⟩,⟨some 27,none,.iaddr 1 (.t 26) (.c (.v (.int .i64 0))),0,[]⟩,⟨some 28,none,
 .load false 1 (.t 27),0,[]⟩,⟨some 29,none,.lenS (.t 28),0,[]⟩,⟨some 30,none,.mksl (.v (.int .i64 0)) 1 false (.t 29),0,[]⟩,⟨some 8,none,.mov (.t 30),0,[]⟩])
  (.seq (.seq (.reg [⟨some 31,none,.mov (.t 7),0,[]⟩,⟨some 32,none,.lenS (.t 31),0,[]⟩,⟨some 33,none,.mov (.c (.v (.int .i64 0))),0,[]⟩])
  (.block 2 (.loop (.seq (.reg [⟨some 34,none,.bin .lss (.t 33) (.t 32),0,[]⟩]) (.seq (.cond (.t 34) .skip (.exit 2)) (.seq (.block 3 (.seq (.reg [⟨some 35,none,
 .mov (.t 33),0,[]⟩,⟨some 36,none,.iaddr 1 (.t 31) (.t 33),0,[]⟩,⟨some 37,none,.load false 1 (.t 36),0,[]⟩,⟨some 9,none,.mov (.t 35),0,[]⟩,⟨some 10,none,.mov (.t 37),0,[]
 ⟩]) (.seq (.seq (.reg [⟨some 38,none,.mov (.t 10),0,[]⟩,⟨some 39,none,.bin .eql (.t 38) (.c (.v (.int .i64 0))),0,[]⟩]) (.cond (.t 39) (.exit 3) .skip))
  (.seq (.reg [⟨some 40,none,.faddr 2 (.t 2),0,[]⟩,⟨some 41,none,.load false 1 (.t 40),0,[]⟩,⟨some 42,none,.mov (.t 9),0,[]⟩,⟨some 43,none,.iaddr 1 (.t 41) (.t 42),0,[]⟩,
 ⟨some 44,none,.load false 1 (.t 43),0,[]⟩,⟨some 45,none,.lenS (.t 44),0,[]⟩,⟨some 46,none,.mov (.c (.v (.int .i64 0))),0,[]⟩]) (.block 4 (.loop (.seq (.reg [⟨some 47,
 none,.bin .lss (.t 46) (.t 45),0,[]⟩]) (.seq (.cond (.t 47) .skip (.exit 4)) (.seq (.block 5 (.seq (.reg [⟨some 48,none,.mov (.t 46),0,[]⟩,⟨some 49,none,.iaddr 1 (.t 44)
  (.t 46),0,[]⟩,⟨some 50,none,.load false 1 (.t 49),0,[]⟩,⟨some 11,none,.mov (.t 48),0,[]⟩,⟨some 12,none,.mov (.t 50),0,[]⟩]) (.seq (.reg [⟨some 51,none,.mov (.t 12),0,[]
 ⟩,⟨some 52,none,.bin .neq (.t 51) (.c (.v (.int .i64 0))),0,[]⟩,⟨some 53,none,.mov (.t 52),0,[]⟩,⟨some 54,some (53,true),.mov (.t 10),0,[]⟩,⟨some 55,some (53,true),
 .mov (.t 12),0,[]⟩,⟨some 56,some (53,true),.max (.t 54) (.t 55),0,[]⟩,⟨some 57,some (53,true),.mov (.t 8),0,[]⟩,⟨some 58,some (53,true),.mov (.t 11),0,[]⟩,⟨some 59,
 some (53,true),.iaddr 1 (.t 57) (.t 58),0,[]⟩,⟨some 60,some (53,true),.load false 1 (.t 59),0,[]⟩,⟨some 61,some (53,true),.bin .gtr (.t 56) (.t 60),0,[]⟩,⟨some 62,none,
 .pick (.t 53) (.t 61) (.c (.v (.bool false))),0,[]⟩]) (.cond (.t 62) (.reg [⟨some 63,none,.mov (.t 8),0,[]⟩,⟨some 64,none,.mov (.t 11),0,[]⟩,⟨some 65,none,.mov (.t 10),
 0,[]⟩,⟨some 66,none,.mov (.t 12),0,[]⟩,⟨some 67,none,.max (.t 65) (.t 66),0,[]⟩,⟨some 68,none,.iaddr 1 (.t 63) (.t 64),0,[]⟩,⟨none,none,.store 1 (.t 68) (.t 67),0,[]⟩])
  .skip)))) (.reg [⟨some 69,none,.bin .add (.t 46) (.c (.v (.int .i64 1))),0,[]⟩,⟨some 46,none,.mov (.t 69),0,[]⟩])))))))))) (.reg [⟨some 70,none,.bin .add (.t 33)
  (.c (.v (.int .i64 1))),0,[]⟩,⟨some 33,none,.mov (.t 70),0,[]⟩]))))))) (.reg [⟨some 71,none,.faddr 2 (.t 5),0,[]⟩,⟨some 72,none,.load false 1 (.t 71),0,[]⟩,⟨some 73,
 none,.mov (.t 8),0,[]⟩,⟨some 74,none,.bsl (.sl [] .nil) 1 [(0,1,.t 73)],0,[]⟩,⟨some 75,none,.app 1 none (.t 72) (.t 74),0,[]⟩,⟨some 76,none,.faddr 2 (.t 5),0,[]⟩,⟨none,
 none,.store 1 (.t 76) (.t 75),0,[]⟩]))))) (.reg [⟨some 77,none,.bin .add (.t 21) (.c (.v (.int .i64 1))),0,[]⟩,⟨some 21,none,.mov (.t 77),0,[]⟩])))))))
  (.seq (.reg [⟨some 78,none,.load true 3 (.t 5),0,[]⟩,⟨none,none,.store 3 (.t 4) (.t 78),0,[]⟩]) .ret)))⟩
theorem pf37_is : pfs 37 = some pf37 := by kernel_rfl
def pf40 : PF := ⟨9,[.t 4],.seq (.reg [⟨some 4,none,.mov (.c (.v (.bool false))),0,[]⟩]) (.seq (.reg [⟨some 5,none,.mov (.t 0),0,[]⟩,⟨some 6,none,.mov (.t 1),0,[]⟩,⟨some 7,none,
 .call (.c (.fn 53 [])) [.t 5,.t 6],0,[]⟩,⟨some 8,none,.bin .geq (.t 7) (.c (.v (.int .i64 0))),0,[]⟩,⟨some 4,none,.mov (.t 8),0,[]⟩]) .ret)⟩
theorem pf40_is : pfs 40 = some pf40 := by kernel_rfl
def pf41 : PF := ⟨6,[.t 2],.seq (.reg [⟨some 1,none,.box (.t 0),0,[]⟩,⟨some 2,none,.mov (.c (.v (.bool false))),0,[]⟩]) (.seq (.reg [⟨some 3,none,.load true 3 (.t 1),0,[]⟩,⟨some 4,none,
 .call (.c (.fn 42 [])) [.t 3],0,[]⟩,⟨some 5,none,.un .not (.t 4),0,[]⟩,⟨some 2,none,.mov (.t 5),0,[]⟩]) .ret)⟩
theorem pf41_is : pfs 41 = some pf41 := by kernel_rfl
def pf42 : PF := ⟨42,[.t 2],.seq (.reg [⟨some 1,none,.box (.t 0),0,[]⟩,⟨some 2,none,.mov (.c (.v (.bool false))),0,[]⟩]) (.seq (.seq (.reg [⟨some 4,none,.faddr 0 (.t 1),0,[]⟩,⟨some 5,
 none,.load false 1 (.t 4),0,[]⟩,⟨some 6,none,.bin .lss (.t 5) (.c (.v (.int .i64 0))),0,[]⟩,⟨some 7,none,.mov (.t 6),0,[]⟩,⟨some 8,some (7,false),.faddr 1 (.t 1),0,[]⟩,
 ⟨some 9,some (7,false),.load false 1 (.t 8),0,[]⟩,⟨some 10,some (7,false),.bin .lss (.t 9) (.c (.v (.int .i64 0))),0,[]⟩,⟨some 11,none,.pick (.t 7) (.c (.v (.bool true))
 ) (.t 10),0,[]⟩,⟨some 12,none,.mov (.t 11),0,[]⟩,⟨some 13,some (12,false),.faddr 2 (.t 1),0,[]⟩,⟨some 14,some (12,false),.load false 1 (.t 13),0,[]⟩,⟨some 15,some (12,
 false),.lenS (.t 14),0,[]⟩,⟨some 16,some (12,false),.bin .lss (.t 15) (.c (.v (.int .i64 1))),0,[]⟩,⟨some 17,none,.pick (.t 12) (.c (.v (.bool true))) (.t 16),0,[]⟩,
 ⟨some 18,none,.mov (.t 17),0,[]⟩,⟨some 19,some (18,false),.faddr 2 (.t 1),0,[]⟩,⟨some 20,some (18,false),.load false 1 (.t 19),0,[]⟩,⟨some 21,some (18,false),
 .lenS (.t 20),0,[]⟩,⟨some 22,some (18,false),.bin .gtr (.t 21) (.c (.v (.int .i64 16))),0,[]⟩,⟨some 23,none,.pick (.t 18) (.c (.v (.bool true))) (.t 22),0,[]⟩])
  (.cond (.t 23) (.seq (.reg [⟨some 2,none,.mov (.c (.v (.bool false))),0,[]⟩]) .ret) .skip)) (.seq (.reg [⟨some 24,none,.faddr 2 (.t 1),0,[]⟩,⟨some 25,none,
 .load false 1 (.t 24),0,[]⟩,⟨some 26,none,.iaddr 1 (.t 25) (.c (.v (.int .i64 0))),0,[]⟩,⟨some 27,none,.load false 1 (.t 26),0,[]⟩,⟨some 28,none,.lenS (.t 27),0,[]⟩,
 ⟨some 3,none,.alloc [.v (.int .i64 0)],0,[]⟩,⟨none,none,.store 1 (.t 3) (.t 28),0,[]⟩]) (.seq (.reg [⟨some 29,none,.load false 1 (.t 3),0,[]⟩,⟨some 30,none,
 .bin .geq (.t 29) (.c (.v (.int .i64 1))),0,[]⟩,⟨some 31,none,.mov (.t 30),0,[]⟩,⟨some 32,some (31,true),.load false 1 (.t 3),0,[]⟩,⟨some 33,some (31,true),
 .bin .leq (.t 32) (.c (.v (.int .i64 16))),0,[]⟩,⟨some 34,none,.pick (.t 31) (.t 33) (.c (.v (.bool false))),0,[]⟩,⟨some 35,none,.mov (.t 34),0,[]⟩,⟨some 36,some (35,
 true),.faddr 2 (.t 1),0,[]⟩,⟨some 37,some (35,true),.load false 1 (.t 36),0,[]⟩,⟨some 38,some (35,true),.mkfn 55 [.t 3],0,[]⟩,⟨some 39,some (35,true),
 .call (.c (.fn 54 [])) [.t 37,.t 38],0,[]⟩,⟨some 40,some (35,true),.un .not (.t 39),0,[]⟩,⟨some 41,none,.pick (.t 35) (.t 40) (.c (.v (.bool false))),0,[]⟩,⟨some 2,none,
 .mov (.t 41),0,[]⟩]) .ret)))⟩
theorem pf42_is : pfs 42 = some pf42 := by kernel_rfl
def pf47 : PF := ⟨10,[.t 4],.seq (.reg [⟨some 2,none,.box (.t 0),0,[]⟩,⟨some 3,none,.box (.t 1),0,[]⟩,⟨some 4,none,.mov (.c (.v (.int .i64 0))),0,[]⟩]) (.seq (.dreg [3,0,0] [⟨some 5,
 none,.load true 3 (.t 2),0,[]⟩,⟨some 6,none,.call (.c (.fn 36 [])) [.t 5],1,[0]⟩,⟨some 7,none,.load true 3 (.t 3),2,[]⟩,⟨some 8,none,.call (.c (.fn 36 [])) [.t 7],3,[1,
 0,2]⟩,⟨some 9,none,.call (.c (.fn 48 [])) [.t 6,.t 8],4,[3,2,1,0]⟩,⟨some 4,none,.mov (.t 9),5,[4,3,2,1,0]⟩]) .ret)⟩
theorem pf47_is : pfs 47 = some pf47 := by kernel_rfl
def pf48 : PF := ⟨36,[.t 4],.seq (.reg [⟨some 4,none,.mov (.c (.v (.int .i64 0))),0,[]⟩]) (.seq (.seq (.reg [⟨some 9,none,.mov (.t 0),0,[]⟩,⟨some 10,none,.lenS (.t 9),0,[]⟩,⟨some 11,
 none,.mov (.c (.v (.int .i64 0))),0,[]⟩]) (.block 0 (.loop (.seq (.reg [⟨some 12,none,.bin .lss (.t 11) (.t 10),0,[]⟩]) (.seq (.cond (.t 12) .skip (.exit 0))
  (.seq (.block 1 (.seq (.reg [⟨some 13,none,.mov (.t 11),0,[]⟩,⟨some 14,none,.iaddr 1 (.t 9) (.t 11),0,[]⟩,⟨some 15,none,.load false 1 (.t 14),0,[]⟩,⟨some 5,none,
 .mov (.t 13),0,[]⟩,⟨some 6,none,.mov (.t 15),0,[]⟩]) (.seq (.seq (.reg [⟨some 16,none,.mov (.t 5),0,[]⟩,⟨some 17,none,.mov (.t 1),0,[]⟩,⟨some 18,none,.lenS (.t 17),0,[]⟩
 ,⟨some 19,none,.bin .geq (.t 16) (.t 18),0,[]⟩]) (.cond (.t 19) (.seq (.reg [⟨some 4,none,.mov (.c (.v (.int .i64 1))),0,[]⟩]) .ret) .skip)) (.seq (.reg [⟨some 20,none,
 .mov (.t 1),0,[]⟩,⟨some 21,none,.mov (.t 5),0,[]⟩,⟨some 22,none,.iaddr 1 (.t 20) (.t 21),0,[]⟩,⟨some 23,none,.load false 1 (.t 22),0,[]⟩,⟨some 7,none,.mov (.t 23),0,[]⟩]
 ) (.seq (.reg [⟨some 24,none,.mov (.t 6),0,[]⟩,⟨some 25,none,.mov (.t 7),0,[]⟩,⟨some 26,none,.call (.c (.fn 62 [])) [.t 24,.t 25],0,[]⟩,⟨some 8,none,.mov (.t 26),0,[]⟩])
  (.seq (.reg [⟨some 27,none,.mov (.t 8),0,[]⟩,⟨some 28,none,.bin .neq (.t 27) (.c (.v (.int .i64 0))),0,[]⟩]) (.cond (.t 28) (.seq (.reg [⟨some 29,none,.mov (.t 8),0,[]⟩
 ,⟨some 4,none,.mov (.t 29),0,[]⟩]) .ret) .skip))))))) (.reg [⟨some 30,none,.bin .add (.t 11) (.c (.v (.int .i64 1))),0,[]⟩,⟨some 11,none,.mov (.t 30),0,[]⟩])))))))
  (.seq (.seq (.reg [⟨some 31,none,.mov (.t 0),0,[]⟩,⟨some 32,none,.lenS (.t 31),0,[]⟩,⟨some 33,none,.mov (.t 1),0,[]⟩,⟨some 34,none,.lenS (.t 33),0,[]⟩,⟨some 35,none,
 .bin .lss (.t 32) (.t 34),0,[]⟩]) (.cond (.t 35) (.seq (.reg [⟨some 4,none,.mov (.c (.v (.int .i64 (-1)))),0,[]⟩]) .ret) .skip)) (.seq (.reg [⟨some 4,none,
 .mov (.c (.v (.int .i64 0))),0,[]⟩]) .ret)))⟩
theorem pf48_is : pfs 48 = some pf48 := by kernel_rfl
def pf50 : PF := ⟨36,[.t 2],.seq (.reg [⟨some 2,none,.mov (.c (.sl [] .nil)),0,[]⟩]) (.seq (.reg [⟨some 3,none,.mov (.c (.v (.int .i64 0))),0,[]⟩]) (.seq (.seq (.reg [⟨some 9,none,
 .mov (.t 0),0,[]⟩,⟨some 10,none,.lenS (.t 9),0,[]⟩,⟨some 11,none,.mov (.c (.v (.int .i64 0))),0,[]⟩]) (.block 0 (.loop (.seq (.reg [⟨some 12,none,.bin .lss (.t 11)
  (.t 10),0,[]⟩]) (.seq (.cond (.t 12) .skip (.exit 0)) (.seq (.block 1 (.seq (.reg [⟨some 13,none,.iaddr 1 (.t 9) (.t 11),0,[]⟩,⟨some 14,none,.load false 1 (.t 13),0,[]⟩
 ,⟨some 5,none,.mov (.t 14),0,[]⟩]) (.seq (.reg [⟨some 15,none,.mov (.t 3),0,[]⟩,⟨some 16,none,.mov (.t 5),0,[]⟩,⟨some 17,none,.lenS (.t 16),0,[]⟩,⟨some 18,none,
 .bin .add (.t 15) (.t 17),0,[]⟩,⟨some 3,none,.mov (.t 18),0,[]⟩]) (.seq (.reg [⟨some 19,none,.mov (.t 3),0,[]⟩,⟨some 20,none,.bin .lss (.t 19) (.c (.v (.int .i64 0))),0,
 []⟩]) (.cond (.t 20) (.reg [⟨some 21,none,.mkif 9 (.c (.v (.string (ByteArray.mk #[108,101,110,32,111,117,116,32,111,102,32,114,97,110,103,101])))),0,[]⟩,⟨none,none,
 .panic (.t 21),0,[]⟩]) .skip))))) (.reg [⟨some 22,none,.bin .add (.t 11) (.c (.v (.int .i64 1))),0,[]⟩,⟨some 11,none,.mov (.t 22),0,[]⟩]))))))) (.seq (.reg [⟨some 23,
 none,.mov (.t 3),0,[]⟩,⟨some 24,none,.call (.c (.fn 63 [])) [.c (.sl [] .nil),.t 23],0,[]⟩,⟨some 6,none,.mov (.t 24),0,[]⟩]) (.seq (.seq (.reg [⟨some 25,none,.mov (.t 0)
 ,0,[]⟩,⟨some 26,none,.lenS (.t 25),0,[]⟩,⟨some 27,none,.mov (.c (.v (.int .i64 0))),0,[]⟩]) (.block 2 (.loop (.seq (.reg [⟨some 28,none,.bin .lss (.t 27) (.t 26),0,[]⟩])
  (.seq (.cond (.t 28) .skip (.exit 2)) (.seq (.block 3 (.seq (.reg [⟨some 29,none,.iaddr 1 (.t 25) (.t 27),0,[]⟩,⟨some 30,none,.load false 1 (.t 29),0,[]⟩,⟨some 8,none,
 .mov (.t 30),0,[]⟩]) (.reg [⟨some 31,none,.mov (.t 6),0,[]⟩,⟨some 32,none,.mov (.t 8),0,[]⟩,⟨some 33,none,.app 1 none (.t 31) (.t 32),0,[]⟩,⟨some 6,none,.mov (.t 33),0,
 []⟩]))) (.reg [⟨some 34,none,.bin .add (.t 27) (.c (.v (.int .i64 1))),0,[]⟩,⟨some 27,none,.mov (.t 34),0,[]⟩]))))))) (.seq (.reg [⟨some 35,none,.mov (.t 6),0,[]⟩,
 ⟨some 2,none,.mov (.t 35),0,[]⟩]) .ret)))))⟩
theorem pf50_is : pfs 50 = some pf50 := by kernel_rfl
def pf53 : PF := ⟨19,[.t 4],.seq (.reg [⟨some 4,none,.mov (.c (.v (.int .i64 0))),0,[]⟩]) (.seq (.seq (.reg [⟨some 6,none,.mov (.t 0),0,[]⟩,⟨some 7,none,.lenS (.t 6),0,[]⟩,⟨some 8,none,
 .mov (.c (.v (.int .i64 0))),0,[]⟩]) (.block 0 (.loop (.seq (.reg [⟨some 9,none,.bin .lss (.t 8) (.t 7),0,[]⟩]) (.seq (.cond (.t 9) .skip (.exit 0))
  (.seq (.block 1 (.seq (.reg [⟨some 10,none,.mov (.t 8),0,[]⟩,⟨some 5,none,.mov (.t 10),0,[]⟩]) (.seq (.reg [⟨some 11,none,.mov (.t 1),0,[]⟩,⟨some 12,none,.mov (.t 0),0,
 []⟩,⟨some 13,none,.mov (.t 5),0,[]⟩,⟨some 14,none,.iaddr 3 (.t 12) (.t 13),0,[]⟩,⟨some 15,none,.load true 3 (.t 14),0,[]⟩,⟨some 16,none,.call (.t 11) [.t 15],0,[]⟩])
  (.cond (.t 16) (.seq (.reg [⟨some 17,none,.mov (.t 5),0,[]⟩,⟨some 4,none,.mov (.t 17),0,[]⟩]) .ret) .skip)))) (.reg [⟨some 18,none,.bin .add (.t 8)
  (.c (.v (.int .i64 1))),0,[]⟩,⟨some 8,none,.mov (.t 18),0,[]⟩]))))))) (.seq (.reg [⟨some 4,none,.mov (.c (.v (.int .i64 (-1)))),0,[]⟩]) .ret))⟩
theorem pf53_is : pfs 53 = some pf53 := by kernel_rfl
def pf54 : PF := ⟨9,[.t 4],.seq (.reg [⟨some 4,none,.mov (.c (.v (.bool false))),0,[]⟩]) (.seq (.reg [⟨some 5,none,.mov (.t 0),0,[]⟩,⟨some 6,none,.mov (.t 1),0,[]⟩,⟨some 7,none,
 .call (.c (.fn 64 [])) [.t 5,.t 6],0,[]⟩,⟨some 8,none,.bin .geq (.t 7) (.c (.v (.int .i64 0))),0,[]⟩,⟨some 4,none,.mov (.t 8),0,[]⟩]) .ret)⟩
theorem pf54_is : pfs 54 = some pf54 := by kernel_rfl
def pf55 : PF := ⟨12,[.t 3],.seq (.reg [⟨some 3,none,.mov (.c (.v (.bool false))),0,[]⟩]) (.seq (.reg [⟨some 4,none,.mov (.t 0),0,[]⟩,⟨some 5,none,.lenS (.t 4),0,[]⟩,⟨some 6,none,
 .load false 1 (.t 1),0,[]⟩,⟨some 7,none,.bin .neq (.t 5) (.t 6),0,[]⟩,⟨some 8,none,.mov (.t 7),0,[]⟩,⟨some 9,some (8,false),.mov (.t 0),0,[]⟩,⟨some 10,some (8,false),
 .call (.c (.fn 56 [])) [.t 9,.c (.fn 57 [])],0,[]⟩,⟨some 11,none,.pick (.t 8) (.c (.v (.bool true))) (.t 10),0,[]⟩,⟨some 3,none,.mov (.t 11),0,[]⟩]) .ret)⟩
theorem pf55_is : pfs 55 = some pf55 := by kernel_rfl
def pf56 : PF := ⟨9,[.t 4],.seq (.reg [⟨some 4,none,.mov (.c (.v (.bool false))),0,[]⟩]) (.seq (.reg [⟨some 5,none,.mov (.t 0),0,[]⟩,⟨some 6,none,.mov (.t 1),0,[]⟩,⟨some 7,none,
 .call (.c (.fn 65 [])) [.t 5,.t 6],0,[]⟩,⟨some 8,none,.bin .geq (.t 7) (.c (.v (.int .i64 0))),0,[]⟩,⟨some 4,none,.mov (.t 8),0,[]⟩]) .ret)⟩
theorem pf56_is : pfs 56 = some pf56 := by kernel_rfl
def pf57 : PF := ⟨9,[.t 2],.seq (.reg [⟨some 2,none,.mov (.c (.v (.bool false))),0,[]⟩]) (.seq (.reg [⟨some 3,none,.mov (.t 0),0,[]⟩,⟨some 4,none,.bin .lss (.t 3) (.c (.v (.int .i64 0)))
 ,0,[]⟩,⟨some 5,none,.mov (.t 4),0,[]⟩,⟨some 6,some (5,false),.mov (.t 0),0,[]⟩,⟨some 7,some (5,false),.bin .gtr (.t 6) (.c (.v (.int .i64 2))),0,[]⟩,⟨some 8,none,
 .pick (.t 5) (.c (.v (.bool true))) (.t 7),0,[]⟩,⟨some 2,none,.mov (.t 8),0,[]⟩]) .ret)⟩
theorem pf57_is : pfs 57 = some pf57 := by kernel_rfl
def pf62 : PF := ⟨20,[.t 4],.seq (.reg [⟨some 4,none,.mov (.c (.v (.int .i64 0))),0,[]⟩]) (.seq (.reg [⟨some 7,none,.mov (.t 0),0,[]⟩,⟨some 8,none,.call (.c (.fn 77 [])) [.t 7],0,[]⟩,
 ⟨some 5,none,.mov (.t 8),0,[]⟩]) (.seq (.reg [⟨some 9,none,.mov (.t 1),0,[]⟩,⟨some 10,none,.call (.c (.fn 77 [])) [.t 9],0,[]⟩,⟨some 6,none,.mov (.t 10),0,[]⟩])
  (.seq (.seq (.reg [⟨some 11,none,.mov (.t 5),0,[]⟩]) (.cond (.t 11) (.seq (.seq (.reg [⟨some 12,none,.mov (.t 6),0,[]⟩]) (.cond (.t 12) (.seq (.reg [⟨some 4,none,
 .mov (.c (.v (.int .i64 0))),0,[]⟩]) .ret) .skip)) (.seq (.reg [⟨some 4,none,.mov (.c (.v (.int .i64 (-1)))),0,[]⟩]) .ret)) .skip)) (.seq (.seq (.reg [⟨some 13,none,
 .mov (.t 6),0,[]⟩]) (.cond (.t 13) (.seq (.reg [⟨some 4,none,.mov (.c (.v (.int .i64 1))),0,[]⟩]) .ret) .skip)) (.seq (.seq (.reg [⟨some 14,none,.mov (.t 0),0,[]⟩,
 ⟨some 15,none,.mov (.t 1),0,[]⟩,⟨some 16,none,.bin .lss (.t 14) (.t 15),0,[]⟩]) (.cond (.t 16) (.seq (.reg [⟨some 4,none,.mov (.c (.v (.int .i64 (-1)))),0,[]⟩]) .ret)
  .skip)) (.seq (.seq (.reg [⟨some 17,none,.mov (.t 0),0,[]⟩,⟨some 18,none,.mov (.t 1),0,[]⟩,⟨some 19,none,.bin .gtr (.t 17) (.t 18),0,[]⟩]) (.cond (.t 19)
  (.seq (.reg [⟨some 4,none,.mov (.c (.v (.int .i64 1))),0,[]⟩]) .ret) .skip)) (.seq (.reg [⟨some 4,none,.mov (.c (.v (.int .i64 0))),0,[]⟩]) .ret)))))))⟩
theorem pf62_is : pfs 62 = some pf62 := by kernel_rfl
def pf64 : PF := ⟨19,[.t 4],.seq (.reg [⟨some 4,none,.mov (.c (.v (.int .i64 0))),0,[]⟩]) (.seq (.seq (.reg [⟨some 6,none,.mov (.t 0),0,[]⟩,⟨some 7,none,.lenS (.t 6),0,[]⟩,⟨some 8,none,
 .mov (.c (.v (.int .i64 0))),0,[]⟩]) (.block 0 (.loop (.seq (.reg [⟨some 9,none,.bin .lss (.t 8) (.t 7),0,[]⟩]) (.seq (.cond (.t 9) .skip (.exit 0))
  (.seq (.block 1 (.seq (.reg [⟨some 10,none,.mov (.t 8),0,[]⟩,⟨some 5,none,.mov (.t 10),0,[]⟩]) (.seq (.reg [⟨some 11,none,.mov (.t 1),0,[]⟩,⟨some 12,none,.mov (.t 0),0,
 []⟩,⟨some 13,none,.mov (.t 5),0,[]⟩,⟨some 14,none,.iaddr 1 (.t 12) (.t 13),0,[]⟩,⟨some 15,none,.load false 1 (.t 14),0,[]⟩,⟨some 16,none,.call (.t 11) [.t 15],0,[]⟩])
  (.cond (.t 16) (.seq (.reg [⟨some 17,none,.mov (.t 5),0,[]⟩,⟨some 4,none,.mov (.t 17),0,[]⟩]) .ret) .skip)))) (.reg [⟨some 18,none,.bin .add (.t 8)
  (.c (.v (.int .i64 1))),0,[]⟩,⟨some 8,none,.mov (.t 18),0,[]⟩]))))))) (.seq (.reg [⟨some 4,none,.mov (.c (.v (.int .i64 (-1)))),0,[]⟩]) .ret))⟩
theorem pf64_is : pfs 64 = some pf64 := by kernel_rfl
def pf65 : PF := ⟨19,[.t 4],.seq (.reg [⟨some 4,none,.mov (.c (.v (.int .i64 0))),0,[]⟩]) (.seq (.seq (.reg [⟨some 6,none,.mov (.t 0),0,[]⟩,⟨some 7,none,.lenS (.t 6),0,[]⟩,⟨some 8,none,
 .mov (.c (.v (.int .i64 0))),0,[]⟩]) (.block 0 (.loop (.seq (.reg [⟨some 9,none,.bin .lss (.t 8) (.t 7),0,[]⟩]) (.seq (.cond (.t 9) .skip (.exit 0))
  (.seq (.block 1 (.seq (.reg [⟨some 10,none,.mov (.t 8),0,[]⟩,⟨some 5,none,.mov (.t 10),0,[]⟩]) (.seq (.reg [⟨some 11,none,.mov (.t 1),0,[]⟩,⟨some 12,none,.mov (.t 0),0,
 []⟩,⟨some 13,none,.mov (.t 5),0,[]⟩,⟨some 14,none,.iaddr 1 (.t 12) (.t 13),0,[]⟩,⟨some 15,none,.load false 1 (.t 14),0,[]⟩,⟨some 16,none,.call (.t 11) [.t 15],0,[]⟩])
  (.cond (.t 16) (.seq (.reg [⟨some 17,none,.mov (.t 5),0,[]⟩,⟨some 4,none,.mov (.t 17),0,[]⟩]) .ret) .skip)))) (.reg [⟨some 18,none,.bin .add (.t 8)
  (.c (.v (.int .i64 1))),0,[]⟩,⟨some 8,none,.mov (.t 18),0,[]⟩]))))))) (.seq (.reg [⟨some 4,none,.mov (.c (.v (.int .i64 (-1)))),0,[]⟩]) .ret))⟩
theorem pf65_is : pfs 65 = some pf65 := by kernel_rfl
def pf77 : PF := ⟨6,[.t 2],.seq (.reg [⟨some 2,none,.mov (.c (.v (.bool false))),0,[]⟩]) (.seq (.reg [⟨some 3,none,.mov (.t 0),0,[]⟩,⟨some 4,none,.mov (.t 0),0,[]⟩,⟨some 5,none,
 .bin .neq (.t 3) (.t 4),0,[]⟩,⟨some 2,none,.mov (.t 5),0,[]⟩]) .ret)⟩
theorem pf77_is : pfs 77 = some pf77 := by kernel_rfl
end Go.Proofs.Eng
