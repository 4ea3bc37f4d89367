/- What the rows' list of laid variables gives. No conditions beyond those in the theorems. -/
import Derived.Test.YtodnkbnbjhcikaaDoorFW
import Derived.Test.YtodnkbnbjhcikaaDoorJ7
import Derived.Test.YtodnkbnbjhcikaaDoorG4
import Derived.Test.YtodnkbnbjhcikaaDoorRows
import Derived.Lib.LaidTab
import Derived.Lay
import Derived.MakeChecks
import Derived.ProofKit
set_option linter.all false
set_option linter.deprecated false
set_option linter.unnecessarySimpa false
set_option linter.unusedVariables false
set_option linter.unusedSimpArgs false
set_option linter.defProp false
namespace Go.Proofs.Eng.T
open Go Go.Proofs Go.Proofs.Eng
def sharedT : List Nat := [28, 39, 51, 52]
def md (f : Nat) : Md := if sharedT.contains f then .shared else .pure
def bf : Bf := ⟨false, fun g => sharedT.contains g, fun _ _ _ _ => none⟩
noncomputable def pfs (f : Nat) : Option PF := if f = 17 then some ⟨0, [], .ora termO⟩ else if f = 26 then some ⟨0, [], .ora few26O⟩ else if f = 27 then some ⟨0, [], .ora trueO⟩ else prepF Tryd.prog bf f
theorem pfsOK : PfsOK Tryd.prog pfs := fun f pf h => by
  unfold pfs at h
  split at h
  · rename_i hf
    subst hf
    simp only [Option.some.injEq] at h; subst h
    exact .inr (.inl ⟨_, rfl, term_ok⟩)
  · split at h
    · rename_i hf
      subst hf
      simp only [Option.some.injEq] at h; subst h
      exact .inr (.inl ⟨_, rfl, few_ok⟩)
    · split at h
      · rename_i hf
        subst hf
        simp only [Option.some.injEq] at h; subst h
        exact .inr (.inl ⟨_, rfl, true_ok⟩)
      · exact .inl ⟨_, h⟩
set_option maxRecDepth 100000
def pf10 : PF := ⟨47,[.t 2],.seq (.reg [⟨some 2,none,.mov (.c (.v (.bool false))),0,[]⟩]) (.seq (.reg [⟨some 11,none,.mov (.t 0),0,[]⟩,⟨some 12,none,.call (.c (.fn 26 [])) [.t 11],0,[]⟩,
 ⟨some 10,none,.mov (.t 12),0,[]⟩,⟨some 13,none,.ext (.t 10) 0,0,[]⟩,⟨some 14,none,.ext (.t 10) 1,0,[]⟩,⟨some 3,none,.mov (.t 13),0,[]⟩,⟨some 4,none,.mov (.t 14),0,[]⟩])
  (.seq (.seq (.reg [⟨some 15,none,.mov (.t 4),0,[]⟩,⟨some 16,none,.un .not (.t 15),0,[]⟩]) (.cond (.t 16) (.seq (.reg [⟨some 17,none,.call (.c (.fn 27 [])) [],0,[]⟩,
 ⟨some 2,none,.mov (.t 17),0,[]⟩]) .ret) .skip)) (.seq (.reg [⟨some 19,none,.mov (.t 0),0,[]⟩,⟨some 20,none,.call (.c (.fn 17 [])) [.t 19],0,[]⟩,⟨some 18,none,
 .mov (.t 20),0,[]⟩,⟨some 21,none,.ext (.t 18) 0,0,[]⟩,⟨some 22,none,.ext (.t 18) 1,0,[]⟩,⟨some 23,none,.ext (.t 18) 2,0,[]⟩,⟨some 6,none,.alloc [.v (.int .i64 0),
 .v (.int .i64 0),.sl [] .nil],0,[]⟩,⟨some 5,none,.mov (.t 21),0,[]⟩,⟨none,none,.store 3 (.t 6) (.t 22),0,[]⟩,⟨some 7,none,.mov (.t 23),0,[]⟩])
  (.seq (.seq (.reg [⟨some 24,none,.mov (.t 7),0,[]⟩,⟨some 25,none,.bin .neq (.t 24) (.c (.v (.int .i64 0))),0,[]⟩,⟨some 26,none,.mov (.t 25),0,[]⟩,⟨some 27,some (26,
 false),.mov (.t 5),0,[]⟩,⟨some 28,some (26,false),.un .not (.t 27),0,[]⟩,⟨some 29,none,.pick (.t 26) (.c (.v (.bool true))) (.t 28),0,[]⟩]) (.cond (.t 29)
  (.seq (.reg [⟨some 30,none,.call (.c (.fn 27 [])) [],0,[]⟩,⟨some 2,none,.mov (.t 30),0,[]⟩]) .ret) .skip)) (.seq (.reg [⟨some 31,none,.mov (.t 0),0,[]⟩,⟨some 32,none,
 .mov (.t 3),0,[]⟩,⟨some 33,none,.mkmap,0,[]⟩,⟨some 34,none,.build [.sl [] .nil,.sl [] .nil,.v (.map none)] [(0,1,.t 31),(1,1,.t 32),(2,1,.t 33)],0,[]⟩,⟨some 35,none,
 .box (.t 34),0,[]⟩,⟨some 8,none,.mov (.t 35),0,[]⟩]) (.seq (.seq (.reg [⟨some 9,none,.mov (.c (.v (.int .i64 0))),0,[]⟩]) (.block 0 (.loop (.seq (.seq (.reg [⟨some 36,
 none,.mov (.t 9),0,[]⟩,⟨some 37,none,.mov (.t 3),0,[]⟩,⟨some 38,none,.lenS (.t 37),0,[]⟩,⟨some 39,none,.bin .lss (.t 36) (.t 38),0,[]⟩]) (.cond (.t 39) .skip (.exit 0)))
  (.seq (.block 1 (.seq (.reg [⟨some 42,none,.mov (.t 8),0,[]⟩,⟨some 43,none,.mov (.t 9),0,[]⟩,⟨some 44,none,.call (.c (.fn 28 [])) [.t 42,.t 43,.c (.sl [] .nil)],0,[]⟩,
 ⟨some 45,none,.un .not (.t 44),0,[]⟩]) (.cond (.t 45) (.seq (.reg [⟨some 2,none,.mov (.c (.v (.bool false))),0,[]⟩]) .ret) .skip))) (.reg [⟨some 40,none,.mov (.t 9),0,[]
 ⟩,⟨some 41,none,.bin .add (.t 40) (.c (.v (.int .i64 1))),0,[]⟩,⟨some 9,none,.mov (.t 41),0,[]⟩])))))) (.seq (.reg [⟨some 46,none,.call (.c (.fn 27 [])) [],0,[]⟩,
 ⟨some 2,none,.mov (.t 46),0,[]⟩]) .ret)))))))⟩
theorem pf10_is : pfs 10 = some pf10 := by kernel_rfl
def pf11 : PF := ⟨122,[.t 2],.seq (.reg [⟨some 2,none,.mov (.c (.v (.bool false))),0,[]⟩]) (.seq (.seq (.reg [⟨some 15,none,.mov (.t 0),0,[]⟩,⟨some 16,none,.call (.c (.fn 26 [])) [.t 15]
 ,0,[]⟩,⟨some 14,none,.mov (.t 16),0,[]⟩,⟨some 17,none,.ext (.t 14) 0,0,[]⟩,⟨some 18,none,.ext (.t 14) 1,0,[]⟩,⟨some 3,none,.mov (.t 17),0,[]⟩,⟨some 4,none,.mov (.t 18),
 0,[]⟩]) (.seq (.reg [⟨some 19,none,.mov (.t 4),0,[]⟩,⟨some 20,none,.un .not (.t 19),0,[]⟩]) (.cond (.t 20) (.seq (.reg [⟨some 21,none,.call (.c (.fn 27 [])) [],0,[]⟩,
 ⟨some 2,none,.mov (.t 21),0,[]⟩]) .ret) .skip))) (.seq (.reg [⟨some 23,none,.mov (.t 0),0,[]⟩,⟨some 24,none,.call (.c (.fn 17 [])) [.t 23],0,[]⟩,⟨some 22,none,
 .mov (.t 24),0,[]⟩,⟨some 25,none,.ext (.t 22) 0,0,[]⟩,⟨some 26,none,.ext (.t 22) 1,0,[]⟩,⟨some 27,none,.ext (.t 22) 2,0,[]⟩,⟨some 6,none,.alloc [.v (.int .i64 0),
 .v (.int .i64 0),.sl [] .nil],0,[]⟩,⟨some 5,none,.mov (.t 25),0,[]⟩,⟨none,none,.store 3 (.t 6) (.t 26),0,[]⟩,⟨some 7,none,.mov (.t 27),0,[]⟩])
  (.seq (.seq (.reg [⟨some 28,none,.mov (.t 7),0,[]⟩,⟨some 29,none,.bin .neq (.t 28) (.c (.v (.int .i64 0))),0,[]⟩,⟨some 30,none,.mov (.t 29),0,[]⟩,⟨some 31,some (30,
 false),.mov (.t 5),0,[]⟩,⟨some 32,none,.pick (.t 30) (.c (.v (.bool true))) (.t 31),0,[]⟩]) (.cond (.t 32) (.seq (.reg [⟨some 33,none,.call (.c (.fn 27 [])) [],0,[]⟩,
 ⟨some 2,none,.mov (.t 33),0,[]⟩]) .ret) .skip)) (.seq (.reg [⟨some 34,none,.faddr 2 (.t 6),0,[]⟩,⟨some 35,none,.load false 1 (.t 34),0,[]⟩,⟨some 36,none,.lenS (.t 35),0,
 []⟩,⟨some 8,none,.mov (.t 36),0,[]⟩]) (.seq (.seq (.reg [⟨some 37,none,.faddr 0 (.t 6),0,[]⟩,⟨some 38,none,.load false 1 (.t 37),0,[]⟩,⟨some 39,none,.faddr 1 (.t 6),0,[]
 ⟩,⟨some 40,none,.load false 1 (.t 39),0,[]⟩,⟨some 41,none,.bin .neq (.t 38) (.t 40),0,[]⟩,⟨some 42,none,.mov (.t 41),0,[]⟩,⟨some 43,some (42,false),.mov (.t 8),0,[]⟩,
 ⟨some 44,some (42,false),.bin .gtr (.t 43) (.c (.v (.int .i64 3))),0,[]⟩,⟨some 45,none,.pick (.t 42) (.c (.v (.bool true))) (.t 44),0,[]⟩,⟨some 46,none,.mov (.t 45),0,[]
 ⟩,⟨some 47,some (46,false),.mov (.t 8),0,[]⟩,⟨some 48,some (46,false),.bin .lss (.t 47) (.c (.v (.int .i64 1))),0,[]⟩,⟨some 49,none,.pick (.t 46) (.c (.v (.bool true)))
  (.t 48),0,[]⟩]) (.cond (.t 49) (.seq (.reg [⟨some 2,none,.mov (.c (.v (.bool false))),0,[]⟩]) .ret) .skip)) (.seq (.seq (.reg [⟨some 9,none,.mov (.c (.v (.int .i64 0)))
 ,0,[]⟩]) (.block 0 (.loop (.seq (.seq (.reg [⟨some 50,none,.mov (.t 9),0,[]⟩,⟨some 51,none,.bin .lss (.t 50) (.c (.v (.int .i64 27))),0,[]⟩]) (.cond (.t 51)
  .skip (.exit 0))) (.seq (.block 1 (.seq (.reg [⟨some 54,none,.mov (.t 9),0,[]⟩,⟨some 55,none,.bin .rem (.t 54) (.c (.v (.int .i64 3))),0,[]⟩,⟨some 56,none,.mov (.t 9),
 0,[]⟩,⟨some 57,none,.bin .quo (.t 56) (.c (.v (.int .i64 3))),0,[]⟩,⟨some 58,none,.bin .rem (.t 57) (.c (.v (.int .i64 3))),0,[]⟩,⟨some 59,none,.mov (.t 9),0,[]⟩,
 ⟨some 60,none,.bin .quo (.t 59) (.c (.v (.int .i64 9))),0,[]⟩,⟨some 61,none,.build [.v (.int .i64 0),.v (.int .i64 0),.v (.int .i64 0)] [(0,1,.t 55),(1,1,.t 58),(2,1,
 .t 60)],0,[]⟩,⟨some 10,none,.alloc [.v (.int .i64 0),.v (.int .i64 0),.v (.int .i64 0)],0,[]⟩,⟨none,none,.store 3 (.t 10) (.t 61),0,[]⟩]) (.seq (.reg [⟨some 11,none,
 .mov (.c (.v (.bool true))),0,[]⟩]) (.seq (.seq (.reg [⟨some 12,none,.mov (.c (.v (.int .i64 0))),0,[]⟩]) (.block 2 (.loop (.seq (.seq (.reg [⟨some 62,none,.mov (.t 12),
 0,[]⟩,⟨some 63,none,.mov (.t 8),0,[]⟩,⟨some 64,none,.bin .lss (.t 62) (.t 63),0,[]⟩]) (.cond (.t 64) .skip (.exit 2))) (.seq (.block 3 (.seq (.reg [⟨some 13,none,
 .mov (.c (.v (.int .i64 0))),0,[]⟩]) (.block 4 (.loop (.seq (.seq (.reg [⟨some 67,none,.mov (.t 13),0,[]⟩,⟨some 68,none,.mov (.t 8),0,[]⟩,⟨some 69,none,.bin .lss (.t 67)
  (.t 68),0,[]⟩,⟨some 70,none,.mov (.t 69),0,[]⟩,⟨some 71,some (70,true),.mov (.t 13),0,[]⟩,⟨some 72,some (70,true),.faddr 2 (.t 6),0,[]⟩,⟨some 73,some (70,true),
 .load false 1 (.t 72),0,[]⟩,⟨some 74,some (70,true),.mov (.t 12),0,[]⟩,⟨some 75,some (70,true),.iaddr 1 (.t 73) (.t 74),0,[]⟩,⟨some 76,some (70,true),
 .load false 1 (.t 75),0,[]⟩,⟨some 77,some (70,true),.lenS (.t 76),0,[]⟩,⟨some 78,some (70,true),.bin .lss (.t 71) (.t 77),0,[]⟩,⟨some 79,none,.pick (.t 70) (.t 78)
  (.c (.v (.bool false))),0,[]⟩]) (.cond (.t 79) .skip (.exit 4))) (.seq (.block 5 (.seq (.dreg [6,0,0,0,6,0,0,6,0,0,0,6,0,0] [⟨some 82,none,.faddr 2 (.t 6),0,[]⟩,
 ⟨some 83,none,.load false 1 (.t 82),1,[0]⟩,⟨some 84,none,.mov (.t 12),2,[]⟩,⟨some 85,none,.iaddr 1 (.t 83) (.t 84),3,[2,1,0]⟩,⟨some 86,none,.load false 1 (.t 85),4,[3,2,
 1,0]⟩,⟨some 87,none,.mov (.t 13),5,[]⟩,⟨some 88,none,.iaddr 1 (.t 86) (.t 87),6,[5,4,3,2,1,0]⟩,⟨some 89,none,.load false 1 (.t 88),7,[6,5,4,3,2,1,0]⟩,⟨some 90,none,
 .bin .eql (.t 89) (.c (.v (.int .i64 2))),8,[7,6,5,4,3,2,1,0]⟩,⟨some 91,none,.mov (.t 90),9,[8,7,6,5,4,3,2,1,0]⟩,⟨some 92,some (91,true),.mov (.t 12),10,[9,8,7,6,5,4,3,
 2,1,0]⟩,⟨some 93,some (91,true),.iaddrA 3 1 (.t 10) (.t 92),11,[10,9,8,7,6,5,4,3,2,1,0]⟩,⟨some 94,some (91,true),.load false 1 (.t 93),12,[11,10,9,8,7,6,5,4,3,2,1,0]⟩,
 ⟨some 95,some (91,true),.mov (.t 13),13,[9,8,7,6,5,4,3,2,1,0]⟩,⟨some 96,some (91,true),.iaddrA 3 1 (.t 10) (.t 95),14,[13,9,8,7,6,5,4,3,2,1,0]⟩,⟨some 97,some (91,true),
 .load false 1 (.t 96),15,[14,13,9,8,7,6,5,4,3,2,1,0]⟩,⟨some 98,some (91,true),.bin .geq (.t 94) (.t 97),16,[15,14,13,12,11,10,9,8,7,6,5,4,3,2,1,0]⟩,⟨some 99,none,
 .pick (.t 91) (.t 98) (.c (.v (.bool false))),17,[16,15,14,13,12,11,10,9,8,7,6,5,4,3,2,1,0]⟩,⟨some 100,none,.mov (.t 99),18,[17,16,15,14,13,12,11,10,9,8,7,6,5,4,3,2,1,0]
 ⟩,⟨some 101,some (100,false),.faddr 2 (.t 6),19,[18,17,16,15,14,13,12,11,10,9,8,7,6,5,4,3,2,1,0]⟩,⟨some 102,some (100,false),.load false 1 (.t 101),20,[19,18,17,16,15,
 14,13,12,11,10,9,8,7,6,5,4,3,2,1,0]⟩,⟨some 103,some (100,false),.mov (.t 12),21,[18,17,16,15,14,13,12,11,10,9,8,7,6,5,4,3,2,1,0]⟩,⟨some 104,some (100,false),
 .iaddr 1 (.t 102) (.t 103),22,[21,20,19,18,17,16,15,14,13,12,11,10,9,8,7,6,5,4,3,2,1,0]⟩,⟨some 105,some (100,false),.load false 1 (.t 104),23,[22,21,20,19,18,17,16,15,
 14,13,12,11,10,9,8,7,6,5,4,3,2,1,0]⟩,⟨some 106,some (100,false),.mov (.t 13),24,[18,17,16,15,14,13,12,11,10,9,8,7,6,5,4,3,2,1,0]⟩,⟨some 107,some (100,false),
 .iaddr 1 (.t 105) (.t 106),25,[24,23,22,21,20,19,18,17,16,15,14,13,12,11,10,9,8,7,6,5,4,3,2,1,0]⟩,⟨some 108,some (100,false),.load false 1 (.t 107),26,[25,24,23,22,21,
 20,19,18,17,16,15,14,13,12,11,10,9,8,7,6,5,4,3,2,1,0]⟩,⟨some 109,some (100,false),.bin .eql (.t 108) (.c (.v (.int .i64 1))),27,[26,25,24,23,22,21,20,19,18,17,16,15,14,
 13,12,11,10,9,8,7,6,5,4,3,2,1,0]⟩,⟨some 110,some (100,false),.mov (.t 109),28,[27,26,25,24,23,22,21,20,19,18,17,16,15,14,13,12,11,10,9,8,7,6,5,4,3,2,1,0]⟩,⟨some 111,
 some (110,true),.mov (.t 12),29,[28,27,26,25,24,23,22,21,20,19,18,17,16,15,14,13,12,11,10,9,8,7,6,5,4,3,2,1,0]⟩,⟨some 112,some (110,true),.iaddrA 3 1 (.t 10) (.t 111),
 30,[29,28,27,26,25,24,23,22,21,20,19,18,17,16,15,14,13,12,11,10,9,8,7,6,5,4,3,2,1,0]⟩,⟨some 113,some (110,true),.load false 1 (.t 112),31,[30,29,28,27,26,25,24,23,22,21,
 20,19,18,17,16,15,14,13,12,11,10,9,8,7,6,5,4,3,2,1,0]⟩,⟨some 114,some (110,true),.mov (.t 13),32,[28,27,26,25,24,23,22,21,20,19,18,17,16,15,14,13,12,11,10,9,8,7,6,5,4,3,
 2,1,0]⟩,⟨some 115,some (110,true),.iaddrA 3 1 (.t 10) (.t 114),33,[32,28,27,26,25,24,23,22,21,20,19,18,17,16,15,14,13,12,11,10,9,8,7,6,5,4,3,2,1,0]⟩,⟨some 116,some (110,
 true),.load false 1 (.t 115),34,[33,32,28,27,26,25,24,23,22,21,20,19,18,17,16,15,14,13,12,11,10,9,8,7,6,5,4,3,2,1,0]⟩,⟨some 117,some (110,true),.bin .gtr (.t 113)
  (.t 116),35,[34,33,32,31,30,29,28,27,26,25,24,23,22,21,20,19,18,17,16,15,14,13,12,11,10,9,8,7,6,5,4,3,2,1,0]⟩,⟨some 118,some (100,false),.pick (.t 110) (.t 117)
  (.c (.v (.bool false))),36,[35,34,33,32,31,30,29,28,27,26,25,24,23,22,21,20,19,18,17,16,15,14,13,12,11,10,9,8,7,6,5,4,3,2,1,0]⟩,⟨some 119,none,.pick (.t 100)
  (.c (.v (.bool true))) (.t 118),37,[36,35,34,33,32,31,30,29,28,27,26,25,24,23,22,21,20,19,18,17,16,15,14,13,12,11,10,9,8,7,6,5,4,3,2,1,0]⟩]) (.cond (.t 119)
  (.reg [⟨some 11,none,.mov (.c (.v (.bool false))),0,[]⟩]) .skip))) (.reg [⟨some 80,none,.mov (.t 13),0,[]⟩,⟨some 81,none,.bin .add (.t 80) (.c (.v (.int .i64 1))),0,[]⟩
 ,⟨some 13,none,.mov (.t 81),0,[]⟩]))))))) (.reg [⟨some 65,none,.mov (.t 12),0,[]⟩,⟨some 66,none,.bin .add (.t 65) (.c (.v (.int .i64 1))),0,[]⟩,⟨some 12,none,
 .mov (.t 66),0,[]⟩])))))) (.seq (.reg [⟨some 120,none,.mov (.t 11),0,[]⟩]) (.cond (.t 120) (.seq (.reg [⟨some 121,none,.call (.c (.fn 27 [])) [],0,[]⟩,⟨some 2,none,
 .mov (.t 121),0,[]⟩]) .ret) .skip)))))) (.reg [⟨some 52,none,.mov (.t 9),0,[]⟩,⟨some 53,none,.bin .add (.t 52) (.c (.v (.int .i64 1))),0,[]⟩,⟨some 9,none,.mov (.t 53),0,
 []⟩])))))) (.seq (.reg [⟨some 2,none,.mov (.c (.v (.bool false))),0,[]⟩]) .ret)))))))⟩
theorem pf11_is : pfs 11 = some pf11 := by kernel_rfl
def pf28 : PF := ⟨36,[.t 6],.seq (.reg [⟨some 6,none,.mov (.c (.v (.bool false))),0,[]⟩]) (.seq (.seq (.reg [⟨some 8,none,.mov (.t 2),0,[]⟩,⟨some 9,none,.lenS (.t 8),0,[]⟩,⟨some 10,none,
 .mov (.t 0),0,[]⟩,⟨some 11,none,.nilck (.t 10),0,[]⟩,⟨some 12,none,.faddr 1 (.t 11),0,[]⟩,⟨some 13,none,.load false 1 (.t 12),0,[]⟩,⟨some 14,none,.mov (.t 1),0,[]⟩,
 ⟨some 15,none,.iaddr 1 (.t 13) (.t 14),0,[]⟩,⟨some 16,none,.load false 1 (.t 15),0,[]⟩,⟨some 17,none,.bin .eql (.t 9) (.t 16),0,[]⟩]) (.cond (.t 17)
  (.seq (.reg [⟨some 18,none,.mov (.t 0),0,[]⟩,⟨some 19,none,.mov (.t 1),0,[]⟩,⟨some 20,none,.mov (.t 2),0,[]⟩,⟨some 21,none,.call (.c (.fn 39 [])) [.t 18,.t 19,.t 20],0,
 []⟩,⟨some 6,none,.mov (.t 21),0,[]⟩]) .ret) .skip)) (.seq (.seq (.reg [⟨some 7,none,.mov (.c (.v (.int .i64 0))),0,[]⟩]) (.block 0 (.loop (.seq (.seq (.reg [⟨some 22,
 none,.mov (.t 7),0,[]⟩,⟨some 23,none,.bin .lss (.t 22) (.c (.v (.int .i64 3))),0,[]⟩]) (.cond (.t 23) .skip (.exit 0))) (.seq (.block 1 (.seq (.reg [⟨some 26,none,
 .mov (.t 0),0,[]⟩,⟨some 27,none,.mov (.t 1),0,[]⟩,⟨some 28,none,.bsl (.v (.int .i64 0)) 0 [],0,[]⟩,⟨some 29,none,.mov (.t 2),0,[]⟩,⟨some 30,none,.app 1 none (.t 28)
  (.t 29),0,[]⟩,⟨some 31,none,.mov (.t 7),0,[]⟩,⟨some 32,none,.bsl (.v (.int .i64 0)) 1 [(0,1,.t 31)],0,[]⟩,⟨some 33,none,.app 1 none (.t 30) (.t 32),0,[]⟩,⟨some 34,none,
 .call (.c (.fn 28 [])) [.t 26,.t 27,.t 33],0,[]⟩,⟨some 35,none,.un .not (.t 34),0,[]⟩]) (.cond (.t 35) (.seq (.reg [⟨some 6,none,.mov (.c (.v (.bool false))),0,[]⟩])
  .ret) .skip))) (.reg [⟨some 24,none,.mov (.t 7),0,[]⟩,⟨some 25,none,.bin .add (.t 24) (.c (.v (.int .i64 1))),0,[]⟩,⟨some 7,none,.mov (.t 25),0,[]⟩]))))))
  (.seq (.reg [⟨some 6,none,.mov (.c (.v (.bool true))),0,[]⟩]) .ret)))⟩
theorem pf28_is : pfs 28 = some pf28 := by kernel_rfl
def pf39 : PF := ⟨66,[.t 6],.seq (.reg [⟨some 6,none,.mov (.c (.v (.bool false))),0,[]⟩]) (.seq (.reg [⟨some 10,none,.mov (.t 0),0,[]⟩,⟨some 11,none,.mov (.t 1),0,[]⟩,⟨some 12,none,
 .mov (.t 2),0,[]⟩,⟨some 13,none,.call (.c (.fn 51 [])) [.t 10,.t 11,.t 12],0,[]⟩,⟨some 7,none,.mov (.t 13),0,[]⟩]) (.seq (.seq (.reg [⟨some 14,none,.mov (.t 0),0,[]⟩,
 ⟨some 15,none,.nilck (.t 14),0,[]⟩,⟨some 16,none,.faddr 2 (.t 15),0,[]⟩,⟨some 17,none,.load false 1 (.t 16),0,[]⟩,⟨some 18,none,.mov (.t 7),0,[]⟩,⟨some 19,none,
 .look (.v (.int .i64 0)) false false (.t 17) (.t 18),0,[]⟩,⟨some 8,none,.mov (.t 19),0,[]⟩]) (.seq (.reg [⟨some 20,none,.mov (.t 8),0,[]⟩,⟨some 21,none,.bin .gtr (.t 20)
  (.c (.v (.int .i64 0))),0,[]⟩]) (.cond (.t 21) (.seq (.reg [⟨some 22,none,.mov (.t 8),0,[]⟩,⟨some 23,none,.bin .eql (.t 22) (.c (.v (.int .i64 2))),0,[]⟩,⟨some 6,none,
 .mov (.t 23),0,[]⟩]) .ret) .skip))) (.seq (.reg [⟨some 24,none,.mov (.t 0),0,[]⟩,⟨some 25,none,.nilck (.t 24),0,[]⟩,⟨some 26,none,.faddr 2 (.t 25),0,[]⟩,⟨some 27,none,
 .load false 1 (.t 26),0,[]⟩,⟨some 28,none,.mov (.t 7),0,[]⟩,⟨none,none,.mapup false (.t 27) (.t 28) (.c (.v (.int .i64 1))),0,[]⟩]) (.seq (.seq (.reg [⟨some 9,none,
 .mov (.c (.v (.int .i64 0))),0,[]⟩]) (.block 0 (.loop (.seq (.seq (.reg [⟨some 29,none,.mov (.t 9),0,[]⟩,⟨some 30,none,.mov (.t 0),0,[]⟩,⟨some 31,none,.nilck (.t 30),0,
 []⟩,⟨some 32,none,.faddr 0 (.t 31),0,[]⟩,⟨some 33,none,.load false 1 (.t 32),0,[]⟩,⟨some 34,none,.lenS (.t 33),0,[]⟩,⟨some 35,none,.bin .lss (.t 29) (.t 34),0,[]⟩])
  (.cond (.t 35) .skip (.exit 0))) (.seq (.block 1 (.seq (.reg [⟨some 38,none,.mov (.t 0),0,[]⟩,⟨some 39,none,.nilck (.t 38),0,[]⟩,⟨some 40,none,.faddr 0 (.t 39),0,[]⟩,
 ⟨some 41,none,.load false 1 (.t 40),0,[]⟩,⟨some 42,none,.mov (.t 9),0,[]⟩,⟨some 43,none,.iaddr 3 (.t 41) (.t 42),0,[]⟩,⟨some 44,none,.faddr 0 (.t 43),0,[]⟩,⟨some 45,
 none,.load false 1 (.t 44),0,[]⟩,⟨some 46,none,.mov (.t 1),0,[]⟩,⟨some 47,none,.bin .eql (.t 45) (.t 46),0,[]⟩,⟨some 48,none,.mov (.t 47),0,[]⟩,⟨some 49,some (48,true),
 .mov (.t 0),0,[]⟩,⟨some 50,some (48,true),.mov (.t 0),0,[]⟩,⟨some 51,some (48,true),.nilck (.t 50),0,[]⟩,⟨some 52,some (48,true),.faddr 0 (.t 51),0,[]⟩,⟨some 53,
 some (48,true),.load false 1 (.t 52),0,[]⟩,⟨some 54,some (48,true),.mov (.t 9),0,[]⟩,⟨some 55,some (48,true),.iaddr 3 (.t 53) (.t 54),0,[]⟩,⟨some 56,some (48,true),
 .load true 3 (.t 55),0,[]⟩,⟨some 57,some (48,true),.mov (.t 2),0,[]⟩,⟨some 58,some (48,true),.call (.c (.fn 52 [])) [.t 49,.t 56,.t 57,.c (.sl [] .nil)],0,[]⟩,⟨some 59,
 some (48,true),.un .not (.t 58),0,[]⟩,⟨some 60,none,.pick (.t 48) (.t 59) (.c (.v (.bool false))),0,[]⟩]) (.cond (.t 60) (.seq (.reg [⟨some 6,none,
 .mov (.c (.v (.bool false))),0,[]⟩]) .ret) .skip))) (.reg [⟨some 36,none,.mov (.t 9),0,[]⟩,⟨some 37,none,.bin .add (.t 36) (.c (.v (.int .i64 1))),0,[]⟩,⟨some 9,none,
 .mov (.t 37),0,[]⟩])))))) (.seq (.reg [⟨some 61,none,.mov (.t 0),0,[]⟩,⟨some 62,none,.nilck (.t 61),0,[]⟩,⟨some 63,none,.faddr 2 (.t 62),0,[]⟩,⟨some 64,none,
 .load false 1 (.t 63),0,[]⟩,⟨some 65,none,.mov (.t 7),0,[]⟩,⟨none,none,.mapup false (.t 64) (.t 65) (.c (.v (.int .i64 2))),0,[]⟩]) (.seq (.reg [⟨some 6,none,
 .mov (.c (.v (.bool true))),0,[]⟩]) .ret))))))⟩
theorem pf39_is : pfs 39 = some pf39 := by kernel_rfl
def pf51 : PF := ⟨28,[.t 6],.seq (.reg [⟨some 6,none,.mov (.c (.v (.int .i64 0))),0,[]⟩]) (.seq (.reg [⟨some 9,none,.mov (.t 1),0,[]⟩,⟨some 7,none,.mov (.t 9),0,[]⟩])
  (.seq (.seq (.reg [⟨some 8,none,.mov (.c (.v (.int .i64 0))),0,[]⟩]) (.block 0 (.loop (.seq (.seq (.reg [⟨some 10,none,.mov (.t 8),0,[]⟩,⟨some 11,none,.mov (.t 2),0,[]⟩
 ,⟨some 12,none,.lenS (.t 11),0,[]⟩,⟨some 13,none,.bin .lss (.t 10) (.t 12),0,[]⟩]) (.cond (.t 13) .skip (.exit 0))) (.seq (.block 1 (.reg [⟨some 16,none,.mov (.t 7),0,[]
 ⟩,⟨some 17,none,.bin .mul (.c (.v (.int .i64 3))) (.t 16),0,[]⟩,⟨some 18,none,.mov (.t 2),0,[]⟩,⟨some 19,none,.mov (.t 8),0,[]⟩,⟨some 20,none,.iaddr 1 (.t 18) (.t 19),0,
 []⟩,⟨some 21,none,.load false 1 (.t 20),0,[]⟩,⟨some 22,none,.bin .add (.t 17) (.t 21),0,[]⟩,⟨some 7,none,.mov (.t 22),0,[]⟩])) (.reg [⟨some 14,none,.mov (.t 8),0,[]⟩,
 ⟨some 15,none,.bin .add (.t 14) (.c (.v (.int .i64 1))),0,[]⟩,⟨some 8,none,.mov (.t 15),0,[]⟩])))))) (.seq (.reg [⟨some 23,none,.mov (.t 7),0,[]⟩,⟨some 24,none,
 .bin .mul (.t 23) (.c (.v (.int .i64 8))),0,[]⟩,⟨some 25,none,.mov (.t 2),0,[]⟩,⟨some 26,none,.lenS (.t 25),0,[]⟩,⟨some 27,none,.bin .add (.t 24) (.t 26),0,[]⟩,⟨some 6,
 none,.mov (.t 27),0,[]⟩]) .ret)))⟩
theorem pf51_is : pfs 51 = some pf51 := by kernel_rfl
def pf52 : PF := ⟨79,[.t 8],.seq (.reg [⟨some 5,none,.box (.t 1),0,[]⟩,⟨some 8,none,.mov (.c (.v (.bool false))),0,[]⟩]) (.seq (.reg [⟨some 13,none,.mov (.t 3),0,[]⟩,⟨some 14,none,
 .lenS (.t 13),0,[]⟩,⟨some 9,none,.mov (.t 14),0,[]⟩]) (.seq (.seq (.reg [⟨some 15,none,.mov (.t 9),0,[]⟩,⟨some 16,none,.faddr 2 (.t 5),0,[]⟩,⟨some 17,none,
 .load false 1 (.t 16),0,[]⟩,⟨some 18,none,.lenS (.t 17),0,[]⟩,⟨some 19,none,.bin .eql (.t 15) (.t 18),0,[]⟩]) (.cond (.t 19) (.seq (.reg [⟨some 20,none,.mov (.t 0),0,[]⟩
 ,⟨some 21,none,.faddr 1 (.t 5),0,[]⟩,⟨some 22,none,.load false 1 (.t 21),0,[]⟩,⟨some 23,none,.mov (.t 3),0,[]⟩,⟨some 24,none,.call (.c (.fn 39 [])) [.t 20,.t 22,.t 23],
 0,[]⟩,⟨some 8,none,.mov (.t 24),0,[]⟩]) .ret) .skip)) (.seq (.seq (.reg [⟨some 10,none,.mov (.c (.v (.int .i64 0))),0,[]⟩]) (.block 0 (.loop (.seq (.seq (.reg [⟨some 25,
 none,.mov (.t 10),0,[]⟩,⟨some 26,none,.bin .lss (.t 25) (.c (.v (.int .i64 3))),0,[]⟩]) (.cond (.t 26) .skip (.exit 0))) (.seq (.block 1 (.seq (.reg [⟨some 11,none,
 .mov (.c (.v (.bool true))),0,[]⟩]) (.seq (.seq (.reg [⟨some 12,none,.mov (.c (.v (.int .i64 0))),0,[]⟩]) (.block 2 (.loop (.seq (.seq (.reg [⟨some 29,none,.mov (.t 12),
 0,[]⟩,⟨some 30,none,.mov (.t 2),0,[]⟩,⟨some 31,none,.lenS (.t 30),0,[]⟩,⟨some 32,none,.bin .lss (.t 29) (.t 31),0,[]⟩]) (.cond (.t 32) .skip (.exit 2)))
  (.seq (.block 3 (.seq (.reg [⟨some 35,none,.faddr 2 (.t 5),0,[]⟩,⟨some 36,none,.load false 1 (.t 35),0,[]⟩,⟨some 37,none,.mov (.t 9),0,[]⟩,⟨some 38,none,
 .iaddr 1 (.t 36) (.t 37),0,[]⟩,⟨some 39,none,.load false 1 (.t 38),0,[]⟩,⟨some 40,none,.mov (.t 12),0,[]⟩,⟨some 41,none,.iaddr 1 (.t 39) (.t 40),0,[]⟩,⟨some 42,none,
 .load false 1 (.t 41),0,[]⟩]) (.block 4 (.seq (.reg [⟨some 44,none,.bin .eql (.t 42) (.c (.v (.int .i64 1))),0,[]⟩,⟨some 43,none,.mov (.t 44),0,[]⟩]) (.cond (.t 43)
  (.reg [⟨some 45,none,.mov (.t 11),0,[]⟩,⟨some 46,none,.mov (.t 45),0,[]⟩,⟨some 47,some (46,true),.mov (.t 10),0,[]⟩,⟨some 48,some (46,true),.mov (.t 2),0,[]⟩,⟨some 49,
 some (46,true),.mov (.t 12),0,[]⟩,⟨some 50,some (46,true),.iaddr 1 (.t 48) (.t 49),0,[]⟩,⟨some 51,some (46,true),.load false 1 (.t 50),0,[]⟩,⟨some 52,some (46,true),
 .bin .eql (.t 47) (.t 51),0,[]⟩,⟨some 53,none,.pick (.t 46) (.t 52) (.c (.v (.bool false))),0,[]⟩,⟨some 11,none,.mov (.t 53),0,[]⟩]) (.seq (.reg [⟨some 55,none,
 .bin .eql (.t 42) (.c (.v (.int .i64 2))),0,[]⟩,⟨some 54,none,.mov (.t 55),0,[]⟩]) (.cond (.t 54) (.reg [⟨some 56,none,.mov (.t 11),0,[]⟩,⟨some 57,none,.mov (.t 56),0,[]
 ⟩,⟨some 58,some (57,true),.mov (.t 10),0,[]⟩,⟨some 59,some (57,true),.mov (.t 2),0,[]⟩,⟨some 60,some (57,true),.mov (.t 12),0,[]⟩,⟨some 61,some (57,true),
 .iaddr 1 (.t 59) (.t 60),0,[]⟩,⟨some 62,some (57,true),.load false 1 (.t 61),0,[]⟩,⟨some 63,some (57,true),.bin .lss (.t 58) (.t 62),0,[]⟩,⟨some 64,none,.pick (.t 57)
  (.t 63) (.c (.v (.bool false))),0,[]⟩,⟨some 11,none,.mov (.t 64),0,[]⟩]) .skip))))))) (.reg [⟨some 33,none,.mov (.t 12),0,[]⟩,⟨some 34,none,.bin .add (.t 33)
  (.c (.v (.int .i64 1))),0,[]⟩,⟨some 12,none,.mov (.t 34),0,[]⟩])))))) (.seq (.dreg [0,0,9,0,0] [⟨some 65,none,.mov (.t 11),0,[]⟩,⟨some 66,none,.mov (.t 65),1,[0]⟩,
 ⟨some 67,some (66,true),.mov (.t 0),2,[1,0]⟩,⟨some 68,some (66,true),.load true 3 (.t 5),3,[1,0]⟩,⟨some 69,some (66,true),.mov (.t 2),4,[1,0]⟩,⟨some 70,some (66,true),
 .bsl (.v (.int .i64 0)) 0 [],5,[1,0]⟩,⟨some 71,some (66,true),.mov (.t 3),6,[1,0]⟩,⟨some 72,some (66,true),.app 1 none (.t 70) (.t 71),7,[6,5,1,0]⟩,⟨some 73,some (66,
 true),.mov (.t 10),8,[1,0]⟩,⟨some 74,some (66,true),.bsl (.v (.int .i64 0)) 1 [(0,1,.t 73)],9,[8,1,0]⟩,⟨some 75,some (66,true),.app 1 none (.t 72) (.t 74),10,[9,8,7,6,5,
 1,0]⟩,⟨some 76,some (66,true),.call (.c (.fn 52 [])) [.t 67,.t 68,.t 69,.t 75],11,[10,9,8,7,6,5,4,3,2,1,0]⟩,⟨some 77,some (66,true),.un .not (.t 76),12,[11,10,9,8,7,6,5,
 4,3,2,1,0]⟩,⟨some 78,none,.pick (.t 66) (.t 77) (.c (.v (.bool false))),13,[12,11,10,9,8,7,6,5,4,3,2,1,0]⟩]) (.cond (.t 78) (.seq (.reg [⟨some 8,none,
 .mov (.c (.v (.bool false))),0,[]⟩]) .ret) .skip))))) (.reg [⟨some 27,none,.mov (.t 10),0,[]⟩,⟨some 28,none,.bin .add (.t 27) (.c (.v (.int .i64 1))),0,[]⟩,⟨some 10,
 none,.mov (.t 28),0,[]⟩])))))) (.seq (.reg [⟨some 8,none,.mov (.c (.v (.bool true))),0,[]⟩]) .ret))))⟩
theorem pf52_is : pfs 52 = some pf52 := by kernel_rfl
end Go.Proofs.Eng.T
namespace Go.Proofs.Eng
open Go Go.Proofs
set_option maxRecDepth 100000
theorem oft_int {n : Nat} {l : List AV} (h : OfT Tryd.prog n 3 l) : ∃ i, l = [.int i] ∧ in64 i := by
  cases n with
  | zero => exact h.elim
  | succ n =>
    simp only [OfT, Tryd.underlying3] at h
    obtain ⟨i, rfl, hw⟩ := h
    refine ⟨i, rfl, ?_⟩
    unfold in64
    simp [Lit.wf, IntKind.min, IntKind.max, IntKind.signed, IntKind.bits] at hw
    omega
theorem oft_slice {α : Type} {R : α → AV → Prop} {n : Nat} {t e : TypeId} {l : List AV} (hu : Tryd.prog.underlying t = some (.slice e)) (hc : 0 < Tryd.prog.cellsOf e) (hR : ∀ n l, OfT Tryd.prog n e l → ∃ x, R x (mkE (isAgg Tryd.prog e) l)) (h : OfT Tryd.prog n t l) : ∃ (xs : List α) (al : List AV) (tl : Tl), l = [.sl al tl] ∧ LIs R xs al ∧ tl.fast = true ∧ al.length ≤ lenB := by
  cases n with
  | zero => exact h.elim
  | succ n =>
    simp only [OfT, hu, if_pos hc] at h
    obtain ⟨xs, tl, rfl, h1, h2, h3⟩ := h
    have key : ∀ xs : List (List AV), (∀ x ∈ xs, OfT Tryd.prog n e x) → ∃ ys : List α, LIs R ys (xs.map (mkE (isAgg Tryd.prog e))) := by
      intro xs
      induction xs with
      | nil => intro _; exact ⟨[], trivial⟩
      | cons x xs ih =>
        intro h
        obtain ⟨y, hy⟩ := hR n x (h x (by simp))
        obtain ⟨ys, hys⟩ := ih fun z hz => h z (by simp [hz])
        exact ⟨y :: ys, hy, hys⟩
    obtain ⟨ys, hys⟩ := key xs h3
    refine ⟨ys, _, tl, rfl, hys, ?_, by rw [List.length_map]; unfold lenB; simpa [maxLen] using h2⟩
    rcases h1 with rfl | ⟨rfl, _⟩ <;> rfl
theorem ints_of : ∀ {l : List Int} {al : List AV}, LIs (fun (i : Int) a => a = .int i ∧ in64 i) l al → al = ints l ∧ ∀ n ∈ l, in64 n
  | [], [], _ => ⟨rfl, by simp⟩
  | [], _ :: _, h => by simp [LIs] at h
  | _ :: _, [], h => by simp [LIs] at h
  | x :: l, a :: al, h => by
    simp only [LIs] at h
    obtain ⟨h1, h2⟩ := ints_of h.2
    refine ⟨by rw [h.1.1, h1]; rfl, fun n hn => ?_⟩
    rcases List.mem_cons.1 hn with rfl | hn
    · exact h.1.2
    · exact h2 n hn
theorem oft_row {n : Nat} {l : List AV} (h : OfT Tryd.prog n 52 l) : ∃ r a, l = [a] ∧ RowIs r a := by
  obtain ⟨xs, al, tl, rfl, h1, h2, h3⟩ := oft_slice (R := fun (i : Int) a => a = .int i ∧ in64 i) Tryd.underlying52 (by rw [show Tryd.prog.cellsOf 3 = 1 from by kernel_rfl]; decide) (fun n l h => by
    obtain ⟨i, rfl, hi⟩ := oft_int h
    exact ⟨i, by rw [show isAgg Tryd.prog 3 = false from by kernel_rfl]; exact ⟨rfl, hi⟩⟩) h
  obtain ⟨rfl, h4⟩ := ints_of h1
  exact ⟨xs, _, rfl, RowIs.mk h2 (by rw [ints_len] at h3; exact h3) h4⟩
theorem oft_rows {n : Nat} {l : List AV} (h : OfT Tryd.prog n 31 l) : ∃ rows al tl, l = [.sl al tl] ∧ LIs RowIs rows al ∧ tl.fast = true ∧ al.length ≤ lenB :=
  oft_slice Tryd.underlying31 (by rw [show Tryd.prog.cellsOf 52 = 1 from by kernel_rfl]; decide) (fun n l h => by
    obtain ⟨r, a, rfl, hr⟩ := oft_row h
    exact ⟨r, by rw [show isAgg Tryd.prog 52 = false from by kernel_rfl]; exact hr⟩) h
theorem three {α : Type} {l : List α} (h : l.length = 3) : ∃ a b c, l = [a, b, c] := by
  match l, h with
  | [a, b, c], _ => exact ⟨a, b, c, rfl⟩
theorem oft_cl {n : Nat} {l : List AV} (h : OfT Tryd.prog n 33 l) : ∃ c : Cl, ClIs c (.agg l) := by
  cases n with
  | zero => exact h.elim
  | succ n =>
    simp only [OfT, Tryd.underlying33] at h
    rw [if_pos (by kernel_rfl)] at h
    obtain ⟨xs, rfl, hl, hx⟩ := h
    obtain ⟨a, b, c, rfl⟩ := three hl
    obtain ⟨f, rfl, hf⟩ := oft_int (hx 0 _ a rfl rfl)
    obtain ⟨t, rfl, ht⟩ := oft_int (hx 1 _ b rfl rfl)
    obtain ⟨rows, al, tl, rfl, h1, h2, h3⟩ := oft_rows (hx 2 _ c rfl rfl)
    exact ⟨⟨f, t, rows⟩, al, tl, rfl, h1, h2, h3, hf, ht⟩
theorem oft_cls {n : Nat} {l : List AV} (h : OfT Tryd.prog n 22 l) : ∃ (cs : List Cl) (al : List AV) (tl : Tl), l = [.sl al tl] ∧ LIs ClIs cs al ∧ tl.fast = true ∧ al.length ≤ lenB :=
  oft_slice Tryd.underlying22 (by rw [show Tryd.prog.cellsOf 33 = 3 from by kernel_rfl]; decide) (fun n l h => by
    obtain ⟨c, hc⟩ := oft_cl h
    exact ⟨c, by rw [show isAgg Tryd.prog 33 = true from by kernel_rfl]; exact hc⟩) h
theorem purify_v_inv {n : Nat} {s : ASt} {x : AV} {y : Value} (h : purify n s x = some (.v y)) : x = .v y := by
  cases n with
  | zero => rw [purify] at h; cases h
  | succ n =>
    unfold purify at h
    split at h
    · cases h; rfl
    · split at h
      all_goals first
        | (cases h; done)
        | (rw [Option.map_eq_some_iff] at h; obtain ⟨_, _, h⟩ := h; cases h; done)
        | skip
      split at h
      · split at h
        · rw [Option.map_eq_some_iff] at h; obtain ⟨_, _, h⟩ := h; cases h
        · cases h
      · cases h
open Go Go.Proofs Go.Proofs.YtodnkbnbjhcikaaDoor
open Go.ChangeShapes Go.WideShapes Go.ChangeAt Go.RowKit
def laid22 : List (String × DataW Unit) := Rows.sizechangeClosesRow.laid
theorem lm_tail {P : Program} {x : String × DataW Unit} {r : List (String × DataW Unit)} {w : World} (h : laidMet P (x :: r) w) : laidMet P r w := by
  obtain ⟨n, d⟩ := x
  obtain ⟨ps, ⟨g, t, cs, fuel, p, q, _, _, _, _, hq, rfl⟩, hn, hc⟩ := h
  exact ⟨q, hq, (List.nodup_append.1 hn).2.1, fun b off hm => hc b off (List.mem_append_right _ hm)⟩
theorem kn_of {W : World} (h : laidMetH Tryd.prog laid22 W) : Kn W := by
  rw [MakeChecks.laidMetH_plain _ _ _ (by kernel_rfl)] at h
  have h2 := lm_tail (lm_tail h)
  have h3 := Lib.tabIs_of_head (name := tabN) (zs := Lib.pow10Tab) (k := .u64) (g := 0) (t := 127) (e := 109) (n := 20) (by kernel_rfl) (by kernel_rfl) (by kernel_rfl) (by kernel_rfl) (by kernel_rfl) (by kernel_rfl) h2
  intro b hb
  obtain rfl : b = 0 := hb
  unfold Lib.TabIs World.var? at h3
  rw [show Tryd.prog.globalNamed tabN = some 0 from by kernel_rfl] at h3
  simp only [Option.bind_some] at h3
  split at h3
  · rename_i cs t z hh
    simp only [Option.some.injEq] at h3
    subst h3
    exact ⟨(Array.getElem?_eq_some_iff.1 hh).1, t, z, hh⟩
  · cases h3
theorem try_own : ownKnob Tryd.prog.godebug = none := by kernel_rfl
theorem try_laid : laidOutB Tryd.prog = true := by kernel_rfl
end Go.Proofs.Eng
