/- The prepared code of the functions. No conditions. -/
import Derived.Test.YtodnkbnbjhcikaaDoorCN
set_option linter.all false
set_option linter.deprecated false
set_option linter.unnecessarySimpa false
set_option linter.unusedVariables false
set_option linter.unusedSimpArgs false
set_option linter.defProp false
namespace Go.Proofs.Eng
open Go Go.Proofs
def sharedF : List Nat := [28, 39, 51, 52]
def md (f : Nat) : Md := if f = 63 then .raw else if sharedF.contains f then .shared else .pure
def bf : Bf := ⟨false, fun g => sharedF.contains g, fun _ _ _ _ => none⟩
noncomputable def pfs (f : Nat) : Option PF := if f = 63 then some ⟨0, [], .ora growO⟩ else if f = 30 then some ⟨0, [], .ora closureO⟩ else prepF Tryd.prog bf f
theorem pfsOK : PfsOK Tryd.prog pfs := fun f pf h => by
  unfold pfs at h
  split at h
  · rename_i hf
    subst hf
    simp only [Option.some.injEq] at h; subst h
    exact .inr (.inl ⟨_, rfl, grow_ok⟩)
  · split at h
    · rename_i hf
      subst hf
      simp only [Option.some.injEq] at h; subst h
      exact .inr (.inl ⟨_, rfl, closure_ok⟩)
    · exact .inl ⟨_, h⟩
set_option maxRecDepth 100000
def pf10 : PF := ⟨47,[.t 2],.seq (.reg [⟨some 2,none,.mov (.c (.v (.bool false))),0,[]⟩]) (.seq (.reg [⟨some 11,none,.mov (.t 0),0,[]⟩,⟨some 12,none,.call (.c (.fn 26 [])) [.t 11],0,[]⟩,
 ⟨some 10,none,.mov (.t 12),0,[]⟩,⟨some 13,none,.ext (.t 10) 0,0,[]⟩,⟨some 14,none,.ext (.t 10) 1,0,[]⟩,⟨some 3,none,.mov (.t 13),0,[]⟩,⟨some 4,none,.mov (.t 14),0,[]⟩])
  (.seq (.seq (.reg [⟨some 15,none,.mov (.t 4),0,[]⟩,⟨some 16,none,.un .not (.t 15),0,[]⟩]) (.cond (.t 16) (.seq (.reg [⟨some 17,none,.call (.c (.fn 27 [])) [],0,[]⟩,
 ⟨some 2,none,.mov (.t 17),0,[]⟩]) .ret) .skip)) (.seq (.reg [⟨some 19,none,.mov (.t 0),0,[]⟩,⟨some 20,none,.call (.c (.fn 17 [])) [.t 19],0,[]⟩,⟨some 18,none,
 .mov (.t 20),0,[]⟩,⟨some 21,none,.ext (.t 18) 0,0,[]⟩,⟨some 22,none,.ext (.t 18) 1,0,[]⟩,⟨some 23,none,.ext (.t 18) 2,0,[]⟩,⟨some 6,none,.alloc [.v (.int .i64 0),
 .v (.int .i64 0),.sl [] .nil],0,[]⟩,⟨some 5,none,.mov (.t 21),0,[]⟩,⟨none,none,.store 3 (.t 6) (.t 22),0,[]⟩,⟨some 7,none,.mov (.t 23),0,[]⟩])
  (.seq (.seq (.reg [⟨some 24,none,.mov (.t 7),0,[]⟩,⟨some 25,none,.bin .neq (.t 24) (.c (.v (.int .i64 0))),0,[]⟩,⟨some 26,none,.mov (.t 25),0,[]⟩,⟨some 27,some (26,
 false),.mov (.t 5),0,[]⟩,⟨some 28,some (26,false),.un .not (.t 27),0,[]⟩,⟨some 29,none,.pick (.t 26) (.c (.v (.bool true))) (.t 28),0,[]⟩]) (.cond (.t 29)
  (.seq (.reg [⟨some 30,none,.call (.c (.fn 27 [])) [],0,[]⟩,⟨some 2,none,.mov (.t 30),0,[]⟩]) .ret) .skip)) (.seq (.reg [⟨some 31,none,.mov (.t 0),0,[]⟩,⟨some 32,none,
 .mov (.t 3),0,[]⟩,⟨some 33,none,.mkmap,0,[]⟩,⟨some 34,none,.build [.sl [] .nil,.sl [] .nil,.v (.map none)] [(0,1,.t 31),(1,1,.t 32),(2,1,.t 33)],0,[]⟩,⟨some 35,none,
 .box (.t 34),0,[]⟩,⟨some 8,none,.mov (.t 35),0,[]⟩]) (.seq (.seq (.reg [⟨some 9,none,.mov (.c (.v (.int .i64 0))),0,[]⟩]) (.block 0 (.loop (.seq (.seq (.reg [⟨some 36,
 none,.mov (.t 9),0,[]⟩,⟨some 37,none,.mov (.t 3),0,[]⟩,⟨some 38,none,.lenS (.t 37),0,[]⟩,⟨some 39,none,.bin .lss (.t 36) (.t 38),0,[]⟩]) (.cond (.t 39) .skip (.exit 0)))
  (.seq (.block 1 (.seq (.reg [⟨some 42,none,.mov (.t 8),0,[]⟩,⟨some 43,none,.mov (.t 9),0,[]⟩,⟨some 44,none,.call (.c (.fn 28 [])) [.t 42,.t 43,.c (.sl [] .nil)],0,[]⟩,
 ⟨some 45,none,.un .not (.t 44),0,[]⟩]) (.cond (.t 45) (.seq (.reg [⟨some 2,none,.mov (.c (.v (.bool false))),0,[]⟩]) .ret) .skip))) (.reg [⟨some 40,none,.mov (.t 9),0,[]
 ⟩,⟨some 41,none,.bin .add (.t 40) (.c (.v (.int .i64 1))),0,[]⟩,⟨some 9,none,.mov (.t 41),0,[]⟩])))))) (.seq (.reg [⟨some 46,none,.call (.c (.fn 27 [])) [],0,[]⟩,
 ⟨some 2,none,.mov (.t 46),0,[]⟩]) .ret)))))))⟩
theorem pf10_is : pfs 10 = some pf10 := by kernel_rfl
def pf11 : PF := ⟨122,[.t 2],.seq (.reg [⟨some 2,none,.mov (.c (.v (.bool false))),0,[]⟩]) (.seq (.seq (.reg [⟨some 15,none,.mov (.t 0),0,[]⟩,⟨some 16,none,.call (.c (.fn 26 [])) [.t 15]
 ,0,[]⟩,⟨some 14,none,.mov (.t 16),0,[]⟩,⟨some 17,none,.ext (.t 14) 0,0,[]⟩,⟨some 18,none,.ext (.t 14) 1,0,[]⟩,⟨some 3,none,.mov (.t 17),0,[]⟩,⟨some 4,none,.mov (.t 18),
 0,[]⟩]) (.seq (.reg [⟨some 19,none,.mov (.t 4),0,[]⟩,⟨some 20,none,.un .not (.t 19),0,[]⟩]) (.cond (.t 20) (.seq (.reg [⟨some 21,none,.call (.c (.fn 27 [])) [],0,[]⟩,
 ⟨some 2,none,.mov (.t 21),0,[]⟩]) .ret) .skip))) (.seq (.reg [⟨some 23,none,.mov (.t 0),0,[]⟩,⟨some 24,none,.call (.c (.fn 17 [])) [.t 23],0,[]⟩,⟨some 22,none,
 .mov (.t 24),0,[]⟩,⟨some 25,none,.ext (.t 22) 0,0,[]⟩,⟨some 26,none,.ext (.t 22) 1,0,[]⟩,⟨some 27,none,.ext (.t 22) 2,0,[]⟩,⟨some 6,none,.alloc [.v (.int .i64 0),
 .v (.int .i64 0),.sl [] .nil],0,[]⟩,⟨some 5,none,.mov (.t 25),0,[]⟩,⟨none,none,.store 3 (.t 6) (.t 26),0,[]⟩,⟨some 7,none,.mov (.t 27),0,[]⟩])
  (.seq (.seq (.reg [⟨some 28,none,.mov (.t 7),0,[]⟩,⟨some 29,none,.bin .neq (.t 28) (.c (.v (.int .i64 0))),0,[]⟩,⟨some 30,none,.mov (.t 29),0,[]⟩,⟨some 31,some (30,
 false),.mov (.t 5),0,[]⟩,⟨some 32,none,.pick (.t 30) (.c (.v (.bool true))) (.t 31),0,[]⟩]) (.cond (.t 32) (.seq (.reg [⟨some 33,none,.call (.c (.fn 27 [])) [],0,[]⟩,
 ⟨some 2,none,.mov (.t 33),0,[]⟩]) .ret) .skip)) (.seq (.reg [⟨some 34,none,.faddr 2 (.t 6),0,[]⟩,⟨some 35,none,.load false 1 (.t 34),0,[]⟩,⟨some 36,none,.lenS (.t 35),0,
 []⟩,⟨some 8,none,.mov (.t 36),0,[]⟩]) (.seq (.seq (.reg [⟨some 37,none,.faddr 0 (.t 6),0,[]⟩,⟨some 38,none,.load false 1 (.t 37),0,[]⟩,⟨some 39,none,.faddr 1 (.t 6),0,[]
 ⟩,⟨some 40,none,.load false 1 (.t 39),0,[]⟩,⟨some 41,none,.bin .neq (.t 38) (.t 40),0,[]⟩,⟨some 42,none,.mov (.t 41),0,[]⟩,⟨some 43,some (42,false),.mov (.t 8),0,[]⟩,
 ⟨some 44,some (42,false),.bin .gtr (.t 43) (.c (.v (.int .i64 3))),0,[]⟩,⟨some 45,none,.pick (.t 42) (.c (.v (.bool true))) (.t 44),0,[]⟩,⟨some 46,none,.mov (.t 45),0,[]
 ⟩,⟨some 47,some (46,false),.mov (.t 8),0,[]⟩,⟨some 48,some (46,false),.bin .lss (.t 47) (.c (.v (.int .i64 1))),0,[]⟩,⟨some 49,none,.pick (.t 46) (.c (.v (.bool true)))
  (.t 48),0,[]⟩]) (.cond (.t 49) (.seq (.reg [⟨some 2,none,.mov (.c (.v (.bool false))),0,[]⟩]) .ret) .skip)) (.seq (.seq (.reg [⟨some 9,none,.mov (.c (.v (.int .i64 0)))
 ,0,[]⟩]) (.block 0 (.loop (.seq (.seq (.reg [⟨some 50,none,.mov (.t 9),0,[]⟩,⟨some 51,none,.bin .lss (.t 50) (.c (.v (.int .i64 27))),0,[]⟩]) (.cond (.t 51)
  .skip (.exit 0))) (.seq (.block 1 (.seq (.reg [⟨some 54,none,.mov (.t 9),0,[]⟩,⟨some 55,none,.bin .rem (.t 54) (.c (.v (.int .i64 3))),0,[]⟩,⟨some 56,none,.mov (.t 9),
 0,[]⟩,⟨some 57,none,.bin .quo (.t 56) (.c (.v (.int .i64 3))),0,[]⟩,⟨some 58,none,.bin .rem (.t 57) (.c (.v (.int .i64 3))),0,[]⟩,⟨some 59,none,.mov (.t 9),0,[]⟩,
 ⟨some 60,none,.bin .quo (.t 59) (.c (.v (.int .i64 9))),0,[]⟩,⟨some 61,none,.build [.v (.int .i64 0),.v (.int .i64 0),.v (.int .i64 0)] [(0,1,.t 55),(1,1,.t 58),(2,1,
 .t 60)],0,[]⟩,⟨some 10,none,.alloc [.v (.int .i64 0),.v (.int .i64 0),.v (.int .i64 0)],0,[]⟩,⟨none,none,.store 3 (.t 10) (.t 61),0,[]⟩]) (.seq (.reg [⟨some 11,none,
 .mov (.c (.v (.bool true))),0,[]⟩]) (.seq (.seq (.reg [⟨some 12,none,.mov (.c (.v (.int .i64 0))),0,[]⟩]) (.block 2 (.loop (.seq (.seq (.reg [⟨some 62,none,.mov (.t 12),
 0,[]⟩,⟨some 63,none,.mov (.t 8),0,[]⟩,⟨some 64,none,.bin .lss (.t 62) (.t 63),0,[]⟩]) (.cond (.t 64) .skip (.exit 2))) (.seq (.block 3 (.seq (.reg [⟨some 13,none,
 .mov (.c (.v (.int .i64 0))),0,[]⟩]) (.block 4 (.loop (.seq (.seq (.reg [⟨some 67,none,.mov (.t 13),0,[]⟩,⟨some 68,none,.mov (.t 8),0,[]⟩,⟨some 69,none,.bin .lss (.t 67)
  (.t 68),0,[]⟩,⟨some 70,none,.mov (.t 69),0,[]⟩,⟨some 71,some (70,true),.mov (.t 13),0,[]⟩,⟨some 72,some (70,true),.faddr 2 (.t 6),0,[]⟩,⟨some 73,some (70,true),
 .load false 1 (.t 72),0,[]⟩,⟨some 74,some (70,true),.mov (.t 12),0,[]⟩,⟨some 75,some (70,true),.iaddr 1 (.t 73) (.t 74),0,[]⟩,⟨some 76,some (70,true),
 .load false 1 (.t 75),0,[]⟩,⟨some 77,some (70,true),.lenS (.t 76),0,[]⟩,⟨some 78,some (70,true),.bin .lss (.t 71) (.t 77),0,[]⟩,⟨some 79,none,.pick (.t 70) (.t 78)
  (.c (.v (.bool false))),0,[]⟩]) (.cond (.t 79) .skip (.exit 4))) (.seq (.block 5 (.seq (.dreg [6,0,0,0,6,0,0,6,0,0,0,6,0,0] [⟨some 82,none,.faddr 2 (.t 6),0,[]⟩,
 ⟨some 83,none,.load false 1 (.t 82),1,[0]⟩,⟨some 84,none,.mov (.t 12),2,[]⟩,⟨some 85,none,.iaddr 1 (.t 83) (.t 84),3,[2,1,0]⟩,⟨some 86,none,.load false 1 (.t 85),4,[3,2,
 1,0]⟩,⟨some 87,none,.mov (.t 13),5,[]⟩,⟨some 88,none,.iaddr 1 (.t 86) (.t 87),6,[5,4,3,2,1,0]⟩,⟨some 89,none,.load false 1 (.t 88),7,[6,5,4,3,2,1,0]⟩,⟨some 90,none,
 .bin .eql (.t 89) (.c (.v (.int .i64 2))),8,[7,6,5,4,3,2,1,0]⟩,⟨some 91,none,.mov (.t 90),9,[8,7,6,5,4,3,2,1,0]⟩,⟨some 92,some (91,true),.mov (.t 12),10,[9,8,7,6,5,4,3,
 2,1,0]⟩,⟨some 93,some (91,true),.iaddrA 3 1 (.t 10) (.t 92),11,[10,9,8,7,6,5,4,3,2,1,0]⟩,⟨some 94,some (91,true),.load false 1 (.t 93),12,[11,10,9,8,7,6,5,4,3,2,1,0]⟩,
 ⟨some 95,some (91,true),.mov (.t 13),13,[9,8,7,6,5,4,3,2,1,0]⟩,⟨some 96,some (91,true),.iaddrA 3 1 (.t 10) (.t 95),14,[13,9,8,7,6,5,4,3,2,1,0]⟩,⟨some 97,some (91,true),
 .load false 1 (.t 96),15,[14,13,9,8,7,6,5,4,3,2,1,0]⟩,⟨some 98,some (91,true),.bin .geq (.t 94) (.t 97),16,[15,14,13,12,11,10,9,8,7,6,5,4,3,2,1,0]⟩,⟨some 99,none,
 .pick (.t 91) (.t 98) (.c (.v (.bool false))),17,[16,15,14,13,12,11,10,9,8,7,6,5,4,3,2,1,0]⟩,⟨some 100,none,.mov (.t 99),18,[17,16,15,14,13,12,11,10,9,8,7,6,5,4,3,2,1,0]
 ⟩,⟨some 101,some (100,false),.faddr 2 (.t 6),19,[18,17,16,15,14,13,12,11,10,9,8,7,6,5,4,3,2,1,0]⟩,⟨some 102,some (100,false),.load false 1 (.t 101),20,[19,18,17,16,15,
 14,13,12,11,10,9,8,7,6,5,4,3,2,1,0]⟩,⟨some 103,some (100,false),.mov (.t 12),21,[18,17,16,15,14,13,12,11,10,9,8,7,6,5,4,3,2,1,0]⟩,⟨some 104,some (100,false),
 .iaddr 1 (.t 102) (.t 103),22,[21,20,19,18,17,16,15,14,13,12,11,10,9,8,7,6,5,4,3,2,1,0]⟩,⟨some 105,some (100,false),.load false 1 (.t 104),23,[22,21,20,19,18,17,16,15,
 14,13,12,11,10,9,8,7,6,5,4,3,2,1,0]⟩,⟨some 106,some (100,false),.mov (.t 13),24,[18,17,16,15,14,13,12,11,10,9,8,7,6,5,4,3,2,1,0]⟩,⟨some 107,some (100,false),
 .iaddr 1 (.t 105) (.t 106),25,[24,23,22,21,20,19,18,17,16,15,14,13,12,11,10,9,8,7,6,5,4,3,2,1,0]⟩,⟨some 108,some (100,false),.load false 1 (.t 107),26,[25,24,23,22,21,
 20,19,18,17,16,15,14,13,12,11,10,9,8,7,6,5,4,3,2,1,0]⟩,⟨some 109,some (100,false),.bin .eql (.t 108) (.c (.v (.int .i64 1))),27,[26,25,24,23,22,21,20,19,18,17,16,15,14,
 13,12,11,10,9,8,7,6,5,4,3,2,1,0]⟩,⟨some 110,some (100,false),.mov (.t 109),28,[27,26,25,24,23,22,21,20,19,18,17,16,15,14,13,12,11,10,9,8,7,6,5,4,3,2,1,0]⟩,⟨some 111,
 some (110,true),.mov (.t 12),29,[28,27,26,25,24,23,22,21,20,19,18,17,16,15,14,13,12,11,10,9,8,7,6,5,4,3,2,1,0]⟩,⟨some 112,some (110,true),.iaddrA 3 1 (.t 10) (.t 111),
 30,[29,28,27,26,25,24,23,22,21,20,19,18,17,16,15,14,13,12,11,10,9,8,7,6,5,4,3,2,1,0]⟩,⟨some 113,some (110,true),.load false 1 (.t 112),31,[30,29,28,27,26,25,24,23,22,21,
 20,19,18,17,16,15,14,13,12,11,10,9,8,7,6,5,4,3,2,1,0]⟩,⟨some 114,some (110,true),.mov (.t 13),32,[28,27,26,25,24,23,22,21,20,19,18,17,16,15,14,13,12,11,10,9,8,7,6,5,4,3,
 2,1,0]⟩,⟨some 115,some (110,true),.iaddrA 3 1 (.t 10) (.t 114),33,[32,28,27,26,25,24,23,22,21,20,19,18,17,16,15,14,13,12,11,10,9,8,7,6,5,4,3,2,1,0]⟩,⟨some 116,some (110,
 true),.load false 1 (.t 115),34,[33,32,28,27,26,25,24,23,22,21,20,19,18,17,16,15,14,13,12,11,10,9,8,7,6,5,4,3,2,1,0]⟩,⟨some 117,some (110,true),.bin .gtr (.t 113)
  (.t 116),35,[34,33,32,31,30,29,28,27,26,25,24,23,22,21,20,19,18,17,16,15,14,13,12,11,10,9,8,7,6,5,4,3,2,1,0]⟩,⟨some 118,some (100,false),.pick (.t 110) (.t 117)
  (.c (.v (.bool false))),36,[35,34,33,32,31,30,29,28,27,26,25,24,23,22,21,20,19,18,17,16,15,14,13,12,11,10,9,8,7,6,5,4,3,2,1,0]⟩,⟨some 119,none,.pick (.t 100)
  (.c (.v (.bool true))) (.t 118),37,[36,35,34,33,32,31,30,29,28,27,26,25,24,23,22,21,20,19,18,17,16,15,14,13,12,11,10,9,8,7,6,5,4,3,2,1,0]⟩]) (.cond (.t 119)
  (.reg [⟨some 11,none,.mov (.c (.v (.bool false))),0,[]⟩]) .skip))) (.reg [⟨some 80,none,.mov (.t 13),0,[]⟩,⟨some 81,none,.bin .add (.t 80) (.c (.v (.int .i64 1))),0,[]⟩
 ,⟨some 13,none,.mov (.t 81),0,[]⟩]))))))) (.reg [⟨some 65,none,.mov (.t 12),0,[]⟩,⟨some 66,none,.bin .add (.t 65) (.c (.v (.int .i64 1))),0,[]⟩,⟨some 12,none,
 .mov (.t 66),0,[]⟩])))))) (.seq (.reg [⟨some 120,none,.mov (.t 11),0,[]⟩]) (.cond (.t 120) (.seq (.reg [⟨some 121,none,.call (.c (.fn 27 [])) [],0,[]⟩,⟨some 2,none,
 .mov (.t 121),0,[]⟩]) .ret) .skip)))))) (.reg [⟨some 52,none,.mov (.t 9),0,[]⟩,⟨some 53,none,.bin .add (.t 52) (.c (.v (.int .i64 1))),0,[]⟩,⟨some 9,none,.mov (.t 53),0,
 []⟩])))))) (.seq (.reg [⟨some 2,none,.mov (.c (.v (.bool false))),0,[]⟩]) .ret)))))))⟩
theorem pf11_is : pfs 11 = some pf11 := by kernel_rfl
def pf14 : PF := ⟨20,[.t 2,.t 3],.seq (.reg [⟨some 2,none,.mov (.c (.sl [] .nil)),0,[]⟩,⟨some 3,none,.mov (.c (.v (.int .i64 0))),0,[]⟩]) (.seq (.seq (.reg [⟨some 7,none,.mov (.t 0),0,[]
 ⟩,⟨some 8,none,.call (.c (.fn 29 [])) [.t 7],0,[]⟩,⟨some 4,none,.mov (.t 8),0,[]⟩]) (.seq (.reg [⟨some 9,none,.mov (.t 4),0,[]⟩,⟨some 10,none,.bin .neq (.t 9)
  (.c (.v (.int .i64 0))),0,[]⟩]) (.cond (.t 10) (.seq (.reg [⟨some 11,none,.mov (.t 4),0,[]⟩,⟨some 2,none,.mov (.c (.sl [] .nil)),0,[]⟩,⟨some 3,none,.mov (.t 11),0,[]⟩])
  .ret) .skip))) (.seq (.reg [⟨some 13,none,.mov (.t 0),0,[]⟩,⟨some 14,none,.call (.c (.fn 30 [])) [.t 13],0,[]⟩,⟨some 12,none,.mov (.t 14),0,[]⟩,⟨some 15,none,
 .ext (.t 12) 0,0,[]⟩,⟨some 16,none,.ext (.t 12) 1,0,[]⟩,⟨some 5,none,.mov (.t 15),0,[]⟩,⟨some 6,none,.mov (.t 16),0,[]⟩]) (.seq (.seq (.reg [⟨some 17,none,.mov (.t 6),0,
 []⟩,⟨some 18,none,.un .not (.t 17),0,[]⟩]) (.cond (.t 18) (.seq (.reg [⟨some 2,none,.mov (.c (.sl [] .nil)),0,[]⟩,⟨some 3,none,.mov (.c (.v (.int .i64 6))),0,[]⟩]) .ret)
  .skip)) (.seq (.reg [⟨some 19,none,.mov (.t 5),0,[]⟩,⟨some 2,none,.mov (.t 19),0,[]⟩,⟨some 3,none,.mov (.c (.v (.int .i64 0))),0,[]⟩]) .ret))))⟩
theorem pf14_is : pfs 14 = some pf14 := by kernel_rfl
def pf17 : PF := ⟨46,[.t 2,.c 3 true 3,.t 4],.seq (.reg [⟨some 2,none,.mov (.c (.v (.bool false))),0,[]⟩,⟨some 3,none,.alloc [.v (.int .i64 0),.v (.int .i64 0),.sl [] .nil],0,[]⟩,
 ⟨some 4,none,.mov (.c (.v (.int .i64 0))),0,[]⟩]) (.seq (.reg [⟨some 10,none,.mov (.t 0),0,[]⟩,⟨some 11,none,.call (.c (.fn 14 [])) [.t 10],0,[]⟩,⟨some 9,none,
 .mov (.t 11),0,[]⟩,⟨some 12,none,.ext (.t 9) 0,0,[]⟩,⟨some 13,none,.ext (.t 9) 1,0,[]⟩,⟨some 5,none,.mov (.t 12),0,[]⟩,⟨some 6,none,.mov (.t 13),0,[]⟩])
  (.seq (.seq (.reg [⟨some 14,none,.mov (.t 6),0,[]⟩,⟨some 15,none,.bin .neq (.t 14) (.c (.v (.int .i64 0))),0,[]⟩]) (.cond (.t 15) (.seq (.reg [⟨some 16,none,
 .build [.v (.int .i64 0),.v (.int .i64 0),.sl [] .nil] [],0,[]⟩,⟨some 17,none,.mov (.t 6),0,[]⟩,⟨some 2,none,.mov (.c (.v (.bool false))),0,[]⟩,⟨none,none,
 .store 3 (.t 3) (.t 16),0,[]⟩,⟨some 4,none,.mov (.t 17),0,[]⟩]) .ret) .skip)) (.seq (.seq (.reg [⟨some 18,none,.mov (.t 5),0,[]⟩,⟨some 19,none,.lenS (.t 18),0,[]⟩,
 ⟨some 20,none,.mov (.c (.v (.int .i64 0))),0,[]⟩]) (.block 0 (.loop (.seq (.reg [⟨some 21,none,.bin .lss (.t 20) (.t 19),0,[]⟩]) (.seq (.cond (.t 21) .skip (.exit 0))
  (.seq (.block 1 (.seq (.reg [⟨some 22,none,.iaddr 3 (.t 18) (.t 20),0,[]⟩,⟨some 23,none,.load true 3 (.t 22),0,[]⟩,⟨some 8,none,.alloc [.v (.int .i64 0),
 .v (.int .i64 0),.sl [] .nil],0,[]⟩,⟨none,none,.store 3 (.t 8) (.t 23),0,[]⟩]) (.seq (.dreg [4,0,0,0,0,0,0,4,0,0,0] [⟨some 24,none,.faddr 0 (.t 8),0,[]⟩,⟨some 25,none,
 .load false 1 (.t 24),1,[0]⟩,⟨some 26,none,.faddr 1 (.t 8),2,[]⟩,⟨some 27,none,.load false 1 (.t 26),3,[2]⟩,⟨some 28,none,.bin .eql (.t 25) (.t 27),4,[3,2,1,0]⟩,
 ⟨some 29,none,.mov (.t 28),5,[4,3,2,1,0]⟩,⟨some 30,some (29,true),.load true 3 (.t 8),6,[5,4,3,2,1,0]⟩,⟨some 31,some (29,true),.call (.c (.fn 34 [])) [.t 30],7,[6,5,4,3,
 2,1,0]⟩,⟨some 32,some (29,true),.un .not (.t 31),8,[7,6,5,4,3,2,1,0]⟩,⟨some 33,none,.pick (.t 29) (.t 32) (.c (.v (.bool false))),9,[8,7,6,5,4,3,2,1,0]⟩,⟨some 34,none,
 .mov (.t 33),10,[9,8,7,6,5,4,3,2,1,0]⟩,⟨some 35,some (34,true),.load true 3 (.t 8),11,[10,9,8,7,6,5,4,3,2,1,0]⟩,⟨some 36,some (34,true),.call (.c (.fn 36 [])) [.t 35],
 12,[11,10,9,8,7,6,5,4,3,2,1,0]⟩,⟨some 37,some (34,true),.load true 3 (.t 8),13,[10,9,8,7,6,5,4,3,2,1,0]⟩,⟨some 38,some (34,true),.load true 3 (.t 8),14,[10,9,8,7,6,5,4,
 3,2,1,0]⟩,⟨some 39,some (34,true),.call (.c (.fn 37 [])) [.t 37,.t 38],15,[12,11,14,13,10,9,8,7,6,5,4,3,2,1,0]⟩,⟨some 40,some (34,true),.call (.c (.fn 36 [])) [.t 39],
 16,[15,12,11,14,13,10,9,8,7,6,5,4,3,2,1,0]⟩,⟨some 41,some (34,true),.call (.c (.fn 35 [])) [.t 36,.t 40],17,[16,15,14,13,12,11,10,9,8,7,6,5,4,3,2,1,0]⟩,⟨some 42,none,
 .pick (.t 34) (.t 41) (.c (.v (.bool false))),18,[17,16,15,14,13,12,11,10,9,8,7,6,5,4,3,2,1,0]⟩]) (.cond (.t 42) (.seq (.dreg [2,0] [⟨some 43,none,.load true 3 (.t 8),0,
 []⟩,⟨some 2,none,.mov (.c (.v (.bool false))),1,[]⟩,⟨none,none,.store 3 (.t 3) (.t 43),2,[1,0]⟩,⟨some 4,none,.mov (.c (.v (.int .i64 0))),3,[2,1,0]⟩]) .ret) .skip))))
  (.reg [⟨some 44,none,.bin .add (.t 20) (.c (.v (.int .i64 1))),0,[]⟩,⟨some 20,none,.mov (.t 44),0,[]⟩]))))))) (.seq (.reg [⟨some 45,none,.build [.v (.int .i64 0),
 .v (.int .i64 0),.sl [] .nil] [],0,[]⟩,⟨some 2,none,.mov (.c (.v (.bool true))),0,[]⟩,⟨none,none,.store 3 (.t 3) (.t 45),0,[]⟩,⟨some 4,none,.mov (.c (.v (.int .i64 0))),
 0,[]⟩]) .ret))))⟩
theorem pf17_is : pfs 17 = some pf17 := by kernel_rfl
def pf28 : PF := ⟨36,[.t 6],.seq (.reg [⟨some 6,none,.mov (.c (.v (.bool false))),0,[]⟩]) (.seq (.seq (.reg [⟨some 8,none,.mov (.t 2),0,[]⟩,⟨some 9,none,.lenS (.t 8),0,[]⟩,⟨some 10,none,
 .mov (.t 0),0,[]⟩,⟨some 11,none,.nilck (.t 10),0,[]⟩,⟨some 12,none,.faddr 1 (.t 11),0,[]⟩,⟨some 13,none,.load false 1 (.t 12),0,[]⟩,⟨some 14,none,.mov (.t 1),0,[]⟩,
 ⟨some 15,none,.iaddr 1 (.t 13) (.t 14),0,[]⟩,⟨some 16,none,.load false 1 (.t 15),0,[]⟩,⟨some 17,none,.bin .eql (.t 9) (.t 16),0,[]⟩]) (.cond (.t 17)
  (.seq (.reg [⟨some 18,none,.mov (.t 0),0,[]⟩,⟨some 19,none,.mov (.t 1),0,[]⟩,⟨some 20,none,.mov (.t 2),0,[]⟩,⟨some 21,none,.call (.c (.fn 39 [])) [.t 18,.t 19,.t 20],0,
 []⟩,⟨some 6,none,.mov (.t 21),0,[]⟩]) .ret) .skip)) (.seq (.seq (.reg [⟨some 7,none,.mov (.c (.v (.int .i64 0))),0,[]⟩]) (.block 0 (.loop (.seq (.seq (.reg [⟨some 22,
 none,.mov (.t 7),0,[]⟩,⟨some 23,none,.bin .lss (.t 22) (.c (.v (.int .i64 3))),0,[]⟩]) (.cond (.t 23) .skip (.exit 0))) (.seq (.block 1 (.seq (.reg [⟨some 26,none,
 .mov (.t 0),0,[]⟩,⟨some 27,none,.mov (.t 1),0,[]⟩,⟨some 28,none,.bsl (.v (.int .i64 0)) 0 [],0,[]⟩,⟨some 29,none,.mov (.t 2),0,[]⟩,⟨some 30,none,.app 1 none (.t 28)
  (.t 29),0,[]⟩,⟨some 31,none,.mov (.t 7),0,[]⟩,⟨some 32,none,.bsl (.v (.int .i64 0)) 1 [(0,1,.t 31)],0,[]⟩,⟨some 33,none,.app 1 none (.t 30) (.t 32),0,[]⟩,⟨some 34,none,
 .call (.c (.fn 28 [])) [.t 26,.t 27,.t 33],0,[]⟩,⟨some 35,none,.un .not (.t 34),0,[]⟩]) (.cond (.t 35) (.seq (.reg [⟨some 6,none,.mov (.c (.v (.bool false))),0,[]⟩])
  .ret) .skip))) (.reg [⟨some 24,none,.mov (.t 7),0,[]⟩,⟨some 25,none,.bin .add (.t 24) (.c (.v (.int .i64 1))),0,[]⟩,⟨some 7,none,.mov (.t 25),0,[]⟩]))))))
  (.seq (.reg [⟨some 6,none,.mov (.c (.v (.bool true))),0,[]⟩]) .ret)))⟩
theorem pf28_is : pfs 28 = some pf28 := by kernel_rfl
def pf29 : PF := ⟨66,[.t 2],.seq (.reg [⟨some 2,none,.mov (.c (.v (.int .i64 0))),0,[]⟩]) (.seq (.seq (.reg [⟨some 10,none,.mov (.t 0),0,[]⟩,⟨some 11,none,.call (.c (.fn 40 [])) [.t 10,
 .c (.fn 41 [])],0,[]⟩]) (.cond (.t 11) (.seq (.reg [⟨some 2,none,.mov (.c (.v (.int .i64 3))),0,[]⟩]) .ret) .skip)) (.seq (.reg [⟨some 12,none,.mkmap,0,[]⟩,⟨some 3,none,
 .mov (.t 12),0,[]⟩]) (.seq (.seq (.reg [⟨some 13,none,.mov (.t 0),0,[]⟩,⟨some 14,none,.lenS (.t 13),0,[]⟩,⟨some 15,none,.mov (.c (.v (.int .i64 0))),0,[]⟩])
  (.block 0 (.loop (.seq (.reg [⟨some 16,none,.bin .lss (.t 15) (.t 14),0,[]⟩]) (.seq (.cond (.t 16) .skip (.exit 0)) (.seq (.block 1 (.seq (.reg [⟨some 17,none,
 .iaddr 3 (.t 13) (.t 15),0,[]⟩,⟨some 18,none,.load true 3 (.t 17),0,[]⟩,⟨some 5,none,.alloc [.v (.int .i64 0),.v (.int .i64 0),.sl [] .nil],0,[]⟩,⟨none,none,
 .store 3 (.t 5) (.t 18),0,[]⟩]) (.seq (.seq (.reg [⟨some 20,none,.mov (.t 3),0,[]⟩,⟨some 21,none,.faddr 0 (.t 5),0,[]⟩,⟨some 22,none,.load false 1 (.t 21),0,[]⟩,
 ⟨some 23,none,.look (.v (.int .i64 0)) true false (.t 20) (.t 22),0,[]⟩,⟨some 19,none,.mov (.t 23),0,[]⟩,⟨some 24,none,.ext (.t 19) 0,0,[]⟩,⟨some 25,none,.ext (.t 19) 1,
 0,[]⟩,⟨some 6,none,.mov (.t 24),0,[]⟩,⟨some 7,none,.mov (.t 25),0,[]⟩]) (.seq (.reg [⟨some 26,none,.mov (.t 7),0,[]⟩,⟨some 27,none,.mov (.t 26),0,[]⟩,⟨some 28,some (27,
 true),.mov (.t 6),0,[]⟩,⟨some 29,some (27,true),.faddr 2 (.t 5),0,[]⟩,⟨some 30,some (27,true),.load false 1 (.t 29),0,[]⟩,⟨some 31,some (27,true),.iaddr 1 (.t 30)
  (.c (.v (.int .i64 0))),0,[]⟩,⟨some 32,some (27,true),.load false 1 (.t 31),0,[]⟩,⟨some 33,some (27,true),.lenS (.t 32),0,[]⟩,⟨some 34,some (27,true),.bin .neq (.t 28)
  (.t 33),0,[]⟩,⟨some 35,none,.pick (.t 27) (.t 34) (.c (.v (.bool false))),0,[]⟩]) (.cond (.t 35) (.seq (.reg [⟨some 2,none,.mov (.c (.v (.int .i64 1))),0,[]⟩]) .ret)
  .skip))) (.seq (.dreg [8] [⟨some 36,none,.mov (.t 3),0,[]⟩,⟨some 37,none,.faddr 0 (.t 5),1,[]⟩,⟨some 38,none,.load false 1 (.t 37),2,[1]⟩,⟨some 39,none,.faddr 2 (.t 5),
 3,[]⟩,⟨some 40,none,.load false 1 (.t 39),4,[3]⟩,⟨some 41,none,.iaddr 1 (.t 40) (.c (.v (.int .i64 0))),5,[4,3]⟩,⟨some 42,none,.load false 1 (.t 41),6,[5,4,3]⟩,⟨some 43,
 none,.lenS (.t 42),7,[6,5,4,3]⟩,⟨none,none,.mapup false (.t 36) (.t 38) (.t 43),8,[7,6,5,4,3,2,1,0]⟩]) (.seq (.seq (.reg [⟨some 45,none,.mov (.t 3),0,[]⟩,⟨some 46,none,
 .faddr 1 (.t 5),0,[]⟩,⟨some 47,none,.load false 1 (.t 46),0,[]⟩,⟨some 48,none,.look (.v (.int .i64 0)) true false (.t 45) (.t 47),0,[]⟩,⟨some 44,none,.mov (.t 48),0,[]⟩,
 ⟨some 49,none,.ext (.t 44) 0,0,[]⟩,⟨some 50,none,.ext (.t 44) 1,0,[]⟩,⟨some 8,none,.mov (.t 49),0,[]⟩,⟨some 9,none,.mov (.t 50),0,[]⟩]) (.seq (.reg [⟨some 51,none,
 .mov (.t 9),0,[]⟩,⟨some 52,none,.mov (.t 51),0,[]⟩,⟨some 53,some (52,true),.mov (.t 8),0,[]⟩,⟨some 54,some (52,true),.faddr 2 (.t 5),0,[]⟩,⟨some 55,some (52,true),
 .load false 1 (.t 54),0,[]⟩,⟨some 56,some (52,true),.lenS (.t 55),0,[]⟩,⟨some 57,some (52,true),.bin .neq (.t 53) (.t 56),0,[]⟩,⟨some 58,none,.pick (.t 52) (.t 57)
  (.c (.v (.bool false))),0,[]⟩]) (.cond (.t 58) (.seq (.reg [⟨some 2,none,.mov (.c (.v (.int .i64 1))),0,[]⟩]) .ret) .skip))) (.reg [⟨some 59,none,.mov (.t 3),0,[]⟩,
 ⟨some 60,none,.faddr 1 (.t 5),0,[]⟩,⟨some 61,none,.load false 1 (.t 60),0,[]⟩,⟨some 62,none,.faddr 2 (.t 5),0,[]⟩,⟨some 63,none,.load false 1 (.t 62),0,[]⟩,⟨some 64,
 none,.lenS (.t 63),0,[]⟩,⟨none,none,.mapup false (.t 59) (.t 61) (.t 64),0,[]⟩])))))) (.reg [⟨some 65,none,.bin .add (.t 15) (.c (.v (.int .i64 1))),0,[]⟩,⟨some 15,none,
 .mov (.t 65),0,[]⟩]))))))) (.seq (.reg [⟨some 2,none,.mov (.c (.v (.int .i64 0))),0,[]⟩]) .ret))))⟩
theorem pf29_is : pfs 29 = some pf29 := by kernel_rfl
def pf31 : PF := ⟨103,[.t 2],.seq (.reg [⟨some 2,none,.mov (.c (.v (.int .i64 0))),0,[]⟩]) (.seq (.seq (.reg [⟨some 3,none,.mov (.c (.v (.int .i64 0))),0,[]⟩])
  (.block 0 (.loop (.seq (.seq (.reg [⟨some 13,none,.mov (.t 3),0,[]⟩,⟨some 14,none,.mov (.t 0),0,[]⟩,⟨some 15,none,.lenS (.t 14),0,[]⟩,⟨some 16,none,.bin .lss (.t 13)
  (.t 15),0,[]⟩]) (.cond (.t 16) .skip (.exit 0))) (.seq (.block 1 (.seq (.reg [⟨some 19,none,.mov (.t 0),0,[]⟩,⟨some 20,none,.mov (.t 3),0,[]⟩,⟨some 21,none,
 .iaddr 3 (.t 19) (.t 20),0,[]⟩,⟨some 22,none,.load true 3 (.t 21),0,[]⟩,⟨some 23,none,.call (.c (.fn 49 [])) [.t 22],0,[]⟩,⟨some 4,none,.mov (.t 23),0,[]⟩])
  (.seq (.reg [⟨some 24,none,.mov (.t 4),0,[]⟩,⟨some 25,none,.bin .neq (.t 24) (.c (.v (.int .i64 0))),0,[]⟩]) (.cond (.t 25) (.seq (.reg [⟨some 26,none,.mov (.t 4),0,[]⟩
 ,⟨some 2,none,.mov (.t 26),0,[]⟩]) .ret) .skip)))) (.reg [⟨some 17,none,.mov (.t 3),0,[]⟩,⟨some 18,none,.bin .add (.t 17) (.c (.v (.int .i64 1))),0,[]⟩,⟨some 3,none,
 .mov (.t 18),0,[]⟩])))))) (.seq (.reg [⟨some 5,none,.mov (.c (.sl [] .nil)),0,[]⟩,⟨some 6,none,.mov (.c (.sl [] .nil)),0,[]⟩]) (.seq (.seq (.reg [⟨some 7,none,
 .mov (.c (.v (.int .i64 0))),0,[]⟩]) (.block 2 (.loop (.seq (.seq (.reg [⟨some 27,none,.mov (.t 7),0,[]⟩,⟨some 28,none,.mov (.t 0),0,[]⟩,⟨some 29,none,.lenS (.t 28),0,[]
 ⟩,⟨some 30,none,.bin .lss (.t 27) (.t 29),0,[]⟩]) (.cond (.t 30) .skip (.exit 2))) (.seq (.block 3 (.seq (.dreg [10,0] [⟨some 33,none,.mov (.t 0),0,[]⟩,⟨some 34,none,
 .mov (.t 7),1,[]⟩,⟨some 35,none,.iaddr 3 (.t 33) (.t 34),2,[1,0]⟩,⟨some 36,none,.faddr 0 (.t 35),3,[2,1,0]⟩,⟨some 37,none,.load false 1 (.t 36),4,[3,2,1,0]⟩,⟨some 38,
 none,.mov (.t 0),5,[]⟩,⟨some 39,none,.mov (.t 7),6,[]⟩,⟨some 40,none,.iaddr 3 (.t 38) (.t 39),7,[6,5]⟩,⟨some 41,none,.faddr 1 (.t 40),8,[7,6,5]⟩,⟨some 42,none,
 .load false 1 (.t 41),9,[8,7,6,5]⟩,⟨some 43,none,.bsl (.v (.int .i64 0)) 2 [(0,1,.t 37),(1,1,.t 42)],10,[9,8,7,6,5,4,3,2,1,0]⟩,⟨some 8,none,.mov (.t 43),11,[10,9,8,7,6,
 5,4,3,2,1,0]⟩]) (.seq (.dreg [14,0] [⟨some 44,none,.mov (.t 0),0,[]⟩,⟨some 45,none,.mov (.t 7),1,[]⟩,⟨some 46,none,.iaddr 3 (.t 44) (.t 45),2,[1,0]⟩,⟨some 47,none,
 .faddr 2 (.t 46),3,[2,1,0]⟩,⟨some 48,none,.load false 1 (.t 47),4,[3,2,1,0]⟩,⟨some 49,none,.iaddr 1 (.t 48) (.c (.v (.int .i64 0))),5,[4,3,2,1,0]⟩,⟨some 50,none,
 .load false 1 (.t 49),6,[5,4,3,2,1,0]⟩,⟨some 51,none,.lenS (.t 50),7,[6,5,4,3,2,1,0]⟩,⟨some 52,none,.mov (.t 0),8,[]⟩,⟨some 53,none,.mov (.t 7),9,[]⟩,⟨some 54,none,
 .iaddr 3 (.t 52) (.t 53),10,[9,8]⟩,⟨some 55,none,.faddr 2 (.t 54),11,[10,9,8]⟩,⟨some 56,none,.load false 1 (.t 55),12,[11,10,9,8]⟩,⟨some 57,none,.lenS (.t 56),13,[12,11,
 10,9,8]⟩,⟨some 58,none,.bsl (.v (.int .i64 0)) 2 [(0,1,.t 51),(1,1,.t 57)],14,[13,12,11,10,9,8,7,6,5,4,3,2,1,0]⟩,⟨some 9,none,.mov (.t 58),15,[14,13,12,11,10,9,8,7,6,5,
 4,3,2,1,0]⟩]) (.seq (.reg [⟨some 10,none,.mov (.c (.v (.int .i64 0))),0,[]⟩]) (.block 4 (.loop (.seq (.seq (.reg [⟨some 59,none,.mov (.t 10),0,[]⟩,⟨some 60,none,
 .bin .lss (.t 59) (.c (.v (.int .i64 2))),0,[]⟩]) (.cond (.t 60) .skip (.exit 4))) (.seq (.block 5 (.seq (.reg [⟨some 11,none,.mov (.c (.v (.bool false))),0,[]⟩])
  (.seq (.seq (.reg [⟨some 12,none,.mov (.c (.v (.int .i64 0))),0,[]⟩]) (.block 6 (.loop (.seq (.seq (.reg [⟨some 63,none,.mov (.t 12),0,[]⟩,⟨some 64,none,.mov (.t 5),0,
 []⟩,⟨some 65,none,.lenS (.t 64),0,[]⟩,⟨some 66,none,.bin .lss (.t 63) (.t 65),0,[]⟩]) (.cond (.t 66) .skip (.exit 6))) (.seq (.block 7 (.seq (.seq (.dreg [8] [⟨some 69,
 none,.mov (.t 5),0,[]⟩,⟨some 70,none,.mov (.t 12),1,[]⟩,⟨some 71,none,.iaddr 1 (.t 69) (.t 70),2,[1,0]⟩,⟨some 72,none,.load false 1 (.t 71),3,[2,1,0]⟩,⟨some 73,none,
 .mov (.t 8),4,[]⟩,⟨some 74,none,.mov (.t 10),5,[]⟩,⟨some 75,none,.iaddr 1 (.t 73) (.t 74),6,[5,4]⟩,⟨some 76,none,.load false 1 (.t 75),7,[6,5,4]⟩,⟨some 77,none,
 .bin .neq (.t 72) (.t 76),8,[7,6,5,4,3,2,1,0]⟩]) (.cond (.t 77) (.exit 7) .skip)) (.seq (.seq (.dreg [8] [⟨some 78,none,.mov (.t 6),0,[]⟩,⟨some 79,none,.mov (.t 12),1,[]
 ⟩,⟨some 80,none,.iaddr 1 (.t 78) (.t 79),2,[1,0]⟩,⟨some 81,none,.load false 1 (.t 80),3,[2,1,0]⟩,⟨some 82,none,.mov (.t 9),4,[]⟩,⟨some 83,none,.mov (.t 10),5,[]⟩,
 ⟨some 84,none,.iaddr 1 (.t 82) (.t 83),6,[5,4]⟩,⟨some 85,none,.load false 1 (.t 84),7,[6,5,4]⟩,⟨some 86,none,.bin .neq (.t 81) (.t 85),8,[7,6,5,4,3,2,1,0]⟩])
  (.cond (.t 86) (.seq (.reg [⟨some 2,none,.mov (.c (.v (.int .i64 1))),0,[]⟩]) .ret) .skip)) (.reg [⟨some 11,none,.mov (.c (.v (.bool true))),0,[]⟩])))) (.reg [⟨some 67,
 none,.mov (.t 12),0,[]⟩,⟨some 68,none,.bin .add (.t 67) (.c (.v (.int .i64 1))),0,[]⟩,⟨some 12,none,.mov (.t 68),0,[]⟩])))))) (.seq (.reg [⟨some 87,none,.mov (.t 11),0,
 []⟩,⟨some 88,none,.un .not (.t 87),0,[]⟩]) (.cond (.t 88) (.dreg [13,0,0] [⟨some 89,none,.mov (.t 5),0,[]⟩,⟨some 90,none,.mov (.t 8),1,[]⟩,⟨some 91,none,.mov (.t 10),2,
 []⟩,⟨some 92,none,.iaddr 1 (.t 90) (.t 91),3,[2,1]⟩,⟨some 93,none,.load false 1 (.t 92),4,[3,2,1]⟩,⟨some 94,none,.bsl (.v (.int .i64 0)) 1 [(0,1,.t 93)],5,[4,3,2,1]⟩,
 ⟨some 95,none,.app 1 none (.t 89) (.t 94),6,[5,4,3,2,1,0]⟩,⟨some 96,none,.mov (.t 6),7,[]⟩,⟨some 97,none,.mov (.t 9),8,[]⟩,⟨some 98,none,.mov (.t 10),9,[]⟩,⟨some 99,
 none,.iaddr 1 (.t 97) (.t 98),10,[9,8]⟩,⟨some 100,none,.load false 1 (.t 99),11,[10,9,8]⟩,⟨some 101,none,.bsl (.v (.int .i64 0)) 1 [(0,1,.t 100)],12,[11,10,9,8]⟩,
 ⟨some 102,none,.app 1 none (.t 96) (.t 101),13,[6,5,4,3,2,1,0,12,11,10,9,8,7]⟩,⟨some 5,none,.mov (.t 95),14,[13,12,11,10,9,8,7,6,5,4,3,2,1,0]⟩,⟨some 6,none,.mov (.t 102)
 ,15,[14,13,6,5,4,3,2,1,0,12,11,10,9,8,7]⟩]) .skip))))) (.reg [⟨some 61,none,.mov (.t 10),0,[]⟩,⟨some 62,none,.bin .add (.t 61) (.c (.v (.int .i64 1))),0,[]⟩,⟨some 10,
 none,.mov (.t 62),0,[]⟩]))))))))) (.reg [⟨some 31,none,.mov (.t 7),0,[]⟩,⟨some 32,none,.bin .add (.t 31) (.c (.v (.int .i64 1))),0,[]⟩,⟨some 7,none,.mov (.t 32),0,[]⟩]))
 )))) (.seq (.reg [⟨some 2,none,.mov (.c (.v (.int .i64 0))),0,[]⟩]) .ret))))⟩
theorem pf31_is : pfs 31 = some pf31 := by kernel_rfl
def pf34 : PF := ⟨25,[.t 2],.seq (.reg [⟨some 1,none,.box (.t 0),0,[]⟩,⟨some 2,none,.mov (.c (.v (.bool false))),0,[]⟩]) (.seq (.seq (.reg [⟨some 5,none,.faddr 2 (.t 1),0,[]⟩,⟨some 6,
 none,.load false 1 (.t 5),0,[]⟩,⟨some 7,none,.lenS (.t 6),0,[]⟩,⟨some 8,none,.mov (.c (.v (.int .i64 0))),0,[]⟩]) (.block 0 (.loop (.seq (.reg [⟨some 9,none,
 .bin .lss (.t 8) (.t 7),0,[]⟩]) (.seq (.cond (.t 9) .skip (.exit 0)) (.seq (.block 1 (.seq (.reg [⟨some 10,none,.mov (.t 8),0,[]⟩,⟨some 11,none,.iaddr 1 (.t 6) (.t 8),0,
 []⟩,⟨some 12,none,.load false 1 (.t 11),0,[]⟩,⟨some 3,none,.mov (.t 10),0,[]⟩,⟨some 4,none,.mov (.t 12),0,[]⟩]) (.seq (.reg [⟨some 13,none,.mov (.t 3),0,[]⟩,⟨some 14,
 none,.mov (.t 4),0,[]⟩,⟨some 15,none,.lenS (.t 14),0,[]⟩,⟨some 16,none,.bin .lss (.t 13) (.t 15),0,[]⟩,⟨some 17,none,.mov (.t 16),0,[]⟩,⟨some 18,some (17,true),
 .mov (.t 4),0,[]⟩,⟨some 19,some (17,true),.mov (.t 3),0,[]⟩,⟨some 20,some (17,true),.iaddr 1 (.t 18) (.t 19),0,[]⟩,⟨some 21,some (17,true),.load false 1 (.t 20),0,[]⟩,
 ⟨some 22,some (17,true),.bin .eql (.t 21) (.c (.v (.int .i64 2))),0,[]⟩,⟨some 23,none,.pick (.t 17) (.t 22) (.c (.v (.bool false))),0,[]⟩]) (.cond (.t 23)
  (.seq (.reg [⟨some 2,none,.mov (.c (.v (.bool true))),0,[]⟩]) .ret) .skip)))) (.reg [⟨some 24,none,.bin .add (.t 8) (.c (.v (.int .i64 1))),0,[]⟩,⟨some 8,none,
 .mov (.t 24),0,[]⟩]))))))) (.seq (.reg [⟨some 2,none,.mov (.c (.v (.bool false))),0,[]⟩]) .ret))⟩
theorem pf34_is : pfs 34 = some pf34 := by kernel_rfl
def pf35 : PF := ⟨26,[.t 4],.seq (.reg [⟨some 4,none,.mov (.c (.v (.bool false))),0,[]⟩]) (.seq (.seq (.reg [⟨some 6,none,.mov (.t 0),0,[]⟩,⟨some 7,none,.lenS (.t 6),0,[]⟩,⟨some 8,none,
 .mov (.t 1),0,[]⟩,⟨some 9,none,.lenS (.t 8),0,[]⟩,⟨some 10,none,.bin .neq (.t 7) (.t 9),0,[]⟩]) (.cond (.t 10) (.seq (.reg [⟨some 4,none,.mov (.c (.v (.bool false))),0,
 []⟩]) .ret) .skip)) (.seq (.seq (.reg [⟨some 11,none,.mov (.t 0),0,[]⟩,⟨some 12,none,.lenS (.t 11),0,[]⟩,⟨some 13,none,.mov (.c (.v (.int .i64 0))),0,[]⟩])
  (.block 0 (.loop (.seq (.reg [⟨some 14,none,.bin .lss (.t 13) (.t 12),0,[]⟩]) (.seq (.cond (.t 14) .skip (.exit 0)) (.seq (.block 1 (.seq (.reg [⟨some 15,none,
 .mov (.t 13),0,[]⟩,⟨some 5,none,.mov (.t 15),0,[]⟩]) (.seq (.dreg [8] [⟨some 16,none,.mov (.t 0),0,[]⟩,⟨some 17,none,.mov (.t 5),1,[]⟩,⟨some 18,none,.iaddr 1 (.t 16)
  (.t 17),2,[1,0]⟩,⟨some 19,none,.load false 1 (.t 18),3,[2,1,0]⟩,⟨some 20,none,.mov (.t 1),4,[]⟩,⟨some 21,none,.mov (.t 5),5,[]⟩,⟨some 22,none,.iaddr 1 (.t 20) (.t 21),
 6,[5,4]⟩,⟨some 23,none,.load false 1 (.t 22),7,[6,5,4]⟩,⟨some 24,none,.bin .neq (.t 19) (.t 23),8,[7,6,5,4,3,2,1,0]⟩]) (.cond (.t 24) (.seq (.reg [⟨some 4,none,
 .mov (.c (.v (.bool false))),0,[]⟩]) .ret) .skip)))) (.reg [⟨some 25,none,.bin .add (.t 13) (.c (.v (.int .i64 1))),0,[]⟩,⟨some 13,none,.mov (.t 25),0,[]⟩])))))))
  (.seq (.reg [⟨some 4,none,.mov (.c (.v (.bool true))),0,[]⟩]) .ret)))⟩
theorem pf35_is : pfs 35 = some pf35 := by kernel_rfl
def pf36 : PF := ⟨12,[.t 2],.seq (.reg [⟨some 1,none,.box (.t 0),0,[]⟩,⟨some 2,none,.mov (.c (.sl [] .nil)),0,[]⟩]) (.seq (.dreg [8,0] [⟨some 3,none,.faddr 0 (.t 1),0,[]⟩,⟨some 4,none,
 .load false 1 (.t 3),1,[0]⟩,⟨some 5,none,.faddr 1 (.t 1),2,[]⟩,⟨some 6,none,.load false 1 (.t 5),3,[2]⟩,⟨some 7,none,.bsl (.v (.int .i64 0)) 2 [(0,1,.t 4),(1,1,.t 6)],4,
 [3,2,1,0]⟩,⟨some 8,none,.faddr 2 (.t 1),5,[]⟩,⟨some 9,none,.load false 1 (.t 8),6,[5]⟩,⟨some 10,none,.call (.c (.fn 50 [])) [.t 9],7,[6,5]⟩,⟨some 11,none,
 .app 1 none (.t 7) (.t 10),8,[7,6,5,4,3,2,1,0]⟩,⟨some 2,none,.mov (.t 11),9,[8,7,6,5,4,3,2,1,0]⟩]) .ret)⟩
theorem pf36_is : pfs 36 = some pf36 := by kernel_rfl
def pf37 : PF := ⟨79,[.c 4 true 3],.seq (.reg [⟨some 2,none,.box (.t 0),0,[]⟩,⟨some 3,none,.box (.t 1),0,[]⟩,⟨some 4,none,.alloc [.v (.int .i64 0),.v (.int .i64 0),.sl [] .nil],0,[]⟩])
  (.seq (.reg [⟨some 13,none,.faddr 0 (.t 2),0,[]⟩,⟨some 14,none,.load false 1 (.t 13),0,[]⟩,⟨some 15,none,.faddr 1 (.t 3),0,[]⟩,⟨some 16,none,.load false 1 (.t 15),0,[]⟩
 ,⟨some 17,none,.build [.v (.int .i64 0),.v (.int .i64 0),.sl [] .nil] [(0,1,.t 14),(1,1,.t 16)],0,[]⟩,⟨some 5,none,.alloc [.v (.int .i64 0),.v (.int .i64 0),.sl [] .nil]
 ,0,[]⟩,⟨none,none,.store 3 (.t 5) (.t 17),0,[]⟩]) (.seq (.seq (.reg [⟨some 18,none,.faddr 2 (.t 3),0,[]⟩,⟨some 19,none,.load false 1 (.t 18),0,[]⟩,⟨some 20,none,
 .lenS (.t 19),0,[]⟩,⟨some 21,none,.mov (.c (.v (.int .i64 0))),0,[]⟩]) (.block 0 (.loop (.seq (.reg [⟨some 22,none,.bin .lss (.t 21) (.t 20),0,[]⟩]) (.seq (.cond (.t 22)
  .skip (.exit 0)) (.seq (.block 1 (.seq (.reg [⟨some 23,none,.iaddr 1 (.t 19) (.t 21),0,[]⟩,⟨some 24,none,.load false 1 (.t 23),0,[]⟩,⟨some 7,none,.mov (.t 24),0,[]⟩])
  (.seq (.reg [⟨some 25,none,.faddr 2 (.t 2),0,[]⟩,⟨some 26,none,.load false 1 (.t 25),0,[]⟩,⟨some 27,none,.iaddr 1 (.t 26) (.c (.v (.int .i64 0))),0,[]⟩,⟨some 28,none,
 .load false 1 (.t 27),0,[]⟩,⟨some 29,none,.lenS (.t 28),0,[]⟩,⟨some 30,none,.mksl (.v (.int .i64 0)) 1 false (.t 29),0,[]⟩,⟨some 8,none,.mov (.t 30),0,[]⟩])
  (.seq (.seq (.reg [⟨some 31,none,.mov (.t 7),0,[]⟩,⟨some 32,none,.lenS (.t 31),0,[]⟩,⟨some 33,none,.mov (.c (.v (.int .i64 0))),0,[]⟩])
  (.block 2 (.loop (.seq (.reg [⟨some 34,none,.bin .lss (.t 33) (.t 32),0,[]⟩]) (.seq (.cond (.t 34) .skip (.exit 2)) (.seq (.block 3 (.seq (.reg [⟨some 35,none,
 .mov (.t 33),0,[]⟩,⟨some 36,none,.iaddr 1 (.t 31) (.t 33),0,[]⟩,⟨some 37,none,.load false 1 (.t 36),0,[]⟩,⟨some 9,none,.mov (.t 35),0,[]⟩,⟨some 10,none,.mov (.t 37),0,[]
 ⟩]) (.seq (.seq (.reg [⟨some 38,none,.mov (.t 10),0,[]⟩,⟨some 39,none,.bin .eql (.t 38) (.c (.v (.int .i64 0))),0,[]⟩]) (.cond (.t 39) (.exit 3) .skip))
  (.seq (.reg [⟨some 40,none,.faddr 2 (.t 2),0,[]⟩,⟨some 41,none,.load false 1 (.t 40),0,[]⟩,⟨some 42,none,.mov (.t 9),0,[]⟩,⟨some 43,none,.iaddr 1 (.t 41) (.t 42),0,[]⟩,
 ⟨some 44,none,.load false 1 (.t 43),0,[]⟩,⟨some 45,none,.lenS (.t 44),0,[]⟩,⟨some 46,none,.mov (.c (.v (.int .i64 0))),0,[]⟩]) (.block 4 (.loop (.seq (.reg [⟨some 47,
 none,.bin .lss (.t 46) (.t 45),0,[]⟩]) (.seq (.cond (.t 47) .skip (.exit 4)) (.seq (.block 5 (.seq (.reg [⟨some 48,none,.mov (.t 46),0,[]⟩,⟨some 49,none,.iaddr 1 (.t 44)
  (.t 46),0,[]⟩,⟨some 50,none,.load false 1 (.t 49),0,[]⟩,⟨some 11,none,.mov (.t 48),0,[]⟩,⟨some 12,none,.mov (.t 50),0,[]⟩]) (.seq (.reg [⟨some 51,none,.mov (.t 12),0,[]
 ⟩,⟨some 52,none,.bin .neq (.t 51) (.c (.v (.int .i64 0))),0,[]⟩,⟨some 53,none,.mov (.t 52),0,[]⟩,⟨some 54,some (53,true),.mov (.t 10),0,[]⟩,⟨some 55,some (53,true),
 .mov (.t 12),0,[]⟩,⟨some 56,some (53,true),.max (.t 54) (.t 55),0,[]⟩,⟨some 57,some (53,true),.mov (.t 8),0,[]⟩,⟨some 58,some (53,true),.mov (.t 11),0,[]⟩,⟨some 59,
 some (53,true),.iaddr 1 (.t 57) (.t 58),0,[]⟩,⟨some 60,some (53,true),.load false 1 (.t 59),0,[]⟩,⟨some 61,some (53,true),.bin .gtr (.t 56) (.t 60),0,[]⟩,⟨some 62,none,
 .pick (.t 53) (.t 61) (.c (.v (.bool false))),0,[]⟩]) (.cond (.t 62) (.reg [⟨some 63,none,.mov (.t 8),0,[]⟩,⟨some 64,none,.mov (.t 11),0,[]⟩,⟨some 65,none,.mov (.t 10),
 0,[]⟩,⟨some 66,none,.mov (.t 12),0,[]⟩,⟨some 67,none,.max (.t 65) (.t 66),0,[]⟩,⟨some 68,none,.iaddr 1 (.t 63) (.t 64),0,[]⟩,⟨none,none,.store 1 (.t 68) (.t 67),0,[]⟩])
  .skip)))) (.reg [⟨some 69,none,.bin .add (.t 46) (.c (.v (.int .i64 1))),0,[]⟩,⟨some 46,none,.mov (.t 69),0,[]⟩])))))))))) (.reg [⟨some 70,none,.bin .add (.t 33)
  (.c (.v (.int .i64 1))),0,[]⟩,⟨some 33,none,.mov (.t 70),0,[]⟩]))))))) (.reg [⟨some 71,none,.faddr 2 (.t 5),0,[]⟩,⟨some 72,none,.load false 1 (.t 71),0,[]⟩,⟨some 73,
 none,.mov (.t 8),0,[]⟩,⟨some 74,none,.bsl (.sl [] .nil) 1 [(0,1,.t 73)],0,[]⟩,⟨some 75,none,.app 1 none (.t 72) (.t 74),0,[]⟩,⟨some 76,none,.faddr 2 (.t 5),0,[]⟩,⟨none,
 none,.store 1 (.t 76) (.t 75),0,[]⟩]))))) (.reg [⟨some 77,none,.bin .add (.t 21) (.c (.v (.int .i64 1))),0,[]⟩,⟨some 21,none,.mov (.t 77),0,[]⟩])))))))
  (.seq (.reg [⟨some 78,none,.load true 3 (.t 5),0,[]⟩,⟨none,none,.store 3 (.t 4) (.t 78),0,[]⟩]) .ret)))⟩
theorem pf37_is : pfs 37 = some pf37 := by kernel_rfl
def pf39 : PF := ⟨66,[.t 6],.seq (.reg [⟨some 6,none,.mov (.c (.v (.bool false))),0,[]⟩]) (.seq (.reg [⟨some 10,none,.mov (.t 0),0,[]⟩,⟨some 11,none,.mov (.t 1),0,[]⟩,⟨some 12,none,
 .mov (.t 2),0,[]⟩,⟨some 13,none,.call (.c (.fn 51 [])) [.t 10,.t 11,.t 12],0,[]⟩,⟨some 7,none,.mov (.t 13),0,[]⟩]) (.seq (.seq (.reg [⟨some 14,none,.mov (.t 0),0,[]⟩,
 ⟨some 15,none,.nilck (.t 14),0,[]⟩,⟨some 16,none,.faddr 2 (.t 15),0,[]⟩,⟨some 17,none,.load false 1 (.t 16),0,[]⟩,⟨some 18,none,.mov (.t 7),0,[]⟩,⟨some 19,none,
 .look (.v (.int .i64 0)) false false (.t 17) (.t 18),0,[]⟩,⟨some 8,none,.mov (.t 19),0,[]⟩]) (.seq (.reg [⟨some 20,none,.mov (.t 8),0,[]⟩,⟨some 21,none,.bin .gtr (.t 20)
  (.c (.v (.int .i64 0))),0,[]⟩]) (.cond (.t 21) (.seq (.reg [⟨some 22,none,.mov (.t 8),0,[]⟩,⟨some 23,none,.bin .eql (.t 22) (.c (.v (.int .i64 2))),0,[]⟩,⟨some 6,none,
 .mov (.t 23),0,[]⟩]) .ret) .skip))) (.seq (.reg [⟨some 24,none,.mov (.t 0),0,[]⟩,⟨some 25,none,.nilck (.t 24),0,[]⟩,⟨some 26,none,.faddr 2 (.t 25),0,[]⟩,⟨some 27,none,
 .load false 1 (.t 26),0,[]⟩,⟨some 28,none,.mov (.t 7),0,[]⟩,⟨none,none,.mapup false (.t 27) (.t 28) (.c (.v (.int .i64 1))),0,[]⟩]) (.seq (.seq (.reg [⟨some 9,none,
 .mov (.c (.v (.int .i64 0))),0,[]⟩]) (.block 0 (.loop (.seq (.seq (.reg [⟨some 29,none,.mov (.t 9),0,[]⟩,⟨some 30,none,.mov (.t 0),0,[]⟩,⟨some 31,none,.nilck (.t 30),0,
 []⟩,⟨some 32,none,.faddr 0 (.t 31),0,[]⟩,⟨some 33,none,.load false 1 (.t 32),0,[]⟩,⟨some 34,none,.lenS (.t 33),0,[]⟩,⟨some 35,none,.bin .lss (.t 29) (.t 34),0,[]⟩])
  (.cond (.t 35) .skip (.exit 0))) (.seq (.block 1 (.seq (.reg [⟨some 38,none,.mov (.t 0),0,[]⟩,⟨some 39,none,.nilck (.t 38),0,[]⟩,⟨some 40,none,.faddr 0 (.t 39),0,[]⟩,
 ⟨some 41,none,.load false 1 (.t 40),0,[]⟩,⟨some 42,none,.mov (.t 9),0,[]⟩,⟨some 43,none,.iaddr 3 (.t 41) (.t 42),0,[]⟩,⟨some 44,none,.faddr 0 (.t 43),0,[]⟩,⟨some 45,
 none,.load false 1 (.t 44),0,[]⟩,⟨some 46,none,.mov (.t 1),0,[]⟩,⟨some 47,none,.bin .eql (.t 45) (.t 46),0,[]⟩,⟨some 48,none,.mov (.t 47),0,[]⟩,⟨some 49,some (48,true),
 .mov (.t 0),0,[]⟩,⟨some 50,some (48,true),.mov (.t 0),0,[]⟩,⟨some 51,some (48,true),.nilck (.t 50),0,[]⟩,⟨some 52,some (48,true),.faddr 0 (.t 51),0,[]⟩,⟨some 53,
 some (48,true),.load false 1 (.t 52),0,[]⟩,⟨some 54,some (48,true),.mov (.t 9),0,[]⟩,⟨some 55,some (48,true),.iaddr 3 (.t 53) (.t 54),0,[]⟩,⟨some 56,some (48,true),
 .load true 3 (.t 55),0,[]⟩,⟨some 57,some (48,true),.mov (.t 2),0,[]⟩,⟨some 58,some (48,true),.call (.c (.fn 52 [])) [.t 49,.t 56,.t 57,.c (.sl [] .nil)],0,[]⟩,⟨some 59,
 some (48,true),.un .not (.t 58),0,[]⟩,⟨some 60,none,.pick (.t 48) (.t 59) (.c (.v (.bool false))),0,[]⟩]) (.cond (.t 60) (.seq (.reg [⟨some 6,none,
 .mov (.c (.v (.bool false))),0,[]⟩]) .ret) .skip))) (.reg [⟨some 36,none,.mov (.t 9),0,[]⟩,⟨some 37,none,.bin .add (.t 36) (.c (.v (.int .i64 1))),0,[]⟩,⟨some 9,none,
 .mov (.t 37),0,[]⟩])))))) (.seq (.reg [⟨some 61,none,.mov (.t 0),0,[]⟩,⟨some 62,none,.nilck (.t 61),0,[]⟩,⟨some 63,none,.faddr 2 (.t 62),0,[]⟩,⟨some 64,none,
 .load false 1 (.t 63),0,[]⟩,⟨some 65,none,.mov (.t 7),0,[]⟩,⟨none,none,.mapup false (.t 64) (.t 65) (.c (.v (.int .i64 2))),0,[]⟩]) (.seq (.reg [⟨some 6,none,
 .mov (.c (.v (.bool true))),0,[]⟩]) .ret))))))⟩
theorem pf39_is : pfs 39 = some pf39 := by kernel_rfl
def pf40 : PF := ⟨9,[.t 4],.seq (.reg [⟨some 4,none,.mov (.c (.v (.bool false))),0,[]⟩]) (.seq (.reg [⟨some 5,none,.mov (.t 0),0,[]⟩,⟨some 6,none,.mov (.t 1),0,[]⟩,⟨some 7,none,
 .call (.c (.fn 53 [])) [.t 5,.t 6],0,[]⟩,⟨some 8,none,.bin .geq (.t 7) (.c (.v (.int .i64 0))),0,[]⟩,⟨some 4,none,.mov (.t 8),0,[]⟩]) .ret)⟩
theorem pf40_is : pfs 40 = some pf40 := by kernel_rfl
def pf41 : PF := ⟨6,[.t 2],.seq (.reg [⟨some 1,none,.box (.t 0),0,[]⟩,⟨some 2,none,.mov (.c (.v (.bool false))),0,[]⟩]) (.seq (.reg [⟨some 3,none,.load true 3 (.t 1),0,[]⟩,⟨some 4,none,
 .call (.c (.fn 42 [])) [.t 3],0,[]⟩,⟨some 5,none,.un .not (.t 4),0,[]⟩,⟨some 2,none,.mov (.t 5),0,[]⟩]) .ret)⟩
theorem pf41_is : pfs 41 = some pf41 := by kernel_rfl
def pf42 : PF := ⟨42,[.t 2],.seq (.reg [⟨some 1,none,.box (.t 0),0,[]⟩,⟨some 2,none,.mov (.c (.v (.bool false))),0,[]⟩]) (.seq (.seq (.reg [⟨some 4,none,.faddr 0 (.t 1),0,[]⟩,⟨some 5,
 none,.load false 1 (.t 4),0,[]⟩,⟨some 6,none,.bin .lss (.t 5) (.c (.v (.int .i64 0))),0,[]⟩,⟨some 7,none,.mov (.t 6),0,[]⟩,⟨some 8,some (7,false),.faddr 1 (.t 1),0,[]⟩,
 ⟨some 9,some (7,false),.load false 1 (.t 8),0,[]⟩,⟨some 10,some (7,false),.bin .lss (.t 9) (.c (.v (.int .i64 0))),0,[]⟩,⟨some 11,none,.pick (.t 7) (.c (.v (.bool true))
 ) (.t 10),0,[]⟩,⟨some 12,none,.mov (.t 11),0,[]⟩,⟨some 13,some (12,false),.faddr 2 (.t 1),0,[]⟩,⟨some 14,some (12,false),.load false 1 (.t 13),0,[]⟩,⟨some 15,some (12,
 false),.lenS (.t 14),0,[]⟩,⟨some 16,some (12,false),.bin .lss (.t 15) (.c (.v (.int .i64 1))),0,[]⟩,⟨some 17,none,.pick (.t 12) (.c (.v (.bool true))) (.t 16),0,[]⟩,
 ⟨some 18,none,.mov (.t 17),0,[]⟩,⟨some 19,some (18,false),.faddr 2 (.t 1),0,[]⟩,⟨some 20,some (18,false),.load false 1 (.t 19),0,[]⟩,⟨some 21,some (18,false),
 .lenS (.t 20),0,[]⟩,⟨some 22,some (18,false),.bin .gtr (.t 21) (.c (.v (.int .i64 16))),0,[]⟩,⟨some 23,none,.pick (.t 18) (.c (.v (.bool true))) (.t 22),0,[]⟩])
  (.cond (.t 23) (.seq (.reg [⟨some 2,none,.mov (.c (.v (.bool false))),0,[]⟩]) .ret) .skip)) (.seq (.reg [⟨some 24,none,.faddr 2 (.t 1),0,[]⟩,⟨some 25,none,
 .load false 1 (.t 24),0,[]⟩,⟨some 26,none,.iaddr 1 (.t 25) (.c (.v (.int .i64 0))),0,[]⟩,⟨some 27,none,.load false 1 (.t 26),0,[]⟩,⟨some 28,none,.lenS (.t 27),0,[]⟩,
 ⟨some 3,none,.alloc [.v (.int .i64 0)],0,[]⟩,⟨none,none,.store 1 (.t 3) (.t 28),0,[]⟩]) (.seq (.reg [⟨some 29,none,.load false 1 (.t 3),0,[]⟩,⟨some 30,none,
 .bin .geq (.t 29) (.c (.v (.int .i64 1))),0,[]⟩,⟨some 31,none,.mov (.t 30),0,[]⟩,⟨some 32,some (31,true),.load false 1 (.t 3),0,[]⟩,⟨some 33,some (31,true),
 .bin .leq (.t 32) (.c (.v (.int .i64 16))),0,[]⟩,⟨some 34,none,.pick (.t 31) (.t 33) (.c (.v (.bool false))),0,[]⟩,⟨some 35,none,.mov (.t 34),0,[]⟩,⟨some 36,some (35,
 true),.faddr 2 (.t 1),0,[]⟩,⟨some 37,some (35,true),.load false 1 (.t 36),0,[]⟩,⟨some 38,some (35,true),.mkfn 55 [.t 3],0,[]⟩,⟨some 39,some (35,true),
 .call (.c (.fn 54 [])) [.t 37,.t 38],0,[]⟩,⟨some 40,some (35,true),.un .not (.t 39),0,[]⟩,⟨some 41,none,.pick (.t 35) (.t 40) (.c (.v (.bool false))),0,[]⟩,⟨some 2,none,
 .mov (.t 41),0,[]⟩]) .ret)))⟩
theorem pf42_is : pfs 42 = some pf42 := by kernel_rfl
def pf47 : PF := ⟨10,[.t 4],.seq (.reg [⟨some 2,none,.box (.t 0),0,[]⟩,⟨some 3,none,.box (.t 1),0,[]⟩,⟨some 4,none,.mov (.c (.v (.int .i64 0))),0,[]⟩]) (.seq (.dreg [3,0,0] [⟨some 5,
 none,.load true 3 (.t 2),0,[]⟩,⟨some 6,none,.call (.c (.fn 36 [])) [.t 5],1,[0]⟩,⟨some 7,none,.load true 3 (.t 3),2,[]⟩,⟨some 8,none,.call (.c (.fn 36 [])) [.t 7],3,[1,
 0,2]⟩,⟨some 9,none,.call (.c (.fn 48 [])) [.t 6,.t 8],4,[3,2,1,0]⟩,⟨some 4,none,.mov (.t 9),5,[4,3,2,1,0]⟩]) .ret)⟩
theorem pf47_is : pfs 47 = some pf47 := by kernel_rfl
def pf48 : PF := ⟨36,[.t 4],.seq (.reg [⟨some 4,none,.mov (.c (.v (.int .i64 0))),0,[]⟩]) (.seq (.seq (.reg [⟨some 9,none,.mov (.t 0),0,[]⟩,⟨some 10,none,.lenS (.t 9),0,[]⟩,⟨some 11,
 none,.mov (.c (.v (.int .i64 0))),0,[]⟩]) (.block 0 (.loop (.seq (.reg [⟨some 12,none,.bin .lss (.t 11) (.t 10),0,[]⟩]) (.seq (.cond (.t 12) .skip (.exit 0))
  (.seq (.block 1 (.seq (.reg [⟨some 13,none,.mov (.t 11),0,[]⟩,⟨some 14,none,.iaddr 1 (.t 9) (.t 11),0,[]⟩,⟨some 15,none,.load false 1 (.t 14),0,[]⟩,⟨some 5,none,
 .mov (.t 13),0,[]⟩,⟨some 6,none,.mov (.t 15),0,[]⟩]) (.seq (.seq (.reg [⟨some 16,none,.mov (.t 5),0,[]⟩,⟨some 17,none,.mov (.t 1),0,[]⟩,⟨some 18,none,.lenS (.t 17),0,[]⟩
 ,⟨some 19,none,.bin .geq (.t 16) (.t 18),0,[]⟩]) (.cond (.t 19) (.seq (.reg [⟨some 4,none,.mov (.c (.v (.int .i64 1))),0,[]⟩]) .ret) .skip)) (.seq (.reg [⟨some 20,none,
 .mov (.t 1),0,[]⟩,⟨some 21,none,.mov (.t 5),0,[]⟩,⟨some 22,none,.iaddr 1 (.t 20) (.t 21),0,[]⟩,⟨some 23,none,.load false 1 (.t 22),0,[]⟩,⟨some 7,none,.mov (.t 23),0,[]⟩]
 ) (.seq (.reg [⟨some 24,none,.mov (.t 6),0,[]⟩,⟨some 25,none,.mov (.t 7),0,[]⟩,⟨some 26,none,.call (.c (.fn 62 [])) [.t 24,.t 25],0,[]⟩,⟨some 8,none,.mov (.t 26),0,[]⟩])
  (.seq (.reg [⟨some 27,none,.mov (.t 8),0,[]⟩,⟨some 28,none,.bin .neq (.t 27) (.c (.v (.int .i64 0))),0,[]⟩]) (.cond (.t 28) (.seq (.reg [⟨some 29,none,.mov (.t 8),0,[]⟩
 ,⟨some 4,none,.mov (.t 29),0,[]⟩]) .ret) .skip))))))) (.reg [⟨some 30,none,.bin .add (.t 11) (.c (.v (.int .i64 1))),0,[]⟩,⟨some 11,none,.mov (.t 30),0,[]⟩])))))))
  (.seq (.seq (.reg [⟨some 31,none,.mov (.t 0),0,[]⟩,⟨some 32,none,.lenS (.t 31),0,[]⟩,⟨some 33,none,.mov (.t 1),0,[]⟩,⟨some 34,none,.lenS (.t 33),0,[]⟩,⟨some 35,none,
 .bin .lss (.t 32) (.t 34),0,[]⟩]) (.cond (.t 35) (.seq (.reg [⟨some 4,none,.mov (.c (.v (.int .i64 (-1)))),0,[]⟩]) .ret) .skip)) (.seq (.reg [⟨some 4,none,
 .mov (.c (.v (.int .i64 0))),0,[]⟩]) .ret)))⟩
theorem pf48_is : pfs 48 = some pf48 := by kernel_rfl
def pf49 : PF := ⟨77,[.t 2],.seq (.reg [⟨some 1,none,.box (.t 0),0,[]⟩,⟨some 2,none,.mov (.c (.v (.int .i64 0))),0,[]⟩]) (.seq (.seq (.reg [⟨some 6,none,.faddr 0 (.t 1),0,[]⟩,⟨some 7,
 none,.load false 1 (.t 6),0,[]⟩,⟨some 8,none,.bin .lss (.t 7) (.c (.v (.int .i64 0))),0,[]⟩,⟨some 9,none,.mov (.t 8),0,[]⟩,⟨some 10,some (9,false),.faddr 1 (.t 1),0,[]⟩,
 ⟨some 11,some (9,false),.load false 1 (.t 10),0,[]⟩,⟨some 12,some (9,false),.bin .lss (.t 11) (.c (.v (.int .i64 0))),0,[]⟩,⟨some 13,none,.pick (.t 9)
  (.c (.v (.bool true))) (.t 12),0,[]⟩,⟨some 14,none,.mov (.t 13),0,[]⟩,⟨some 15,some (14,false),.faddr 2 (.t 1),0,[]⟩,⟨some 16,some (14,false),.load false 1 (.t 15),0,[]
 ⟩,⟨some 17,some (14,false),.lenS (.t 16),0,[]⟩,⟨some 18,some (14,false),.bin .lss (.t 17) (.c (.v (.int .i64 1))),0,[]⟩,⟨some 19,none,.pick (.t 14) (.c (.v (.bool true))
 ) (.t 18),0,[]⟩,⟨some 20,none,.mov (.t 19),0,[]⟩,⟨some 21,some (20,false),.faddr 2 (.t 1),0,[]⟩,⟨some 22,some (20,false),.load false 1 (.t 21),0,[]⟩,⟨some 23,some (20,
 false),.lenS (.t 22),0,[]⟩,⟨some 24,some (20,false),.bin .gtr (.t 23) (.c (.v (.int .i64 16))),0,[]⟩,⟨some 25,none,.pick (.t 20) (.c (.v (.bool true))) (.t 24),0,[]⟩])
  (.cond (.t 25) (.seq (.reg [⟨some 2,none,.mov (.c (.v (.int .i64 3))),0,[]⟩]) .ret) .skip)) (.seq (.reg [⟨some 26,none,.faddr 2 (.t 1),0,[]⟩,⟨some 27,none,
 .load false 1 (.t 26),0,[]⟩,⟨some 28,none,.iaddr 1 (.t 27) (.c (.v (.int .i64 0))),0,[]⟩,⟨some 29,none,.load false 1 (.t 28),0,[]⟩,⟨some 30,none,.lenS (.t 29),0,[]⟩,
 ⟨some 3,none,.mov (.t 30),0,[]⟩]) (.seq (.seq (.reg [⟨some 31,none,.mov (.t 3),0,[]⟩,⟨some 32,none,.bin .lss (.t 31) (.c (.v (.int .i64 1))),0,[]⟩,⟨some 33,none,
 .mov (.t 32),0,[]⟩,⟨some 34,some (33,false),.mov (.t 3),0,[]⟩,⟨some 35,some (33,false),.bin .gtr (.t 34) (.c (.v (.int .i64 16))),0,[]⟩,⟨some 36,none,.pick (.t 33)
  (.c (.v (.bool true))) (.t 35),0,[]⟩]) (.cond (.t 36) (.seq (.reg [⟨some 2,none,.mov (.c (.v (.int .i64 3))),0,[]⟩]) .ret) .skip)) (.seq (.seq (.reg [⟨some 4,none,
 .mov (.c (.v (.int .i64 0))),0,[]⟩]) (.block 0 (.loop (.seq (.seq (.reg [⟨some 37,none,.mov (.t 4),0,[]⟩,⟨some 38,none,.faddr 2 (.t 1),0,[]⟩,⟨some 39,none,
 .load false 1 (.t 38),0,[]⟩,⟨some 40,none,.lenS (.t 39),0,[]⟩,⟨some 41,none,.bin .lss (.t 37) (.t 40),0,[]⟩]) (.cond (.t 41) .skip (.exit 0)))
  (.seq (.block 1 (.seq (.seq (.reg [⟨some 44,none,.faddr 2 (.t 1),0,[]⟩,⟨some 45,none,.load false 1 (.t 44),0,[]⟩,⟨some 46,none,.mov (.t 4),0,[]⟩,⟨some 47,none,
 .iaddr 1 (.t 45) (.t 46),0,[]⟩,⟨some 48,none,.load false 1 (.t 47),0,[]⟩,⟨some 49,none,.lenS (.t 48),0,[]⟩,⟨some 50,none,.mov (.t 3),0,[]⟩,⟨some 51,none,
 .bin .neq (.t 49) (.t 50),0,[]⟩]) (.cond (.t 51) (.seq (.reg [⟨some 2,none,.mov (.c (.v (.int .i64 3))),0,[]⟩]) .ret) .skip)) (.seq (.reg [⟨some 5,none,
 .mov (.c (.v (.int .i64 0))),0,[]⟩]) (.block 2 (.loop (.seq (.seq (.reg [⟨some 52,none,.mov (.t 5),0,[]⟩,⟨some 53,none,.mov (.t 3),0,[]⟩,⟨some 54,none,.bin .lss (.t 52)
  (.t 53),0,[]⟩]) (.cond (.t 54) .skip (.exit 2))) (.seq (.block 3 (.seq (.reg [⟨some 57,none,.faddr 2 (.t 1),0,[]⟩,⟨some 58,none,.load false 1 (.t 57),0,[]⟩,⟨some 59,
 none,.mov (.t 4),0,[]⟩,⟨some 60,none,.iaddr 1 (.t 58) (.t 59),0,[]⟩,⟨some 61,none,.load false 1 (.t 60),0,[]⟩,⟨some 62,none,.mov (.t 5),0,[]⟩,⟨some 63,none,
 .iaddr 1 (.t 61) (.t 62),0,[]⟩,⟨some 64,none,.load false 1 (.t 63),0,[]⟩,⟨some 65,none,.bin .lss (.t 64) (.c (.v (.int .i64 0))),0,[]⟩,⟨some 66,none,.mov (.t 65),0,[]⟩,
 ⟨some 67,some (66,false),.faddr 2 (.t 1),0,[]⟩,⟨some 68,some (66,false),.load false 1 (.t 67),0,[]⟩,⟨some 69,some (66,false),.mov (.t 4),0,[]⟩,⟨some 70,some (66,false),
 .iaddr 1 (.t 68) (.t 69),0,[]⟩,⟨some 71,some (66,false),.load false 1 (.t 70),0,[]⟩,⟨some 72,some (66,false),.mov (.t 5),0,[]⟩,⟨some 73,some (66,false),.iaddr 1 (.t 71)
  (.t 72),0,[]⟩,⟨some 74,some (66,false),.load false 1 (.t 73),0,[]⟩,⟨some 75,some (66,false),.bin .gtr (.t 74) (.c (.v (.int .i64 2))),0,[]⟩,⟨some 76,none,.pick (.t 66)
  (.c (.v (.bool true))) (.t 75),0,[]⟩]) (.cond (.t 76) (.seq (.reg [⟨some 2,none,.mov (.c (.v (.int .i64 3))),0,[]⟩]) .ret) .skip))) (.reg [⟨some 55,none,.mov (.t 5),0,
 []⟩,⟨some 56,none,.bin .add (.t 55) (.c (.v (.int .i64 1))),0,[]⟩,⟨some 5,none,.mov (.t 56),0,[]⟩])))))))) (.reg [⟨some 42,none,.mov (.t 4),0,[]⟩,⟨some 43,none,
 .bin .add (.t 42) (.c (.v (.int .i64 1))),0,[]⟩,⟨some 4,none,.mov (.t 43),0,[]⟩])))))) (.seq (.reg [⟨some 2,none,.mov (.c (.v (.int .i64 0))),0,[]⟩]) .ret)))))⟩
theorem pf49_is : pfs 49 = some pf49 := by kernel_rfl
def pf50 : PF := ⟨36,[.t 2],.seq (.reg [⟨some 2,none,.mov (.c (.sl [] .nil)),0,[]⟩]) (.seq (.reg [⟨some 3,none,.mov (.c (.v (.int .i64 0))),0,[]⟩]) (.seq (.seq (.reg [⟨some 9,none,
 .mov (.t 0),0,[]⟩,⟨some 10,none,.lenS (.t 9),0,[]⟩,⟨some 11,none,.mov (.c (.v (.int .i64 0))),0,[]⟩]) (.block 0 (.loop (.seq (.reg [⟨some 12,none,.bin .lss (.t 11)
  (.t 10),0,[]⟩]) (.seq (.cond (.t 12) .skip (.exit 0)) (.seq (.block 1 (.seq (.reg [⟨some 13,none,.iaddr 1 (.t 9) (.t 11),0,[]⟩,⟨some 14,none,.load false 1 (.t 13),0,[]⟩
 ,⟨some 5,none,.mov (.t 14),0,[]⟩]) (.seq (.reg [⟨some 15,none,.mov (.t 3),0,[]⟩,⟨some 16,none,.mov (.t 5),0,[]⟩,⟨some 17,none,.lenS (.t 16),0,[]⟩,⟨some 18,none,
 .bin .add (.t 15) (.t 17),0,[]⟩,⟨some 3,none,.mov (.t 18),0,[]⟩]) (.seq (.reg [⟨some 19,none,.mov (.t 3),0,[]⟩,⟨some 20,none,.bin .lss (.t 19) (.c (.v (.int .i64 0))),0,
 []⟩]) (.cond (.t 20) (.reg [⟨some 21,none,.mkif 9 (.c (.v (.string (ByteArray.mk #[108,101,110,32,111,117,116,32,111,102,32,114,97,110,103,101])))),0,[]⟩,⟨none,none,
 .panic (.t 21),0,[]⟩]) .skip))))) (.reg [⟨some 22,none,.bin .add (.t 11) (.c (.v (.int .i64 1))),0,[]⟩,⟨some 11,none,.mov (.t 22),0,[]⟩]))))))) (.seq (.reg [⟨some 23,
 none,.mov (.t 3),0,[]⟩,⟨some 24,none,.call (.c (.fn 63 [])) [.c (.sl [] .nil),.t 23],0,[]⟩,⟨some 6,none,.mov (.t 24),0,[]⟩]) (.seq (.seq (.reg [⟨some 25,none,.mov (.t 0)
 ,0,[]⟩,⟨some 26,none,.lenS (.t 25),0,[]⟩,⟨some 27,none,.mov (.c (.v (.int .i64 0))),0,[]⟩]) (.block 2 (.loop (.seq (.reg [⟨some 28,none,.bin .lss (.t 27) (.t 26),0,[]⟩])
  (.seq (.cond (.t 28) .skip (.exit 2)) (.seq (.block 3 (.seq (.reg [⟨some 29,none,.iaddr 1 (.t 25) (.t 27),0,[]⟩,⟨some 30,none,.load false 1 (.t 29),0,[]⟩,⟨some 8,none,
 .mov (.t 30),0,[]⟩]) (.reg [⟨some 31,none,.mov (.t 6),0,[]⟩,⟨some 32,none,.mov (.t 8),0,[]⟩,⟨some 33,none,.app 1 none (.t 31) (.t 32),0,[]⟩,⟨some 6,none,.mov (.t 33),0,
 []⟩]))) (.reg [⟨some 34,none,.bin .add (.t 27) (.c (.v (.int .i64 1))),0,[]⟩,⟨some 27,none,.mov (.t 34),0,[]⟩]))))))) (.seq (.reg [⟨some 35,none,.mov (.t 6),0,[]⟩,
 ⟨some 2,none,.mov (.t 35),0,[]⟩]) .ret)))))⟩
theorem pf50_is : pfs 50 = some pf50 := by kernel_rfl
def pf51 : PF := ⟨28,[.t 6],.seq (.reg [⟨some 6,none,.mov (.c (.v (.int .i64 0))),0,[]⟩]) (.seq (.reg [⟨some 9,none,.mov (.t 1),0,[]⟩,⟨some 7,none,.mov (.t 9),0,[]⟩])
  (.seq (.seq (.reg [⟨some 8,none,.mov (.c (.v (.int .i64 0))),0,[]⟩]) (.block 0 (.loop (.seq (.seq (.reg [⟨some 10,none,.mov (.t 8),0,[]⟩,⟨some 11,none,.mov (.t 2),0,[]⟩
 ,⟨some 12,none,.lenS (.t 11),0,[]⟩,⟨some 13,none,.bin .lss (.t 10) (.t 12),0,[]⟩]) (.cond (.t 13) .skip (.exit 0))) (.seq (.block 1 (.reg [⟨some 16,none,.mov (.t 7),0,[]
 ⟩,⟨some 17,none,.bin .mul (.c (.v (.int .i64 3))) (.t 16),0,[]⟩,⟨some 18,none,.mov (.t 2),0,[]⟩,⟨some 19,none,.mov (.t 8),0,[]⟩,⟨some 20,none,.iaddr 1 (.t 18) (.t 19),0,
 []⟩,⟨some 21,none,.load false 1 (.t 20),0,[]⟩,⟨some 22,none,.bin .add (.t 17) (.t 21),0,[]⟩,⟨some 7,none,.mov (.t 22),0,[]⟩])) (.reg [⟨some 14,none,.mov (.t 8),0,[]⟩,
 ⟨some 15,none,.bin .add (.t 14) (.c (.v (.int .i64 1))),0,[]⟩,⟨some 8,none,.mov (.t 15),0,[]⟩])))))) (.seq (.reg [⟨some 23,none,.mov (.t 7),0,[]⟩,⟨some 24,none,
 .bin .mul (.t 23) (.c (.v (.int .i64 8))),0,[]⟩,⟨some 25,none,.mov (.t 2),0,[]⟩,⟨some 26,none,.lenS (.t 25),0,[]⟩,⟨some 27,none,.bin .add (.t 24) (.t 26),0,[]⟩,⟨some 6,
 none,.mov (.t 27),0,[]⟩]) .ret)))⟩
theorem pf51_is : pfs 51 = some pf51 := by kernel_rfl
def pf52 : PF := ⟨79,[.t 8],.seq (.reg [⟨some 5,none,.box (.t 1),0,[]⟩,⟨some 8,none,.mov (.c (.v (.bool false))),0,[]⟩]) (.seq (.reg [⟨some 13,none,.mov (.t 3),0,[]⟩,⟨some 14,none,
 .lenS (.t 13),0,[]⟩,⟨some 9,none,.mov (.t 14),0,[]⟩]) (.seq (.seq (.reg [⟨some 15,none,.mov (.t 9),0,[]⟩,⟨some 16,none,.faddr 2 (.t 5),0,[]⟩,⟨some 17,none,
 .load false 1 (.t 16),0,[]⟩,⟨some 18,none,.lenS (.t 17),0,[]⟩,⟨some 19,none,.bin .eql (.t 15) (.t 18),0,[]⟩]) (.cond (.t 19) (.seq (.reg [⟨some 20,none,.mov (.t 0),0,[]⟩
 ,⟨some 21,none,.faddr 1 (.t 5),0,[]⟩,⟨some 22,none,.load false 1 (.t 21),0,[]⟩,⟨some 23,none,.mov (.t 3),0,[]⟩,⟨some 24,none,.call (.c (.fn 39 [])) [.t 20,.t 22,.t 23],
 0,[]⟩,⟨some 8,none,.mov (.t 24),0,[]⟩]) .ret) .skip)) (.seq (.seq (.reg [⟨some 10,none,.mov (.c (.v (.int .i64 0))),0,[]⟩]) (.block 0 (.loop (.seq (.seq (.reg [⟨some 25,
 none,.mov (.t 10),0,[]⟩,⟨some 26,none,.bin .lss (.t 25) (.c (.v (.int .i64 3))),0,[]⟩]) (.cond (.t 26) .skip (.exit 0))) (.seq (.block 1 (.seq (.reg [⟨some 11,none,
 .mov (.c (.v (.bool true))),0,[]⟩]) (.seq (.seq (.reg [⟨some 12,none,.mov (.c (.v (.int .i64 0))),0,[]⟩]) (.block 2 (.loop (.seq (.seq (.reg [⟨some 29,none,.mov (.t 12),
 0,[]⟩,⟨some 30,none,.mov (.t 2),0,[]⟩,⟨some 31,none,.lenS (.t 30),0,[]⟩,⟨some 32,none,.bin .lss (.t 29) (.t 31),0,[]⟩]) (.cond (.t 32) .skip (.exit 2)))
  (.seq (.block 3 (.seq (.reg [⟨some 35,none,.faddr 2 (.t 5),0,[]⟩,⟨some 36,none,.load false 1 (.t 35),0,[]⟩,⟨some 37,none,.mov (.t 9),0,[]⟩,⟨some 38,none,
 .iaddr 1 (.t 36) (.t 37),0,[]⟩,⟨some 39,none,.load false 1 (.t 38),0,[]⟩,⟨some 40,none,.mov (.t 12),0,[]⟩,⟨some 41,none,.iaddr 1 (.t 39) (.t 40),0,[]⟩,⟨some 42,none,
 .load false 1 (.t 41),0,[]⟩]) (.block 4 (.seq (.reg [⟨some 44,none,.bin .eql (.t 42) (.c (.v (.int .i64 1))),0,[]⟩,⟨some 43,none,.mov (.t 44),0,[]⟩]) (.cond (.t 43)
  (.reg [⟨some 45,none,.mov (.t 11),0,[]⟩,⟨some 46,none,.mov (.t 45),0,[]⟩,⟨some 47,some (46,true),.mov (.t 10),0,[]⟩,⟨some 48,some (46,true),.mov (.t 2),0,[]⟩,⟨some 49,
 some (46,true),.mov (.t 12),0,[]⟩,⟨some 50,some (46,true),.iaddr 1 (.t 48) (.t 49),0,[]⟩,⟨some 51,some (46,true),.load false 1 (.t 50),0,[]⟩,⟨some 52,some (46,true),
 .bin .eql (.t 47) (.t 51),0,[]⟩,⟨some 53,none,.pick (.t 46) (.t 52) (.c (.v (.bool false))),0,[]⟩,⟨some 11,none,.mov (.t 53),0,[]⟩]) (.seq (.reg [⟨some 55,none,
 .bin .eql (.t 42) (.c (.v (.int .i64 2))),0,[]⟩,⟨some 54,none,.mov (.t 55),0,[]⟩]) (.cond (.t 54) (.reg [⟨some 56,none,.mov (.t 11),0,[]⟩,⟨some 57,none,.mov (.t 56),0,[]
 ⟩,⟨some 58,some (57,true),.mov (.t 10),0,[]⟩,⟨some 59,some (57,true),.mov (.t 2),0,[]⟩,⟨some 60,some (57,true),.mov (.t 12),0,[]⟩,⟨some 61,some (57,true),
 .iaddr 1 (.t 59) (.t 60),0,[]⟩,⟨some 62,some (57,true),.load false 1 (.t 61),0,[]⟩,⟨some 63,some (57,true),.bin .lss (.t 58) (.t 62),0,[]⟩,⟨some 64,none,.pick (.t 57)
  (.t 63) (.c (.v (.bool false))),0,[]⟩,⟨some 11,none,.mov (.t 64),0,[]⟩]) .skip))))))) (.reg [⟨some 33,none,.mov (.t 12),0,[]⟩,⟨some 34,none,.bin .add (.t 33)
  (.c (.v (.int .i64 1))),0,[]⟩,⟨some 12,none,.mov (.t 34),0,[]⟩])))))) (.seq (.dreg [0,0,9,0,0] [⟨some 65,none,.mov (.t 11),0,[]⟩,⟨some 66,none,.mov (.t 65),1,[0]⟩,
 ⟨some 67,some (66,true),.mov (.t 0),2,[1,0]⟩,⟨some 68,some (66,true),.load true 3 (.t 5),3,[1,0]⟩,⟨some 69,some (66,true),.mov (.t 2),4,[1,0]⟩,⟨some 70,some (66,true),
 .bsl (.v (.int .i64 0)) 0 [],5,[1,0]⟩,⟨some 71,some (66,true),.mov (.t 3),6,[1,0]⟩,⟨some 72,some (66,true),.app 1 none (.t 70) (.t 71),7,[6,5,1,0]⟩,⟨some 73,some (66,
 true),.mov (.t 10),8,[1,0]⟩,⟨some 74,some (66,true),.bsl (.v (.int .i64 0)) 1 [(0,1,.t 73)],9,[8,1,0]⟩,⟨some 75,some (66,true),.app 1 none (.t 72) (.t 74),10,[9,8,7,6,5,
 1,0]⟩,⟨some 76,some (66,true),.call (.c (.fn 52 [])) [.t 67,.t 68,.t 69,.t 75],11,[10,9,8,7,6,5,4,3,2,1,0]⟩,⟨some 77,some (66,true),.un .not (.t 76),12,[11,10,9,8,7,6,5,
 4,3,2,1,0]⟩,⟨some 78,none,.pick (.t 66) (.t 77) (.c (.v (.bool false))),13,[12,11,10,9,8,7,6,5,4,3,2,1,0]⟩]) (.cond (.t 78) (.seq (.reg [⟨some 8,none,
 .mov (.c (.v (.bool false))),0,[]⟩]) .ret) .skip))))) (.reg [⟨some 27,none,.mov (.t 10),0,[]⟩,⟨some 28,none,.bin .add (.t 27) (.c (.v (.int .i64 1))),0,[]⟩,⟨some 10,
 none,.mov (.t 28),0,[]⟩])))))) (.seq (.reg [⟨some 8,none,.mov (.c (.v (.bool true))),0,[]⟩]) .ret))))⟩
theorem pf52_is : pfs 52 = some pf52 := by kernel_rfl
def pf53 : PF := ⟨19,[.t 4],.seq (.reg [⟨some 4,none,.mov (.c (.v (.int .i64 0))),0,[]⟩]) (.seq (.seq (.reg [⟨some 6,none,.mov (.t 0),0,[]⟩,⟨some 7,none,.lenS (.t 6),0,[]⟩,⟨some 8,none,
 .mov (.c (.v (.int .i64 0))),0,[]⟩]) (.block 0 (.loop (.seq (.reg [⟨some 9,none,.bin .lss (.t 8) (.t 7),0,[]⟩]) (.seq (.cond (.t 9) .skip (.exit 0))
  (.seq (.block 1 (.seq (.reg [⟨some 10,none,.mov (.t 8),0,[]⟩,⟨some 5,none,.mov (.t 10),0,[]⟩]) (.seq (.reg [⟨some 11,none,.mov (.t 1),0,[]⟩,⟨some 12,none,.mov (.t 0),0,
 []⟩,⟨some 13,none,.mov (.t 5),0,[]⟩,⟨some 14,none,.iaddr 3 (.t 12) (.t 13),0,[]⟩,⟨some 15,none,.load true 3 (.t 14),0,[]⟩,⟨some 16,none,.call (.t 11) [.t 15],0,[]⟩])
  (.cond (.t 16) (.seq (.reg [⟨some 17,none,.mov (.t 5),0,[]⟩,⟨some 4,none,.mov (.t 17),0,[]⟩]) .ret) .skip)))) (.reg [⟨some 18,none,.bin .add (.t 8)
  (.c (.v (.int .i64 1))),0,[]⟩,⟨some 8,none,.mov (.t 18),0,[]⟩]))))))) (.seq (.reg [⟨some 4,none,.mov (.c (.v (.int .i64 (-1)))),0,[]⟩]) .ret))⟩
theorem pf53_is : pfs 53 = some pf53 := by kernel_rfl
def pf54 : PF := ⟨9,[.t 4],.seq (.reg [⟨some 4,none,.mov (.c (.v (.bool false))),0,[]⟩]) (.seq (.reg [⟨some 5,none,.mov (.t 0),0,[]⟩,⟨some 6,none,.mov (.t 1),0,[]⟩,⟨some 7,none,
 .call (.c (.fn 64 [])) [.t 5,.t 6],0,[]⟩,⟨some 8,none,.bin .geq (.t 7) (.c (.v (.int .i64 0))),0,[]⟩,⟨some 4,none,.mov (.t 8),0,[]⟩]) .ret)⟩
theorem pf54_is : pfs 54 = some pf54 := by kernel_rfl
def pf55 : PF := ⟨12,[.t 3],.seq (.reg [⟨some 3,none,.mov (.c (.v (.bool false))),0,[]⟩]) (.seq (.reg [⟨some 4,none,.mov (.t 0),0,[]⟩,⟨some 5,none,.lenS (.t 4),0,[]⟩,⟨some 6,none,
 .load false 1 (.t 1),0,[]⟩,⟨some 7,none,.bin .neq (.t 5) (.t 6),0,[]⟩,⟨some 8,none,.mov (.t 7),0,[]⟩,⟨some 9,some (8,false),.mov (.t 0),0,[]⟩,⟨some 10,some (8,false),
 .call (.c (.fn 56 [])) [.t 9,.c (.fn 57 [])],0,[]⟩,⟨some 11,none,.pick (.t 8) (.c (.v (.bool true))) (.t 10),0,[]⟩,⟨some 3,none,.mov (.t 11),0,[]⟩]) .ret)⟩
theorem pf55_is : pfs 55 = some pf55 := by kernel_rfl
def pf56 : PF := ⟨9,[.t 4],.seq (.reg [⟨some 4,none,.mov (.c (.v (.bool false))),0,[]⟩]) (.seq (.reg [⟨some 5,none,.mov (.t 0),0,[]⟩,⟨some 6,none,.mov (.t 1),0,[]⟩,⟨some 7,none,
 .call (.c (.fn 65 [])) [.t 5,.t 6],0,[]⟩,⟨some 8,none,.bin .geq (.t 7) (.c (.v (.int .i64 0))),0,[]⟩,⟨some 4,none,.mov (.t 8),0,[]⟩]) .ret)⟩
theorem pf56_is : pfs 56 = some pf56 := by kernel_rfl
def pf57 : PF := ⟨9,[.t 2],.seq (.reg [⟨some 2,none,.mov (.c (.v (.bool false))),0,[]⟩]) (.seq (.reg [⟨some 3,none,.mov (.t 0),0,[]⟩,⟨some 4,none,.bin .lss (.t 3) (.c (.v (.int .i64 0)))
 ,0,[]⟩,⟨some 5,none,.mov (.t 4),0,[]⟩,⟨some 6,some (5,false),.mov (.t 0),0,[]⟩,⟨some 7,some (5,false),.bin .gtr (.t 6) (.c (.v (.int .i64 2))),0,[]⟩,⟨some 8,none,
 .pick (.t 5) (.c (.v (.bool true))) (.t 7),0,[]⟩,⟨some 2,none,.mov (.t 8),0,[]⟩]) .ret)⟩
theorem pf57_is : pfs 57 = some pf57 := by kernel_rfl
def pf62 : PF := ⟨20,[.t 4],.seq (.reg [⟨some 4,none,.mov (.c (.v (.int .i64 0))),0,[]⟩]) (.seq (.reg [⟨some 7,none,.mov (.t 0),0,[]⟩,⟨some 8,none,.call (.c (.fn 77 [])) [.t 7],0,[]⟩,
 ⟨some 5,none,.mov (.t 8),0,[]⟩]) (.seq (.reg [⟨some 9,none,.mov (.t 1),0,[]⟩,⟨some 10,none,.call (.c (.fn 77 [])) [.t 9],0,[]⟩,⟨some 6,none,.mov (.t 10),0,[]⟩])
  (.seq (.seq (.reg [⟨some 11,none,.mov (.t 5),0,[]⟩]) (.cond (.t 11) (.seq (.seq (.reg [⟨some 12,none,.mov (.t 6),0,[]⟩]) (.cond (.t 12) (.seq (.reg [⟨some 4,none,
 .mov (.c (.v (.int .i64 0))),0,[]⟩]) .ret) .skip)) (.seq (.reg [⟨some 4,none,.mov (.c (.v (.int .i64 (-1)))),0,[]⟩]) .ret)) .skip)) (.seq (.seq (.reg [⟨some 13,none,
 .mov (.t 6),0,[]⟩]) (.cond (.t 13) (.seq (.reg [⟨some 4,none,.mov (.c (.v (.int .i64 1))),0,[]⟩]) .ret) .skip)) (.seq (.seq (.reg [⟨some 14,none,.mov (.t 0),0,[]⟩,
 ⟨some 15,none,.mov (.t 1),0,[]⟩,⟨some 16,none,.bin .lss (.t 14) (.t 15),0,[]⟩]) (.cond (.t 16) (.seq (.reg [⟨some 4,none,.mov (.c (.v (.int .i64 (-1)))),0,[]⟩]) .ret)
  .skip)) (.seq (.seq (.reg [⟨some 17,none,.mov (.t 0),0,[]⟩,⟨some 18,none,.mov (.t 1),0,[]⟩,⟨some 19,none,.bin .gtr (.t 17) (.t 18),0,[]⟩]) (.cond (.t 19)
  (.seq (.reg [⟨some 4,none,.mov (.c (.v (.int .i64 1))),0,[]⟩]) .ret) .skip)) (.seq (.reg [⟨some 4,none,.mov (.c (.v (.int .i64 0))),0,[]⟩]) .ret)))))))⟩
theorem pf62_is : pfs 62 = some pf62 := by kernel_rfl
def pf64 : PF := ⟨19,[.t 4],.seq (.reg [⟨some 4,none,.mov (.c (.v (.int .i64 0))),0,[]⟩]) (.seq (.seq (.reg [⟨some 6,none,.mov (.t 0),0,[]⟩,⟨some 7,none,.lenS (.t 6),0,[]⟩,⟨some 8,none,
 .mov (.c (.v (.int .i64 0))),0,[]⟩]) (.block 0 (.loop (.seq (.reg [⟨some 9,none,.bin .lss (.t 8) (.t 7),0,[]⟩]) (.seq (.cond (.t 9) .skip (.exit 0))
  (.seq (.block 1 (.seq (.reg [⟨some 10,none,.mov (.t 8),0,[]⟩,⟨some 5,none,.mov (.t 10),0,[]⟩]) (.seq (.reg [⟨some 11,none,.mov (.t 1),0,[]⟩,⟨some 12,none,.mov (.t 0),0,
 []⟩,⟨some 13,none,.mov (.t 5),0,[]⟩,⟨some 14,none,.iaddr 1 (.t 12) (.t 13),0,[]⟩,⟨some 15,none,.load false 1 (.t 14),0,[]⟩,⟨some 16,none,.call (.t 11) [.t 15],0,[]⟩])
  (.cond (.t 16) (.seq (.reg [⟨some 17,none,.mov (.t 5),0,[]⟩,⟨some 4,none,.mov (.t 17),0,[]⟩]) .ret) .skip)))) (.reg [⟨some 18,none,.bin .add (.t 8)
  (.c (.v (.int .i64 1))),0,[]⟩,⟨some 8,none,.mov (.t 18),0,[]⟩]))))))) (.seq (.reg [⟨some 4,none,.mov (.c (.v (.int .i64 (-1)))),0,[]⟩]) .ret))⟩
theorem pf64_is : pfs 64 = some pf64 := by kernel_rfl
def pf65 : PF := ⟨19,[.t 4],.seq (.reg [⟨some 4,none,.mov (.c (.v (.int .i64 0))),0,[]⟩]) (.seq (.seq (.reg [⟨some 6,none,.mov (.t 0),0,[]⟩,⟨some 7,none,.lenS (.t 6),0,[]⟩,⟨some 8,none,
 .mov (.c (.v (.int .i64 0))),0,[]⟩]) (.block 0 (.loop (.seq (.reg [⟨some 9,none,.bin .lss (.t 8) (.t 7),0,[]⟩]) (.seq (.cond (.t 9) .skip (.exit 0))
  (.seq (.block 1 (.seq (.reg [⟨some 10,none,.mov (.t 8),0,[]⟩,⟨some 5,none,.mov (.t 10),0,[]⟩]) (.seq (.reg [⟨some 11,none,.mov (.t 1),0,[]⟩,⟨some 12,none,.mov (.t 0),0,
 []⟩,⟨some 13,none,.mov (.t 5),0,[]⟩,⟨some 14,none,.iaddr 1 (.t 12) (.t 13),0,[]⟩,⟨some 15,none,.load false 1 (.t 14),0,[]⟩,⟨some 16,none,.call (.t 11) [.t 15],0,[]⟩])
  (.cond (.t 16) (.seq (.reg [⟨some 17,none,.mov (.t 5),0,[]⟩,⟨some 4,none,.mov (.t 17),0,[]⟩]) .ret) .skip)))) (.reg [⟨some 18,none,.bin .add (.t 8)
  (.c (.v (.int .i64 1))),0,[]⟩,⟨some 8,none,.mov (.t 18),0,[]⟩]))))))) (.seq (.reg [⟨some 4,none,.mov (.c (.v (.int .i64 (-1)))),0,[]⟩]) .ret))⟩
theorem pf65_is : pfs 65 = some pf65 := by kernel_rfl
def pf77 : PF := ⟨6,[.t 2],.seq (.reg [⟨some 2,none,.mov (.c (.v (.bool false))),0,[]⟩]) (.seq (.reg [⟨some 3,none,.mov (.t 0),0,[]⟩,⟨some 4,none,.mov (.t 0),0,[]⟩,⟨some 5,none,
 .bin .neq (.t 3) (.t 4),0,[]⟩,⟨some 2,none,.mov (.t 5),0,[]⟩]) .ret)⟩
theorem pf77_is : pfs 77 = some pf77 := by kernel_rfl
end Go.Proofs.Eng
