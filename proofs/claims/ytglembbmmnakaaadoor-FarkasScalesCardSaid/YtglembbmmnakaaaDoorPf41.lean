/- The prepared code of the functions. No conditions. -/
import Derived.Test.YtglembbmmnakaaaDoorOT
import Derived.Test.YtglembbmmnakaaaDoorRows
set_option linter.all false
set_option linter.deprecated false
set_option linter.unnecessarySimpa false
set_option linter.unusedVariables false
set_option linter.unusedSimpArgs false
set_option linter.defProp false
namespace Go.Proofs.Eng
open Go Go.Proofs
def shared : List Nat := [32, 33, 42]
def rawF : List Nat := [52, 53]
def md (f : Nat) : Md := if rawF.contains f then .raw else if shared.contains f then .shared else .pure
def bf : Bf := ⟨false, fun g => rawF.contains g || shared.contains g || g == 1000103⟩
noncomputable def pfs (f : Nat) : Option PF := if f = 43 then some ⟨0, [], .ora textO⟩ else prepF Tryd.prog bf f
theorem pfsOK : PfsOK Tryd.prog pfs := fun f pf h => by
  unfold pfs at h
  split at h
  · rename_i hf
    subst hf
    simp only [Option.some.injEq] at h; subst h
    exact .inr ⟨_, rfl, text_ok⟩
  · exact .inl ⟨_, h⟩
set_option maxRecDepth 100000
-- euclid/euclidlaw41.FarkasScales
def pf9 : PF := ⟨139,[.t 6],.seq (.reg [⟨some 6,none,.mov (.c (.v (.bool false))),0,[]⟩]) (.seq (.seq (.reg [⟨some 22,none,.mov (.t 0),0,[]⟩,⟨some 23,none,.call (.c (.fn 12 [])) [.t 22]
 ,0,[]⟩,⟨some 24,none,.un .not (.t 23),0,[]⟩,⟨some 25,none,.mov (.t 24),0,[]⟩,⟨some 26,some (25,false),.mov (.t 0),0,[]⟩,⟨some 27,some (25,false),.call (.c (.fn 19 []))
  [.t 26],0,[]⟩,⟨some 28,some (25,false),.bin .neq (.t 27) (.c (.v (.int .i64 0))),0,[]⟩,⟨some 29,none,.pick (.t 25) (.c (.v (.bool true))) (.t 28),0,[]⟩,⟨some 30,none,
 .mov (.t 29),0,[]⟩,⟨some 31,some (30,false),.mov (.t 0),0,[]⟩,⟨some 32,some (30,false),.lenS (.t 31),0,[]⟩,⟨some 33,some (30,false),.bin .eql (.t 32)
  (.c (.v (.int .i64 0))),0,[]⟩,⟨some 34,none,.pick (.t 30) (.c (.v (.bool true))) (.t 33),0,[]⟩]) (.cond (.t 34) (.seq (.reg [⟨some 35,none,.call (.c (.fn 10 [])) [],0,
 []⟩,⟨some 6,none,.mov (.t 35),0,[]⟩]) .ret) .skip)) (.seq (.dreg [11] [⟨some 36,none,.mov (.t 1),0,[]⟩,⟨some 37,none,.conv .i64 (.t 36),1,[0]⟩,⟨some 38,none,.mov (.t 0),
 2,[]⟩,⟨some 39,none,.lenS (.t 38),3,[2]⟩,⟨some 40,none,.bin .rem (.t 37) (.t 39),4,[3,2,1,0]⟩,⟨some 41,none,.mov (.t 2),5,[]⟩,⟨some 42,none,.conv .i64 (.t 41),6,[5]⟩,
 ⟨some 43,none,.mov (.t 0),7,[]⟩,⟨some 44,none,.lenS (.t 43),8,[7]⟩,⟨some 45,none,.bin .rem (.t 42) (.t 44),9,[8,7,6,5]⟩,⟨some 7,none,.mov (.t 40),10,[4,3,2,1,0]⟩,
 ⟨some 8,none,.mov (.t 45),11,[10,4,3,2,1,0,9,8,7,6,5]⟩]) (.seq (.reg [⟨some 46,none,.mov (.t 0),0,[]⟩,⟨some 47,none,.clone 1 false false (.t 46),0,[]⟩,⟨some 9,none,
 .mov (.t 47),0,[]⟩]) (.seq (.reg [⟨some 10,none,.mov (.c (.sl [] .nil)),0,[]⟩,⟨some 11,none,.mov (.c (.sl [] .nil)),0,[]⟩]) (.seq (.seq (.reg [⟨some 48,none,.mov (.t 0),
 0,[]⟩,⟨some 49,none,.mov (.t 7),0,[]⟩,⟨some 50,none,.iaddr 1 (.t 48) (.t 49),0,[]⟩,⟨some 51,none,.load false 1 (.t 50),0,[]⟩,⟨some 52,none,.lenS (.t 51),0,[]⟩,⟨some 53,
 none,.mov (.c (.v (.int .i64 0))),0,[]⟩]) (.block 0 (.loop (.seq (.reg [⟨some 54,none,.bin .lss (.t 53) (.t 52),0,[]⟩]) (.seq (.cond (.t 54) .skip (.exit 0))
  (.seq (.block 1 (.seq (.reg [⟨some 55,none,.mov (.t 53),0,[]⟩,⟨some 12,none,.mov (.t 55),0,[]⟩]) (.dreg [28,0,0] [⟨some 56,none,.mov (.t 10),0,[]⟩,⟨some 57,none,
 .mov (.t 0),1,[]⟩,⟨some 58,none,.mov (.t 7),2,[]⟩,⟨some 59,none,.iaddr 1 (.t 57) (.t 58),3,[2,1]⟩,⟨some 60,none,.load false 1 (.t 59),4,[3,2,1]⟩,⟨some 61,none,
 .mov (.t 12),5,[]⟩,⟨some 62,none,.iaddr 1 (.t 60) (.t 61),6,[5,4,3,2,1]⟩,⟨some 63,none,.load false 1 (.t 62),7,[6,5,4,3,2,1]⟩,⟨some 64,none,
 .bin .mul (.c (.v (.int .i64 2))) (.t 63),8,[7,6,5,4,3,2,1]⟩,⟨some 65,none,.bsl (.v (.int .i64 0)) 1 [(0,1,.t 64)],9,[8,7,6,5,4,3,2,1]⟩,⟨some 66,none,.app 1 none (.t 56)
  (.t 65),10,[9,8,7,6,5,4,3,2,1,0]⟩,⟨some 67,none,.mov (.t 11),11,[]⟩,⟨some 68,none,.mov (.t 0),12,[]⟩,⟨some 69,none,.mov (.t 7),13,[]⟩,⟨some 70,none,.iaddr 1 (.t 68)
  (.t 69),14,[13,12]⟩,⟨some 71,none,.load false 1 (.t 70),15,[14,13,12]⟩,⟨some 72,none,.mov (.t 12),16,[]⟩,⟨some 73,none,.iaddr 1 (.t 71) (.t 72),17,[16,15,14,13,12]⟩,
 ⟨some 74,none,.load false 1 (.t 73),18,[17,16,15,14,13,12]⟩,⟨some 75,none,.mov (.t 0),19,[]⟩,⟨some 76,none,.mov (.t 8),20,[]⟩,⟨some 77,none,.iaddr 1 (.t 75) (.t 76),21,
 [20,19]⟩,⟨some 78,none,.load false 1 (.t 77),22,[21,20,19]⟩,⟨some 79,none,.mov (.t 12),23,[]⟩,⟨some 80,none,.iaddr 1 (.t 78) (.t 79),24,[23,22,21,20,19]⟩,⟨some 81,none,
 .load false 1 (.t 80),25,[24,23,22,21,20,19]⟩,⟨some 82,none,.bin .add (.t 74) (.t 81),26,[25,24,23,22,21,20,19,18,17,16,15,14,13,12]⟩,⟨some 83,none,
 .bsl (.v (.int .i64 0)) 1 [(0,1,.t 82)],27,[26,25,24,23,22,21,20,19,18,17,16,15,14,13,12]⟩,⟨some 84,none,.app 1 none (.t 67) (.t 83),28,[10,9,8,7,6,5,4,3,2,1,0,27,26,25,
 24,23,22,21,20,19,18,17,16,15,14,13,12,11]⟩,⟨some 10,none,.mov (.t 66),29,[28,27,26,25,24,23,22,21,20,19,18,17,16,15,14,13,12,11,10,9,8,7,6,5,4,3,2,1,0]⟩,⟨some 11,none,
 .mov (.t 84),30,[29,28,10,9,8,7,6,5,4,3,2,1,0,27,26,25,24,23,22,21,20,19,18,17,16,15,14,13,12,11]⟩]))) (.reg [⟨some 85,none,.bin .add (.t 53) (.c (.v (.int .i64 1))),0,
 []⟩,⟨some 53,none,.mov (.t 85),0,[]⟩]))))))) (.seq (.reg [⟨some 86,none,.mov (.t 9),0,[]⟩,⟨some 87,none,.mov (.t 7),0,[]⟩,⟨some 88,none,.mov (.t 10),0,[]⟩,⟨some 89,none,
 .iaddr 1 (.t 86) (.t 87),0,[]⟩,⟨none,none,.store 1 (.t 89) (.t 88),0,[]⟩]) (.seq (.reg [⟨some 91,none,.mov (.t 0),0,[]⟩,⟨some 92,none,.call (.c (.fn 11 [])) [.t 91],0,[]
 ⟩,⟨some 90,none,.mov (.t 92),0,[]⟩,⟨some 93,none,.ext (.t 90) 0,0,[]⟩,⟨some 94,none,.ext (.t 90) 1,0,[]⟩,⟨some 95,none,.ext (.t 90) 2,0,[]⟩,⟨some 13,none,.mov (.t 93),0,
 []⟩,⟨some 14,none,.mov (.t 94),0,[]⟩,⟨some 15,none,.mov (.t 95),0,[]⟩]) (.seq (.reg [⟨some 97,none,.mov (.t 9),0,[]⟩,⟨some 98,none,.call (.c (.fn 11 [])) [.t 97],0,[]⟩,
 ⟨some 96,none,.mov (.t 98),0,[]⟩,⟨some 99,none,.ext (.t 96) 0,0,[]⟩,⟨some 100,none,.ext (.t 96) 1,0,[]⟩,⟨some 101,none,.ext (.t 96) 2,0,[]⟩,⟨some 16,none,.mov (.t 99),0,
 []⟩,⟨some 17,none,.mov (.t 100),0,[]⟩,⟨some 18,none,.mov (.t 101),0,[]⟩]) (.seq (.reg [⟨some 103,none,.mov (.t 0),0,[]⟩,⟨some 104,none,.clone 1 false true (.t 103),0,[]⟩
 ,⟨some 105,none,.mov (.t 11),0,[]⟩,⟨some 106,none,.bsl (.sl [] .nil) 1 [(0,1,.t 105)],0,[]⟩,⟨some 107,none,.app 1 none (.t 104) (.t 106),0,[]⟩,⟨some 108,none,
 .call (.c (.fn 11 [])) [.t 107],0,[]⟩,⟨some 102,none,.mov (.t 108),0,[]⟩,⟨some 109,none,.ext (.t 102) 0,0,[]⟩,⟨some 110,none,.ext (.t 102) 1,0,[]⟩,⟨some 111,none,
 .ext (.t 102) 2,0,[]⟩,⟨some 19,none,.mov (.t 109),0,[]⟩,⟨some 20,none,.mov (.t 110),0,[]⟩,⟨some 21,none,.mov (.t 111),0,[]⟩]) (.seq (.reg [⟨some 112,none,.mov (.t 15),0,
 []⟩,⟨some 113,none,.bin .neq (.t 112) (.c (.v (.int .i64 0))),0,[]⟩,⟨some 114,none,.mov (.t 113),0,[]⟩,⟨some 115,some (114,false),.mov (.t 18),0,[]⟩,⟨some 116,some (114,
 false),.bin .neq (.t 115) (.c (.v (.int .i64 0))),0,[]⟩,⟨some 117,none,.pick (.t 114) (.c (.v (.bool true))) (.t 116),0,[]⟩,⟨some 118,none,.mov (.t 117),0,[]⟩,⟨some 119,
 some (118,false),.mov (.t 14),0,[]⟩,⟨some 120,some (118,false),.mov (.t 17),0,[]⟩,⟨some 121,some (118,false),.eqb false (.t 119) (.t 120),0,[]⟩,⟨some 122,none,
 .pick (.t 118) (.c (.v (.bool true))) (.t 121),0,[]⟩,⟨some 123,none,.mov (.t 122),0,[]⟩,⟨some 124,some (123,true),.mov (.t 15),0,[]⟩,⟨some 125,some (123,true),
 .bin .neq (.t 124) (.c (.v (.int .i64 0))),0,[]⟩,⟨some 126,some (123,true),.mov (.t 125),0,[]⟩,⟨some 127,some (126,false),.mov (.t 21),0,[]⟩,⟨some 128,some (126,false),
 .bin .neq (.t 127) (.c (.v (.int .i64 0))),0,[]⟩,⟨some 129,some (123,true),.pick (.t 126) (.c (.v (.bool true))) (.t 128),0,[]⟩,⟨some 130,some (123,true),.mov (.t 129),
 0,[]⟩,⟨some 131,some (130,false),.mov (.t 14),0,[]⟩,⟨some 132,some (130,false),.mov (.t 20),0,[]⟩,⟨some 133,some (130,false),.eqb false (.t 131) (.t 132),0,[]⟩,
 ⟨some 134,some (123,true),.pick (.t 130) (.c (.v (.bool true))) (.t 133),0,[]⟩,⟨some 135,none,.pick (.t 123) (.t 134) (.c (.v (.bool false))),0,[]⟩,⟨some 136,none,
 .mov (.t 135),0,[]⟩,⟨some 137,some (136,true),.call (.c (.fn 10 [])) [],0,[]⟩,⟨some 138,none,.pick (.t 136) (.t 137) (.c (.v (.bool false))),0,[]⟩,⟨some 6,none,
 .mov (.t 138),0,[]⟩]) .ret))))))))))⟩
theorem pf9_is : pfs 9 = some pf9 := by kernel_rfl
-- euclid/farkas.Refute
def pf11 : PF := ⟨30,[.c 2 false 1,.c 3 false 1,.c 4 false 1],.seq (.reg [⟨some 2,none,.alloc [.sl [] .nil],0,[]⟩,⟨some 3,none,.alloc [.v (.bool false)],0,[]⟩,⟨some 4,none,
 .alloc [.v (.int .i64 0)],0,[]⟩]) (.seq (.seq (.reg [⟨some 8,none,.mov (.t 0),0,[]⟩,⟨some 9,none,.call (.c (.fn 22 [])) [.t 8],0,[]⟩,⟨some 5,none,.mov (.t 9),0,[]⟩])
  (.seq (.reg [⟨some 10,none,.mov (.t 5),0,[]⟩,⟨some 11,none,.bin .neq (.t 10) (.c (.v (.int .i64 0))),0,[]⟩,⟨some 12,none,.mov (.t 11),0,[]⟩,⟨some 13,some (12,false),
 .mov (.t 0),0,[]⟩,⟨some 14,some (12,false),.lenS (.t 13),0,[]⟩,⟨some 15,some (12,false),.bin .eql (.t 14) (.c (.v (.int .i64 0))),0,[]⟩,⟨some 16,none,.pick (.t 12)
  (.c (.v (.bool true))) (.t 15),0,[]⟩]) (.cond (.t 16) (.seq (.reg [⟨some 17,none,.mov (.t 5),0,[]⟩,⟨none,none,.store 1 (.t 2) (.c (.sl [] .nil)),0,[]⟩,⟨none,none,
 .store 1 (.t 3) (.c (.v (.bool false))),0,[]⟩,⟨none,none,.store 1 (.t 4) (.t 17),0,[]⟩]) .ret) .skip))) (.seq (.reg [⟨some 18,none,.mkfn 23 [.t 2,.t 3,.t 4],0,[]⟩,⟨none,
 none,.dfr (.t 18) [],0,[]⟩]) (.seq (.reg [⟨some 20,none,.mov (.t 0),0,[]⟩,⟨some 21,none,.call (.c (.fn 25 [])) [.t 20],0,[]⟩,⟨some 19,none,.mov (.t 21),0,[]⟩,⟨some 22,
 none,.ext (.t 19) 0,0,[]⟩,⟨some 23,none,.ext (.t 19) 1,0,[]⟩,⟨some 24,none,.ext (.t 19) 2,0,[]⟩,⟨some 6,none,.mov (.t 22),0,[]⟩,⟨some 7,none,.mov (.t 23),0,[]⟩,⟨none,
 none,.store 1 (.t 3) (.t 24),0,[]⟩]) (.seq (.seq (.reg [⟨some 25,none,.load false 1 (.t 3),0,[]⟩,⟨some 26,none,.un .not (.t 25),0,[]⟩]) (.cond (.t 26)
  (.seq (.reg [⟨none,none,.store 1 (.t 2) (.c (.sl [] .nil)),0,[]⟩,⟨none,none,.store 1 (.t 3) (.c (.v (.bool false))),0,[]⟩,⟨none,none,.store 1 (.t 4)
  (.c (.v (.int .i64 0))),0,[]⟩]) .ret) .skip)) (.seq (.reg [⟨some 27,none,.bsl (.v (.int .i64 0)) 0 [],0,[]⟩,⟨some 28,none,.mov (.t 7),0,[]⟩,⟨some 29,none,
 .app 1 none (.t 27) (.t 28),0,[]⟩,⟨none,none,.store 1 (.t 2) (.t 29),0,[]⟩,⟨none,none,.store 1 (.t 3) (.c (.v (.bool true))),0,[]⟩,⟨none,none,.store 1 (.t 4)
  (.c (.v (.int .i64 0))),0,[]⟩]) .ret)))))⟩
theorem pf11_is : pfs 11 = some pf11 := by kernel_rfl
-- euclid/euclidlaw41.few
def pf12 : PF := ⟨11,[.t 2],.seq (.reg [⟨some 2,none,.mov (.c (.v (.bool false))),0,[]⟩]) (.seq (.reg [⟨some 3,none,.mov (.t 0),0,[]⟩,⟨some 4,none,.lenS (.t 3),0,[]⟩,⟨some 5,none,
 .bin .leq (.t 4) (.c (.v (.int .i64 25))),0,[]⟩,⟨some 6,none,.mov (.t 5),0,[]⟩,⟨some 7,some (6,true),.mov (.t 0),0,[]⟩,⟨some 8,some (6,true),.call (.c (.fn 26 []))
  [.t 7,.c (.fn 27 [])],0,[]⟩,⟨some 9,some (6,true),.un .not (.t 8),0,[]⟩,⟨some 10,none,.pick (.t 6) (.t 9) (.c (.v (.bool false))),0,[]⟩,⟨some 2,none,.mov (.t 10),0,[]⟩]
 ) .ret)⟩
theorem pf12_is : pfs 12 = some pf12 := by kernel_rfl
-- euclid/euclidref41.Right
def pf19 : PF := ⟨76,[.t 2],.seq (.reg [⟨some 2,none,.mov (.c (.v (.int .i64 0))),0,[]⟩]) (.seq (.seq (.reg [⟨some 6,none,.mov (.t 0),0,[]⟩,⟨some 7,none,.lenS (.t 6),0,[]⟩,⟨some 8,none,
 .bin .gtr (.t 7) (.c (.v (.int .i64 24))),0,[]⟩]) (.cond (.t 8) (.seq (.reg [⟨some 2,none,.mov (.c (.v (.int .i64 6))),0,[]⟩]) .ret) .skip)) (.seq (.seq (.reg [⟨some 3,
 none,.mov (.c (.v (.int .i64 0))),0,[]⟩]) (.block 0 (.loop (.seq (.seq (.reg [⟨some 9,none,.mov (.t 3),0,[]⟩,⟨some 10,none,.mov (.t 0),0,[]⟩,⟨some 11,none,.lenS (.t 10),
 0,[]⟩,⟨some 12,none,.bin .lss (.t 9) (.t 11),0,[]⟩]) (.cond (.t 12) .skip (.exit 0))) (.seq (.block 1 (.seq (.dreg [2,0,0,0,0,9,0] [⟨some 15,none,.mov (.t 0),0,[]⟩,
 ⟨some 16,none,.mov (.t 3),1,[]⟩,⟨some 17,none,.iaddr 1 (.t 15) (.t 16),2,[1,0]⟩,⟨some 18,none,.load false 1 (.t 17),3,[2,1,0]⟩,⟨some 19,none,.lenS (.t 18),4,[3,2,1,0]⟩,
 ⟨some 20,none,.bin .eql (.t 19) (.c (.v (.int .i64 0))),5,[4,3,2,1,0]⟩,⟨some 21,none,.mov (.t 20),6,[5,4,3,2,1,0]⟩,⟨some 22,some (21,false),.mov (.t 0),7,[6,5,4,3,2,1,0]
 ⟩,⟨some 23,some (21,false),.mov (.t 3),8,[6,5,4,3,2,1,0]⟩,⟨some 24,some (21,false),.iaddr 1 (.t 22) (.t 23),9,[8,7,6,5,4,3,2,1,0]⟩,⟨some 25,some (21,false),
 .load false 1 (.t 24),10,[9,8,7,6,5,4,3,2,1,0]⟩,⟨some 26,some (21,false),.lenS (.t 25),11,[10,9,8,7,6,5,4,3,2,1,0]⟩,⟨some 27,some (21,false),.mov (.t 0),12,[6,5,4,3,2,1,
 0]⟩,⟨some 28,some (21,false),.iaddr 1 (.t 27) (.c (.v (.int .i64 0))),13,[12,6,5,4,3,2,1,0]⟩,⟨some 29,some (21,false),.load false 1 (.t 28),14,[13,12,6,5,4,3,2,1,0]⟩,
 ⟨some 30,some (21,false),.lenS (.t 29),15,[14,13,12,6,5,4,3,2,1,0]⟩,⟨some 31,some (21,false),.bin .neq (.t 26) (.t 30),16,[15,14,13,12,11,10,9,8,7,6,5,4,3,2,1,0]⟩,
 ⟨some 32,none,.pick (.t 21) (.c (.v (.bool true))) (.t 31),17,[16,15,14,13,12,11,10,9,8,7,6,5,4,3,2,1,0]⟩]) (.cond (.t 32) (.seq (.reg [⟨some 2,none,
 .mov (.c (.v (.int .i64 3))),0,[]⟩]) .ret) .skip))) (.reg [⟨some 13,none,.mov (.t 3),0,[]⟩,⟨some 14,none,.bin .add (.t 13) (.c (.v (.int .i64 1))),0,[]⟩,⟨some 3,none,
 .mov (.t 14),0,[]⟩])))))) (.seq (.seq (.reg [⟨some 33,none,.mov (.t 0),0,[]⟩,⟨some 34,none,.lenS (.t 33),0,[]⟩,⟨some 35,none,.bin .gtr (.t 34) (.c (.v (.int .i64 0))),0,
 []⟩,⟨some 36,none,.mov (.t 35),0,[]⟩,⟨some 37,some (36,true),.mov (.t 0),0,[]⟩,⟨some 38,some (36,true),.iaddr 1 (.t 37) (.c (.v (.int .i64 0))),0,[]⟩,⟨some 39,some (36,
 true),.load false 1 (.t 38),0,[]⟩,⟨some 40,some (36,true),.lenS (.t 39),0,[]⟩,⟨some 41,some (36,true),.bin .gtr (.t 40) (.c (.v (.int .i64 9))),0,[]⟩,⟨some 42,none,
 .pick (.t 36) (.t 41) (.c (.v (.bool false))),0,[]⟩]) (.cond (.t 42) (.seq (.reg [⟨some 2,none,.mov (.c (.v (.int .i64 6))),0,[]⟩]) .ret) .skip))
  (.seq (.seq (.reg [⟨some 4,none,.mov (.c (.v (.int .i64 0))),0,[]⟩]) (.block 2 (.loop (.seq (.seq (.reg [⟨some 43,none,.mov (.t 4),0,[]⟩,⟨some 44,none,.mov (.t 0),0,[]⟩
 ,⟨some 45,none,.lenS (.t 44),0,[]⟩,⟨some 46,none,.bin .lss (.t 43) (.t 45),0,[]⟩]) (.cond (.t 46) .skip (.exit 2))) (.seq (.block 3 (.seq (.reg [⟨some 5,none,
 .mov (.c (.v (.int .i64 0))),0,[]⟩]) (.block 4 (.loop (.seq (.seq (.reg [⟨some 49,none,.mov (.t 5),0,[]⟩,⟨some 50,none,.mov (.t 0),0,[]⟩,⟨some 51,none,.mov (.t 4),0,[]⟩,
 ⟨some 52,none,.iaddr 1 (.t 50) (.t 51),0,[]⟩,⟨some 53,none,.load false 1 (.t 52),0,[]⟩,⟨some 54,none,.lenS (.t 53),0,[]⟩,⟨some 55,none,.bin .lss (.t 49) (.t 54),0,[]⟩])
  (.cond (.t 55) .skip (.exit 4))) (.seq (.block 5 (.seq (.reg [⟨some 58,none,.mov (.t 0),0,[]⟩,⟨some 59,none,.mov (.t 4),0,[]⟩,⟨some 60,none,.iaddr 1 (.t 58) (.t 59),0,
 []⟩,⟨some 61,none,.load false 1 (.t 60),0,[]⟩,⟨some 62,none,.mov (.t 5),0,[]⟩,⟨some 63,none,.iaddr 1 (.t 61) (.t 62),0,[]⟩,⟨some 64,none,.load false 1 (.t 63),0,[]⟩,
 ⟨some 65,none,.bin .lss (.t 64) (.c (.v (.int .i64 (-1000000)))),0,[]⟩,⟨some 66,none,.mov (.t 65),0,[]⟩,⟨some 67,some (66,false),.mov (.t 0),0,[]⟩,⟨some 68,some (66,
 false),.mov (.t 4),0,[]⟩,⟨some 69,some (66,false),.iaddr 1 (.t 67) (.t 68),0,[]⟩,⟨some 70,some (66,false),.load false 1 (.t 69),0,[]⟩,⟨some 71,some (66,false),
 .mov (.t 5),0,[]⟩,⟨some 72,some (66,false),.iaddr 1 (.t 70) (.t 71),0,[]⟩,⟨some 73,some (66,false),.load false 1 (.t 72),0,[]⟩,⟨some 74,some (66,false),.bin .gtr (.t 73)
  (.c (.v (.int .i64 1000000))),0,[]⟩,⟨some 75,none,.pick (.t 66) (.c (.v (.bool true))) (.t 74),0,[]⟩]) (.cond (.t 75) (.seq (.reg [⟨some 2,none,
 .mov (.c (.v (.int .i64 2))),0,[]⟩]) .ret) .skip))) (.reg [⟨some 56,none,.mov (.t 5),0,[]⟩,⟨some 57,none,.bin .add (.t 56) (.c (.v (.int .i64 1))),0,[]⟩,⟨some 5,none,
 .mov (.t 57),0,[]⟩]))))))) (.reg [⟨some 47,none,.mov (.t 4),0,[]⟩,⟨some 48,none,.bin .add (.t 47) (.c (.v (.int .i64 1))),0,[]⟩,⟨some 4,none,.mov (.t 48),0,[]⟩]))))))
  (.seq (.reg [⟨some 2,none,.mov (.c (.v (.int .i64 0))),0,[]⟩]) .ret)))))⟩
theorem pf19_is : pfs 19 = some pf19 := by kernel_rfl
-- euclid/farkas.check
def pf22 : PF := ⟨61,[.t 2],.seq (.reg [⟨some 2,none,.mov (.c (.v (.int .i64 0))),0,[]⟩]) (.seq (.seq (.reg [⟨some 9,none,.mov (.t 0),0,[]⟩,⟨some 10,none,.lenS (.t 9),0,[]⟩,⟨some 11,
 none,.bin .gtr (.t 10) (.c (.v (.int .i64 24))),0,[]⟩]) (.cond (.t 11) (.seq (.reg [⟨some 2,none,.mov (.c (.v (.int .i64 6))),0,[]⟩]) .ret) .skip))
  (.seq (.seq (.reg [⟨some 12,none,.mov (.t 0),0,[]⟩,⟨some 13,none,.lenS (.t 12),0,[]⟩,⟨some 14,none,.mov (.c (.v (.int .i64 0))),0,[]⟩])
  (.block 0 (.loop (.seq (.reg [⟨some 15,none,.bin .lss (.t 14) (.t 13),0,[]⟩]) (.seq (.cond (.t 15) .skip (.exit 0)) (.seq (.block 1 (.seq (.reg [⟨some 16,none,
 .iaddr 1 (.t 12) (.t 14),0,[]⟩,⟨some 17,none,.load false 1 (.t 16),0,[]⟩,⟨some 4,none,.mov (.t 17),0,[]⟩]) (.seq (.reg [⟨some 18,none,.mov (.t 4),0,[]⟩,⟨some 19,none,
 .lenS (.t 18),0,[]⟩,⟨some 20,none,.bin .eql (.t 19) (.c (.v (.int .i64 0))),0,[]⟩,⟨some 21,none,.mov (.t 20),0,[]⟩,⟨some 22,some (21,false),.mov (.t 4),0,[]⟩,⟨some 23,
 some (21,false),.lenS (.t 22),0,[]⟩,⟨some 24,some (21,false),.mov (.t 0),0,[]⟩,⟨some 25,some (21,false),.iaddr 1 (.t 24) (.c (.v (.int .i64 0))),0,[]⟩,⟨some 26,some (21,
 false),.load false 1 (.t 25),0,[]⟩,⟨some 27,some (21,false),.lenS (.t 26),0,[]⟩,⟨some 28,some (21,false),.bin .neq (.t 23) (.t 27),0,[]⟩,⟨some 29,none,.pick (.t 21)
  (.c (.v (.bool true))) (.t 28),0,[]⟩]) (.cond (.t 29) (.seq (.reg [⟨some 2,none,.mov (.c (.v (.int .i64 3))),0,[]⟩]) .ret) .skip)))) (.reg [⟨some 30,none,
 .bin .add (.t 14) (.c (.v (.int .i64 1))),0,[]⟩,⟨some 14,none,.mov (.t 30),0,[]⟩]))))))) (.seq (.seq (.reg [⟨some 31,none,.mov (.t 0),0,[]⟩,⟨some 32,none,.lenS (.t 31),
 0,[]⟩,⟨some 33,none,.bin .gtr (.t 32) (.c (.v (.int .i64 0))),0,[]⟩,⟨some 34,none,.mov (.t 33),0,[]⟩,⟨some 35,some (34,true),.mov (.t 0),0,[]⟩,⟨some 36,some (34,true),
 .iaddr 1 (.t 35) (.c (.v (.int .i64 0))),0,[]⟩,⟨some 37,some (34,true),.load false 1 (.t 36),0,[]⟩,⟨some 38,some (34,true),.lenS (.t 37),0,[]⟩,⟨some 39,some (34,true),
 .bin .gtr (.t 38) (.c (.v (.int .i64 9))),0,[]⟩,⟨some 40,none,.pick (.t 34) (.t 39) (.c (.v (.bool false))),0,[]⟩]) (.cond (.t 40) (.seq (.reg [⟨some 2,none,
 .mov (.c (.v (.int .i64 6))),0,[]⟩]) .ret) .skip)) (.seq (.seq (.reg [⟨some 41,none,.mov (.t 0),0,[]⟩,⟨some 42,none,.lenS (.t 41),0,[]⟩,⟨some 43,none,
 .mov (.c (.v (.int .i64 0))),0,[]⟩]) (.block 2 (.loop (.seq (.reg [⟨some 44,none,.bin .lss (.t 43) (.t 42),0,[]⟩]) (.seq (.cond (.t 44) .skip (.exit 2))
  (.seq (.block 3 (.seq (.reg [⟨some 45,none,.iaddr 1 (.t 41) (.t 43),0,[]⟩,⟨some 46,none,.load false 1 (.t 45),0,[]⟩,⟨some 6,none,.mov (.t 46),0,[]⟩])
  (.seq (.reg [⟨some 47,none,.mov (.t 6),0,[]⟩,⟨some 48,none,.lenS (.t 47),0,[]⟩,⟨some 49,none,.mov (.c (.v (.int .i64 0))),0,[]⟩])
  (.block 4 (.loop (.seq (.reg [⟨some 50,none,.bin .lss (.t 49) (.t 48),0,[]⟩]) (.seq (.cond (.t 50) .skip (.exit 4)) (.seq (.block 5 (.seq (.reg [⟨some 51,none,
 .iaddr 1 (.t 47) (.t 49),0,[]⟩,⟨some 52,none,.load false 1 (.t 51),0,[]⟩,⟨some 8,none,.mov (.t 52),0,[]⟩]) (.seq (.reg [⟨some 53,none,.mov (.t 8),0,[]⟩,⟨some 54,none,
 .bin .lss (.t 53) (.c (.v (.int .i64 (-1000000)))),0,[]⟩,⟨some 55,none,.mov (.t 54),0,[]⟩,⟨some 56,some (55,false),.mov (.t 8),0,[]⟩,⟨some 57,some (55,false),
 .bin .gtr (.t 56) (.c (.v (.int .i64 1000000))),0,[]⟩,⟨some 58,none,.pick (.t 55) (.c (.v (.bool true))) (.t 57),0,[]⟩]) (.cond (.t 58) (.seq (.reg [⟨some 2,none,
 .mov (.c (.v (.int .i64 2))),0,[]⟩]) .ret) .skip)))) (.reg [⟨some 59,none,.bin .add (.t 49) (.c (.v (.int .i64 1))),0,[]⟩,⟨some 49,none,.mov (.t 59),0,[]⟩])))))))))
  (.reg [⟨some 60,none,.bin .add (.t 43) (.c (.v (.int .i64 1))),0,[]⟩,⟨some 43,none,.mov (.t 60),0,[]⟩]))))))) (.seq (.reg [⟨some 2,none,.mov (.c (.v (.int .i64 0))),0,
 []⟩]) .ret)))))⟩
theorem pf22_is : pfs 22 = some pf22 := by kernel_rfl
-- euclid/farkas.Refute$1
def pf23 : PF := ⟨9,[],.seq (.reg [⟨some 4,none,.recov,0,[]⟩,⟨some 3,none,.mov (.t 4),0,[]⟩]) (.seq (.reg [⟨some 5,none,.mov (.t 3),0,[]⟩,⟨some 6,none,.eqi true (.t 5) (.c (.v .nilIface)
 ),0,[]⟩]) (.cond (.t 6) (.reg [⟨some 7,none,.mov (.t 3),0,[]⟩,⟨some 8,none,.call (.c (.fn 24 [])) [.t 7],0,[]⟩,⟨none,none,.store 1 (.t 0) (.c (.sl [] .nil)),0,[]⟩,⟨none,
 none,.store 1 (.t 1) (.c (.v (.bool false))),0,[]⟩,⟨none,none,.store 1 (.t 2) (.t 8),0,[]⟩]) .skip))⟩
theorem pf23_is : pfs 23 = some pf23 := by kernel_rfl
-- euclid/farkas.caught
def pf24 : PF := ⟨14,[.t 2],.seq (.reg [⟨some 2,none,.mov (.c (.v (.int .i64 0))),0,[]⟩]) (.seq (.reg [⟨some 6,none,.mov (.t 0),0,[]⟩,⟨some 7,none,.tass 28 true (.v (.int .i64 0)) (.t 6)
 ,0,[]⟩,⟨some 5,none,.mov (.t 7),0,[]⟩,⟨some 8,none,.ext (.t 5) 0,0,[]⟩,⟨some 9,none,.ext (.t 5) 1,0,[]⟩,⟨some 3,none,.mov (.t 8),0,[]⟩,⟨some 4,none,.mov (.t 9),0,[]⟩])
  (.seq (.seq (.reg [⟨some 10,none,.mov (.t 4),0,[]⟩,⟨some 11,none,.un .not (.t 10),0,[]⟩]) (.cond (.t 11) (.reg [⟨some 12,none,.mov (.t 0),0,[]⟩,⟨none,none,
 .panic (.t 12),0,[]⟩]) .skip)) (.seq (.reg [⟨some 13,none,.mov (.t 3),0,[]⟩,⟨some 2,none,.mov (.t 13),0,[]⟩]) .ret)))⟩
theorem pf24_is : pfs 24 = some pf24 := by kernel_rfl
-- euclid/farkas.eliminate
def pf25 : PF := ⟨70,[.t 2,.t 3,.t 4],.seq (.reg [⟨some 2,none,.mov (.c (.sl [] .nil)),0,[]⟩,⟨some 3,none,.mov (.c (.sl [] .nil)),0,[]⟩,⟨some 4,none,.mov (.c (.v (.bool false))),0,[]⟩])
  (.seq (.reg [⟨some 5,none,.mov (.c (.sl [] .nil)),0,[]⟩]) (.seq (.seq (.reg [⟨some 15,none,.mov (.t 0),0,[]⟩,⟨some 16,none,.lenS (.t 15),0,[]⟩,⟨some 17,none,
 .mov (.c (.v (.int .i64 0))),0,[]⟩]) (.block 0 (.loop (.seq (.reg [⟨some 18,none,.bin .lss (.t 17) (.t 16),0,[]⟩]) (.seq (.cond (.t 18) .skip (.exit 0))
  (.seq (.block 1 (.seq (.reg [⟨some 19,none,.mov (.t 17),0,[]⟩,⟨some 20,none,.iaddr 1 (.t 15) (.t 17),0,[]⟩,⟨some 21,none,.load false 1 (.t 20),0,[]⟩,⟨some 6,none,
 .mov (.t 19),0,[]⟩,⟨some 7,none,.mov (.t 21),0,[]⟩]) (.seq (.reg [⟨some 22,none,.mov (.t 0),0,[]⟩,⟨some 23,none,.lenS (.t 22),0,[]⟩,⟨some 24,none,.mksl (.v (.int .i64 0)
 ) 1 false (.t 23),0,[]⟩,⟨some 8,none,.mov (.t 24),0,[]⟩]) (.seq (.reg [⟨some 25,none,.mov (.t 8),0,[]⟩,⟨some 26,none,.mov (.t 6),0,[]⟩,⟨some 27,none,.iaddr 1 (.t 25)
  (.t 26),0,[]⟩,⟨none,none,.store 1 (.t 27) (.c (.v (.int .i64 1))),0,[]⟩]) (.reg [⟨some 28,none,.mov (.t 5),0,[]⟩,⟨some 29,none,.bsl (.v (.int .i64 0)) 0 [],0,[]⟩,
 ⟨some 30,none,.mov (.t 7),0,[]⟩,⟨some 31,none,.app 1 none (.t 29) (.t 30),0,[]⟩,⟨some 32,none,.mov (.t 8),0,[]⟩,⟨some 33,none,.build [.sl [] .nil,.sl [] .nil] [(0,1,
 .t 31),(1,1,.t 32)],0,[]⟩,⟨some 34,none,.bsl (.agg [.sl [] .nil,.sl [] .nil]) 1 [(0,2,.t 33)],0,[]⟩,⟨some 35,none,.app 2 none (.t 28) (.t 34),0,[]⟩,⟨some 5,none,
 .mov (.t 35),0,[]⟩]))))) (.reg [⟨some 36,none,.bin .add (.t 17) (.c (.v (.int .i64 1))),0,[]⟩,⟨some 17,none,.mov (.t 36),0,[]⟩]))))))) (.seq (.reg [⟨some 37,none,
 .mov (.t 5),0,[]⟩,⟨some 38,none,.bsl (.sl [] .nil) 1 [(0,1,.t 37)],0,[]⟩,⟨some 9,none,.mov (.t 38),0,[]⟩]) (.seq (.seq (.reg [⟨some 10,none,.mov (.c (.v (.int .i64 0))),
 0,[]⟩]) (.block 2 (.loop (.seq (.seq (.reg [⟨some 39,none,.mov (.t 10),0,[]⟩,⟨some 40,none,.mov (.t 0),0,[]⟩,⟨some 41,none,.iaddr 1 (.t 40) (.c (.v (.int .i64 0))),0,[]⟩
 ,⟨some 42,none,.load false 1 (.t 41),0,[]⟩,⟨some 43,none,.lenS (.t 42),0,[]⟩,⟨some 44,none,.bin .sub (.t 43) (.c (.v (.int .i64 1))),0,[]⟩,⟨some 45,none,
 .bin .lss (.t 39) (.t 44),0,[]⟩]) (.cond (.t 45) .skip (.exit 2))) (.seq (.block 3 (.seq (.seq (.reg [⟨some 49,none,.mov (.t 5),0,[]⟩,⟨some 50,none,.call (.c (.fn 35 [])
 ) [.t 49],0,[]⟩,⟨some 48,none,.mov (.t 50),0,[]⟩,⟨some 51,none,.ext (.t 48) 0,0,[]⟩,⟨some 52,none,.ext (.t 48) 1,0,[]⟩,⟨some 11,none,.mov (.t 51),0,[]⟩,⟨some 12,none,
 .mov (.t 52),0,[]⟩]) (.seq (.reg [⟨some 53,none,.mov (.t 12),0,[]⟩]) (.cond (.t 53) (.seq (.reg [⟨some 54,none,.mov (.t 11),0,[]⟩,⟨some 2,none,.mov (.c (.sl [] .nil)),0,
 []⟩,⟨some 3,none,.mov (.t 54),0,[]⟩,⟨some 4,none,.mov (.c (.v (.bool true))),0,[]⟩]) .ret) .skip))) (.seq (.reg [⟨some 55,none,.mov (.t 5),0,[]⟩,⟨some 56,none,
 .mov (.t 10),0,[]⟩,⟨some 57,none,.call (.c (.fn 36 [])) [.t 55,.t 56],0,[]⟩,⟨some 5,none,.mov (.t 57),0,[]⟩]) (.reg [⟨some 58,none,.mov (.t 9),0,[]⟩,⟨some 59,none,
 .mov (.t 5),0,[]⟩,⟨some 60,none,.bsl (.sl [] .nil) 1 [(0,1,.t 59)],0,[]⟩,⟨some 61,none,.app 1 none (.t 58) (.t 60),0,[]⟩,⟨some 9,none,.mov (.t 61),0,[]⟩]))))
  (.reg [⟨some 46,none,.mov (.t 10),0,[]⟩,⟨some 47,none,.bin .add (.t 46) (.c (.v (.int .i64 1))),0,[]⟩,⟨some 10,none,.mov (.t 47),0,[]⟩])))))) (.seq (.reg [⟨some 63,
 none,.mov (.t 5),0,[]⟩,⟨some 64,none,.call (.c (.fn 35 [])) [.t 63],0,[]⟩,⟨some 62,none,.mov (.t 64),0,[]⟩,⟨some 65,none,.ext (.t 62) 0,0,[]⟩,⟨some 66,none,.ext (.t 62)
  1,0,[]⟩,⟨some 13,none,.mov (.t 65),0,[]⟩,⟨some 14,none,.mov (.t 66),0,[]⟩]) (.seq (.reg [⟨some 67,none,.mov (.t 9),0,[]⟩,⟨some 68,none,.mov (.t 13),0,[]⟩,⟨some 69,none,
 .mov (.t 14),0,[]⟩,⟨some 2,none,.mov (.t 67),0,[]⟩,⟨some 3,none,.mov (.t 68),0,[]⟩,⟨some 4,none,.mov (.t 69),0,[]⟩]) .ret))))))⟩
theorem pf25_is : pfs 25 = some pf25 := by kernel_rfl
-- slices.ContainsFunc[[][]int,[]int]
def pf26 : PF := ⟨9,[.t 4],.seq (.reg [⟨some 4,none,.mov (.c (.v (.bool false))),0,[]⟩]) (.seq (.reg [⟨some 5,none,.mov (.t 0),0,[]⟩,⟨some 6,none,.mov (.t 1),0,[]⟩,⟨some 7,none,
 .call (.c (.fn 37 [])) [.t 5,.t 6],0,[]⟩,⟨some 8,none,.bin .geq (.t 7) (.c (.v (.int .i64 0))),0,[]⟩,⟨some 4,none,.mov (.t 8),0,[]⟩]) .ret)⟩
theorem pf26_is : pfs 26 = some pf26 := by kernel_rfl
-- euclid/euclidlaw41.few$1
def pf27 : PF := ⟨6,[.t 2],.seq (.reg [⟨some 2,none,.mov (.c (.v (.bool false))),0,[]⟩]) (.seq (.reg [⟨some 3,none,.mov (.t 0),0,[]⟩,⟨some 4,none,.lenS (.t 3),0,[]⟩,⟨some 5,none,
 .bin .gtr (.t 4) (.c (.v (.int .i64 10))),0,[]⟩,⟨some 2,none,.mov (.t 5),0,[]⟩]) .ret)⟩
theorem pf27_is : pfs 27 = some pf27 := by kernel_rfl
-- euclid/farkas.gcd
def pf29 : PF := ⟨24,[.t 2],.seq (.reg [⟨some 2,none,.mov (.c (.v (.int .i64 0))),0,[]⟩]) (.seq (.reg [⟨some 3,none,.mov (.c (.v (.int .i64 0))),0,[]⟩]) (.seq (.seq (.reg [⟨some 6,none,
 .mov (.t 0),0,[]⟩,⟨some 7,none,.lenS (.t 6),0,[]⟩,⟨some 8,none,.mov (.c (.v (.int .i64 0))),0,[]⟩]) (.block 0 (.loop (.seq (.reg [⟨some 9,none,.bin .lss (.t 8) (.t 7),0,
 []⟩]) (.seq (.cond (.t 9) .skip (.exit 0)) (.seq (.block 1 (.seq (.reg [⟨some 10,none,.iaddr 1 (.t 6) (.t 8),0,[]⟩,⟨some 11,none,.load false 1 (.t 10),0,[]⟩,⟨some 5,
 none,.mov (.t 11),0,[]⟩]) (.seq (.reg [⟨some 12,none,.mov (.t 5),0,[]⟩,⟨some 13,none,.mov (.t 5),0,[]⟩,⟨some 14,none,.un .neg (.t 13),0,[]⟩,⟨some 15,none,.max (.t 12)
  (.t 14),0,[]⟩,⟨some 5,none,.mov (.t 15),0,[]⟩]) (.block 2 (.loop (.seq (.seq (.reg [⟨some 16,none,.mov (.t 5),0,[]⟩,⟨some 17,none,.bin .neq (.t 16)
  (.c (.v (.int .i64 0))),0,[]⟩]) (.cond (.t 17) .skip (.exit 2))) (.block 3 (.dreg [5] [⟨some 18,none,.mov (.t 5),0,[]⟩,⟨some 19,none,.mov (.t 3),1,[]⟩,⟨some 20,none,
 .mov (.t 5),2,[]⟩,⟨some 21,none,.bin .rem (.t 19) (.t 20),3,[2,1]⟩,⟨some 3,none,.mov (.t 18),4,[1,0]⟩,⟨some 5,none,.mov (.t 21),5,[4,0,3,2,1]⟩])))))))) (.reg [⟨some 22,
 none,.bin .add (.t 8) (.c (.v (.int .i64 1))),0,[]⟩,⟨some 8,none,.mov (.t 22),0,[]⟩]))))))) (.seq (.reg [⟨some 23,none,.mov (.t 3),0,[]⟩,⟨some 2,none,.mov (.t 23),0,[]⟩]
 ) .ret)))⟩
theorem pf29_is : pfs 29 = some pf29 := by kernel_rfl
-- euclid/farkas.refuting
def pf35 : PF := ⟨34,[.t 2,.t 3],.seq (.reg [⟨some 2,none,.mov (.c (.sl [] .nil)),0,[]⟩,⟨some 3,none,.mov (.c (.v (.bool false))),0,[]⟩]) (.seq (.seq (.reg [⟨some 7,none,.mov (.t 0),0,[]
 ⟩,⟨some 8,none,.lenS (.t 7),0,[]⟩,⟨some 9,none,.mov (.c (.v (.int .i64 0))),0,[]⟩]) (.block 0 (.loop (.seq (.reg [⟨some 10,none,.bin .lss (.t 9) (.t 8),0,[]⟩])
  (.seq (.cond (.t 10) .skip (.exit 0)) (.seq (.block 1 (.seq (.reg [⟨some 11,none,.iaddr 2 (.t 7) (.t 9),0,[]⟩,⟨some 12,none,.load true 2 (.t 11),0,[]⟩,⟨some 5,none,
 .alloc [.sl [] .nil,.sl [] .nil],0,[]⟩,⟨none,none,.store 2 (.t 5) (.t 12),0,[]⟩]) (.seq (.reg [⟨some 13,none,.faddr 0 (.t 5),0,[]⟩,⟨some 14,none,.load false 1 (.t 13),0,
 []⟩,⟨some 15,none,.lenS (.t 14),0,[]⟩,⟨some 16,none,.bin .sub (.t 15) (.c (.v (.int .i64 1))),0,[]⟩,⟨some 6,none,.mov (.t 16),0,[]⟩]) (.seq (.reg [⟨some 17,none,
 .faddr 0 (.t 5),0,[]⟩,⟨some 18,none,.load false 1 (.t 17),0,[]⟩,⟨some 19,none,.mov (.t 6),0,[]⟩,⟨some 20,none,.iaddr 1 (.t 18) (.t 19),0,[]⟩,⟨some 21,none,
 .load false 1 (.t 20),0,[]⟩,⟨some 22,none,.bin .gtr (.t 21) (.c (.v (.int .i64 0))),0,[]⟩,⟨some 23,none,.mov (.t 22),0,[]⟩,⟨some 24,some (23,true),.faddr 0 (.t 5),0,[]⟩,
 ⟨some 25,some (23,true),.load false 1 (.t 24),0,[]⟩,⟨some 26,some (23,true),.mov (.t 6),0,[]⟩,⟨some 27,some (23,true),.slice 1 (.t 25) none (some (.t 26)) none,0,[]⟩,
 ⟨some 28,some (23,true),.call (.c (.fn 29 [])) [.t 27],0,[]⟩,⟨some 29,some (23,true),.bin .eql (.t 28) (.c (.v (.int .i64 0))),0,[]⟩,⟨some 30,none,.pick (.t 23) (.t 29)
  (.c (.v (.bool false))),0,[]⟩]) (.cond (.t 30) (.seq (.reg [⟨some 31,none,.faddr 1 (.t 5),0,[]⟩,⟨some 32,none,.load false 1 (.t 31),0,[]⟩,⟨some 2,none,.mov (.t 32),0,[]
 ⟩,⟨some 3,none,.mov (.c (.v (.bool true))),0,[]⟩]) .ret) .skip))))) (.reg [⟨some 33,none,.bin .add (.t 9) (.c (.v (.int .i64 1))),0,[]⟩,⟨some 9,none,.mov (.t 33),0,[]⟩])
 )))))) (.seq (.reg [⟨some 2,none,.mov (.c (.sl [] .nil)),0,[]⟩,⟨some 3,none,.mov (.c (.v (.bool false))),0,[]⟩]) .ret))⟩
theorem pf35_is : pfs 35 = some pf35 := by kernel_rfl
-- euclid/farkas.stage
def pf36 : PF := ⟨67,[.t 4],.seq (.reg [⟨some 4,none,.mov (.c (.sl [] .nil)),0,[]⟩]) (.seq (.reg [⟨some 5,none,.alloc [.sl [] .nil],0,[]⟩]) (.seq (.reg [⟨some 14,none,.mkmap,0,[]⟩,
 ⟨some 6,none,.alloc [.v (.map none)],0,[]⟩,⟨none,none,.store 1 (.t 6) (.t 14),0,[]⟩]) (.seq (.reg [⟨some 15,none,.mkfn 42 [.t 6,.t 5],0,[]⟩,⟨some 7,none,.mov (.t 15),0,
 []⟩]) (.seq (.seq (.reg [⟨some 16,none,.mov (.t 0),0,[]⟩,⟨some 17,none,.lenS (.t 16),0,[]⟩,⟨some 18,none,.mov (.c (.v (.int .i64 0))),0,[]⟩])
  (.block 0 (.loop (.seq (.reg [⟨some 19,none,.bin .lss (.t 18) (.t 17),0,[]⟩]) (.seq (.cond (.t 19) .skip (.exit 0)) (.seq (.block 1 (.seq (.reg [⟨some 20,none,
 .iaddr 2 (.t 16) (.t 18),0,[]⟩,⟨some 21,none,.load true 2 (.t 20),0,[]⟩,⟨some 9,none,.alloc [.sl [] .nil,.sl [] .nil],0,[]⟩,⟨none,none,.store 2 (.t 9) (.t 21),0,[]⟩])
  (.seq (.reg [⟨some 22,none,.faddr 0 (.t 9),0,[]⟩,⟨some 23,none,.load false 1 (.t 22),0,[]⟩,⟨some 24,none,.mov (.t 1),0,[]⟩,⟨some 25,none,.iaddr 1 (.t 23) (.t 24),0,[]⟩,
 ⟨some 26,none,.load false 1 (.t 25),0,[]⟩,⟨some 27,none,.bin .eql (.t 26) (.c (.v (.int .i64 0))),0,[]⟩]) (.cond (.t 27) (.reg [⟨some 28,none,.mov (.t 7),0,[]⟩,⟨some 29,
 none,.load true 2 (.t 9),0,[]⟩,⟨some 30,none,.call (.t 28) [.t 29],0,[]⟩]) .skip)))) (.reg [⟨some 31,none,.bin .add (.t 18) (.c (.v (.int .i64 1))),0,[]⟩,⟨some 18,none,
 .mov (.t 31),0,[]⟩]))))))) (.seq (.seq (.reg [⟨some 32,none,.mov (.t 0),0,[]⟩,⟨some 33,none,.lenS (.t 32),0,[]⟩,⟨some 34,none,.mov (.c (.v (.int .i64 0))),0,[]⟩])
  (.block 2 (.loop (.seq (.reg [⟨some 35,none,.bin .lss (.t 34) (.t 33),0,[]⟩]) (.seq (.cond (.t 35) .skip (.exit 2)) (.seq (.block 3 (.seq (.reg [⟨some 36,none,
 .iaddr 2 (.t 32) (.t 34),0,[]⟩,⟨some 37,none,.load true 2 (.t 36),0,[]⟩,⟨some 11,none,.alloc [.sl [] .nil,.sl [] .nil],0,[]⟩,⟨none,none,.store 2 (.t 11) (.t 37),0,[]⟩])
  (.seq (.reg [⟨some 38,none,.mov (.t 0),0,[]⟩,⟨some 39,none,.lenS (.t 38),0,[]⟩,⟨some 40,none,.mov (.c (.v (.int .i64 0))),0,[]⟩])
  (.block 4 (.loop (.seq (.reg [⟨some 41,none,.bin .lss (.t 40) (.t 39),0,[]⟩]) (.seq (.cond (.t 41) .skip (.exit 4)) (.seq (.block 5 (.seq (.reg [⟨some 42,none,
 .iaddr 2 (.t 38) (.t 40),0,[]⟩,⟨some 43,none,.load true 2 (.t 42),0,[]⟩,⟨some 13,none,.alloc [.sl [] .nil,.sl [] .nil],0,[]⟩,⟨none,none,.store 2 (.t 13) (.t 43),0,[]⟩])
  (.seq (.reg [⟨some 44,none,.faddr 0 (.t 11),0,[]⟩,⟨some 45,none,.load false 1 (.t 44),0,[]⟩,⟨some 46,none,.mov (.t 1),0,[]⟩,⟨some 47,none,.iaddr 1 (.t 45) (.t 46),0,[]⟩
 ,⟨some 48,none,.load false 1 (.t 47),0,[]⟩,⟨some 49,none,.bin .gtr (.t 48) (.c (.v (.int .i64 0))),0,[]⟩,⟨some 50,none,.mov (.t 49),0,[]⟩,⟨some 51,some (50,true),
 .faddr 0 (.t 13),0,[]⟩,⟨some 52,some (50,true),.load false 1 (.t 51),0,[]⟩,⟨some 53,some (50,true),.mov (.t 1),0,[]⟩,⟨some 54,some (50,true),.iaddr 1 (.t 52) (.t 53),0,
 []⟩,⟨some 55,some (50,true),.load false 1 (.t 54),0,[]⟩,⟨some 56,some (50,true),.bin .lss (.t 55) (.c (.v (.int .i64 0))),0,[]⟩,⟨some 57,none,.pick (.t 50) (.t 56)
  (.c (.v (.bool false))),0,[]⟩]) (.cond (.t 57) (.reg [⟨some 58,none,.mov (.t 7),0,[]⟩,⟨some 59,none,.load true 2 (.t 11),0,[]⟩,⟨some 60,none,.load true 2 (.t 13),0,[]⟩,
 ⟨some 61,none,.mov (.t 1),0,[]⟩,⟨some 62,none,.call (.c (.fn 45 [])) [.t 59,.t 60,.t 61],0,[]⟩,⟨some 63,none,.call (.t 58) [.t 62],0,[]⟩]) .skip)))) (.reg [⟨some 64,
 none,.bin .add (.t 40) (.c (.v (.int .i64 1))),0,[]⟩,⟨some 40,none,.mov (.t 64),0,[]⟩]))))))))) (.reg [⟨some 65,none,.bin .add (.t 34) (.c (.v (.int .i64 1))),0,[]⟩,
 ⟨some 34,none,.mov (.t 65),0,[]⟩]))))))) (.seq (.reg [⟨some 66,none,.load false 1 (.t 5),0,[]⟩,⟨some 4,none,.mov (.t 66),0,[]⟩]) .ret))))))⟩
theorem pf36_is : pfs 36 = some pf36 := by kernel_rfl
-- slices.IndexFunc[[][]int,[]int]
def pf37 : PF := ⟨19,[.t 4],.seq (.reg [⟨some 4,none,.mov (.c (.v (.int .i64 0))),0,[]⟩]) (.seq (.seq (.reg [⟨some 6,none,.mov (.t 0),0,[]⟩,⟨some 7,none,.lenS (.t 6),0,[]⟩,⟨some 8,none,
 .mov (.c (.v (.int .i64 0))),0,[]⟩]) (.block 0 (.loop (.seq (.reg [⟨some 9,none,.bin .lss (.t 8) (.t 7),0,[]⟩]) (.seq (.cond (.t 9) .skip (.exit 0))
  (.seq (.block 1 (.seq (.reg [⟨some 10,none,.mov (.t 8),0,[]⟩,⟨some 5,none,.mov (.t 10),0,[]⟩]) (.seq (.reg [⟨some 11,none,.mov (.t 1),0,[]⟩,⟨some 12,none,.mov (.t 0),0,
 []⟩,⟨some 13,none,.mov (.t 5),0,[]⟩,⟨some 14,none,.iaddr 1 (.t 12) (.t 13),0,[]⟩,⟨some 15,none,.load false 1 (.t 14),0,[]⟩,⟨some 16,none,.call (.t 11) [.t 15],0,[]⟩])
  (.cond (.t 16) (.seq (.reg [⟨some 17,none,.mov (.t 5),0,[]⟩,⟨some 4,none,.mov (.t 17),0,[]⟩]) .ret) .skip)))) (.reg [⟨some 18,none,.bin .add (.t 8)
  (.c (.v (.int .i64 1))),0,[]⟩,⟨some 8,none,.mov (.t 18),0,[]⟩]))))))) (.seq (.reg [⟨some 4,none,.mov (.c (.v (.int .i64 (-1)))),0,[]⟩]) .ret))⟩
theorem pf37_is : pfs 37 = some pf37 := by kernel_rfl
-- euclid/farkas.stage$1
def pf42 : PF := ⟨21,[],.seq (.reg [⟨some 3,none,.box (.t 0),0,[]⟩]) (.seq (.reg [⟨some 5,none,.faddr 0 (.t 3),0,[]⟩,⟨some 6,none,.load false 1 (.t 5),0,[]⟩,⟨some 7,none,
 .call (.c (.fn 43 [])) [.t 6],0,[]⟩,⟨some 4,none,.mov (.t 7),0,[]⟩]) (.seq (.seq (.reg [⟨some 8,none,.load false 1 (.t 1),0,[]⟩,⟨some 9,none,.mov (.t 4),0,[]⟩,⟨some 10,
 none,.look (.v (.bool false)) false true (.t 8) (.t 9),0,[]⟩]) (.cond (.t 10) .ret .skip)) (.seq (.reg [⟨some 11,none,.load false 1 (.t 1),0,[]⟩,⟨some 12,none,
 .mov (.t 4),0,[]⟩,⟨none,none,.mapup true (.t 11) (.t 12) (.c (.v (.bool true))),0,[]⟩]) (.seq (.reg [⟨some 13,none,.load false 1 (.t 2),0,[]⟩,⟨some 14,none,
 .load true 2 (.t 3),0,[]⟩,⟨some 15,none,.bsl (.agg [.sl [] .nil,.sl [] .nil]) 1 [(0,2,.t 14)],0,[]⟩,⟨some 16,none,.app 2 none (.t 13) (.t 15),0,[]⟩,⟨none,none,
 .store 1 (.t 2) (.t 16),0,[]⟩]) (.seq (.reg [⟨some 17,none,.load false 1 (.t 2),0,[]⟩,⟨some 18,none,.lenS (.t 17),0,[]⟩,⟨some 19,none,.bin .gtr (.t 18)
  (.c (.v (.int .i64 500))),0,[]⟩]) (.cond (.t 19) (.reg [⟨some 20,none,.call (.c (.fn 44 [])) [.c (.v (.int .i64 6))],0,[]⟩]) .skip))))))⟩
theorem pf42_is : pfs 42 = some pf42 := by kernel_rfl
-- euclid/farkas.fail
def pf44 : PF := ⟨4,[],.reg [⟨some 2,none,.mov (.t 0),0,[]⟩,⟨some 3,none,.mkif 28 (.t 2),0,[]⟩,⟨none,none,.panic (.t 3),0,[]⟩]⟩
theorem pf44_is : pfs 44 = some pf44 := by kernel_rfl
-- euclid/farkas.combined
def pf45 : PF := ⟨91,[.c 6 true 2],.seq (.reg [⟨some 3,none,.box (.t 0),0,[]⟩,⟨some 4,none,.box (.t 1),0,[]⟩,⟨some 6,none,.alloc [.sl [] .nil,.sl [] .nil],0,[]⟩]) (.seq (.dreg [12]
  [⟨some 14,none,.faddr 0 (.t 3),0,[]⟩,⟨some 15,none,.load false 1 (.t 14),1,[0]⟩,⟨some 16,none,.mov (.t 2),2,[]⟩,⟨some 17,none,.iaddr 1 (.t 15) (.t 16),3,[2,1,0]⟩,
 ⟨some 18,none,.load false 1 (.t 17),4,[3,2,1,0]⟩,⟨some 19,none,.faddr 0 (.t 4),5,[]⟩,⟨some 20,none,.load false 1 (.t 19),6,[5]⟩,⟨some 21,none,.mov (.t 2),7,[]⟩,⟨some 22,
 none,.iaddr 1 (.t 20) (.t 21),8,[7,6,5]⟩,⟨some 23,none,.load false 1 (.t 22),9,[8,7,6,5]⟩,⟨some 24,none,.un .neg (.t 23),10,[9,8,7,6,5]⟩,⟨some 7,none,.mov (.t 18),11,[4,
 3,2,1,0]⟩,⟨some 8,none,.mov (.t 24),12,[11,4,3,2,1,0,10,9,8,7,6,5]⟩]) (.seq (.reg [⟨some 25,none,.mov (.t 7),0,[]⟩,⟨some 26,none,.mov (.t 8),0,[]⟩,⟨some 27,none,
 .bsl (.v (.int .i64 0)) 2 [(0,1,.t 25),(1,1,.t 26)],0,[]⟩,⟨some 28,none,.call (.c (.fn 29 [])) [.t 27],0,[]⟩,⟨some 9,none,.mov (.t 28),0,[]⟩]) (.seq (.dreg [1001024]
  [⟨some 29,none,.faddr 0 (.t 3),0,[]⟩,⟨some 30,none,.load false 1 (.t 29),1,[0]⟩,⟨some 31,none,.faddr 0 (.t 4),2,[]⟩,⟨some 32,none,.load false 1 (.t 31),3,[2]⟩,⟨some 33,
 none,.mov (.t 8),4,[]⟩,⟨some 34,none,.mov (.t 9),5,[]⟩,⟨some 35,none,.bin .quo (.t 33) (.t 34),6,[5,4]⟩,⟨some 36,none,.mov (.t 7),7,[]⟩,⟨some 37,none,.mov (.t 9),8,[]⟩,
 ⟨some 38,none,.bin .quo (.t 36) (.t 37),9,[8,7]⟩,⟨some 39,none,.call (.c (.fn 52 [])) [.t 30,.t 32,.t 35,.t 38],10,[9,8,7,6,5,4,3,2,1,0]⟩,⟨some 40,none,.faddr 1 (.t 3),
 11,[]⟩,⟨some 41,none,.load false 1 (.t 40),12,[11]⟩,⟨some 42,none,.faddr 1 (.t 4),13,[]⟩,⟨some 43,none,.load false 1 (.t 42),14,[13]⟩,⟨some 44,none,.mov (.t 8),15,[]⟩,
 ⟨some 45,none,.mov (.t 9),16,[]⟩,⟨some 46,none,.bin .quo (.t 44) (.t 45),17,[16,15]⟩,⟨some 47,none,.mov (.t 7),18,[]⟩,⟨some 48,none,.mov (.t 9),19,[]⟩,⟨some 49,none,
 .bin .quo (.t 47) (.t 48),20,[19,18]⟩,⟨some 50,none,.call (.c (.fn 52 [])) [.t 41,.t 43,.t 46,.t 49],21,[10,9,8,7,6,5,4,3,2,1,0,20,19,18,17,16,15,14,13,12,11]⟩,⟨some 51,
 none,.build [.sl [] .nil,.sl [] .nil] [(0,1,.t 39),(1,1,.t 50)],22,[21,20,19,18,17,16,15,14,13,12,11,10,9,8,7,6,5,4,3,2,1,0]⟩,⟨some 10,none,.alloc [.sl [] .nil,.sl []
  .nil],23,[]⟩,⟨none,none,.store 2 (.t 10) (.t 51),24,[22,21,20,19,18,17,16,15,14,13,12,11,10,9,8,7,6,5,4,3,2,1,0,23]⟩]) (.seq (.seq (.dreg [6,0,0] [⟨some 52,none,
 .bsl (.v (.int .i64 0)) 0 [],0,[]⟩,⟨some 53,none,.faddr 0 (.t 10),1,[]⟩,⟨some 54,none,.load false 1 (.t 53),2,[1]⟩,⟨some 55,none,.app 1 none (.t 52) (.t 54),3,[2,1,0]⟩,
 ⟨some 56,none,.faddr 1 (.t 10),4,[]⟩,⟨some 57,none,.load false 1 (.t 56),5,[4]⟩,⟨some 58,none,.app 1 none (.t 55) (.t 57),6,[5,4,3,2,1,0]⟩,⟨some 59,none,
 .call (.c (.fn 29 [])) [.t 58],7,[6,5,4,3,2,1,0]⟩,⟨some 11,none,.mov (.t 59),8,[7,6,5,4,3,2,1,0]⟩]) (.seq (.reg [⟨some 60,none,.mov (.t 11),0,[]⟩,⟨some 61,none,
 .bin .gtr (.t 60) (.c (.v (.int .i64 0))),0,[]⟩]) (.cond (.t 61) (.seq (.reg [⟨some 62,none,.faddr 0 (.t 10),0,[]⟩,⟨some 63,none,.load false 1 (.t 62),0,[]⟩,⟨some 64,
 none,.mov (.t 11),0,[]⟩,⟨some 65,none,.call (.c (.fn 53 [])) [.t 63,.t 64],0,[]⟩]) (.reg [⟨some 66,none,.faddr 1 (.t 10),0,[]⟩,⟨some 67,none,.load false 1 (.t 66),0,[]⟩,
 ⟨some 68,none,.mov (.t 11),0,[]⟩,⟨some 69,none,.call (.c (.fn 53 [])) [.t 67,.t 68],0,[]⟩])) .skip))) (.seq (.seq (.dreg [9] [⟨some 70,none,.bsl (.v (.int .i64 0)) 0 [],
 0,[]⟩,⟨some 71,none,.faddr 0 (.t 10),1,[]⟩,⟨some 72,none,.load false 1 (.t 71),2,[1]⟩,⟨some 73,none,.app 1 none (.t 70) (.t 72),3,[2,1,0]⟩,⟨some 74,none,.faddr 1 (.t 10)
 ,4,[]⟩,⟨some 75,none,.load false 1 (.t 74),5,[4]⟩,⟨some 76,none,.app 1 none (.t 73) (.t 75),6,[5,4,3,2,1,0]⟩,⟨some 77,none,.lenS (.t 76),7,[6,5,4,3,2,1,0]⟩,⟨some 78,
 none,.mov (.c (.v (.int .i64 0))),8,[]⟩]) (.block 0 (.loop (.seq (.reg [⟨some 79,none,.bin .lss (.t 78) (.t 77),0,[]⟩]) (.seq (.cond (.t 79) .skip (.exit 0))
  (.seq (.block 1 (.seq (.reg [⟨some 80,none,.iaddr 1 (.t 76) (.t 78),0,[]⟩,⟨some 81,none,.load false 1 (.t 80),0,[]⟩,⟨some 13,none,.mov (.t 81),0,[]⟩])
  (.seq (.reg [⟨some 82,none,.mov (.t 13),0,[]⟩,⟨some 83,none,.bin .gtr (.t 82) (.c (.v (.int .i64 1073741824))),0,[]⟩,⟨some 84,none,.mov (.t 83),0,[]⟩,⟨some 85,some (84,
 false),.mov (.t 13),0,[]⟩,⟨some 86,some (84,false),.bin .lss (.t 85) (.c (.v (.int .i64 (-1073741824)))),0,[]⟩,⟨some 87,none,.pick (.t 84) (.c (.v (.bool true))) (.t 86)
 ,0,[]⟩]) (.cond (.t 87) (.reg [⟨some 88,none,.call (.c (.fn 44 [])) [.c (.v (.int .i64 5))],0,[]⟩]) .skip)))) (.reg [⟨some 89,none,.bin .add (.t 78)
  (.c (.v (.int .i64 1))),0,[]⟩,⟨some 78,none,.mov (.t 89),0,[]⟩]))))))) (.seq (.reg [⟨some 90,none,.load true 2 (.t 10),0,[]⟩,⟨none,none,.store 2 (.t 6) (.t 90),0,[]⟩])
  .ret))))))⟩
theorem pf45_is : pfs 45 = some pf45 := by kernel_rfl
-- euclid/farkas.join
def pf52 : PF := ⟨37,[.t 8],.seq (.reg [⟨some 8,none,.mov (.c (.sl [] .nil)),0,[]⟩]) (.seq (.reg [⟨some 11,none,.mov (.t 0),0,[]⟩,⟨some 12,none,.lenS (.t 11),0,[]⟩,⟨some 13,none,
 .mksl (.v (.int .i64 0)) 1 false (.t 12),0,[]⟩,⟨some 9,none,.mov (.t 13),0,[]⟩]) (.seq (.seq (.reg [⟨some 14,none,.mov (.t 0),0,[]⟩,⟨some 15,none,.lenS (.t 14),0,[]⟩,
 ⟨some 16,none,.mov (.c (.v (.int .i64 0))),0,[]⟩]) (.block 0 (.loop (.seq (.reg [⟨some 17,none,.bin .lss (.t 16) (.t 15),0,[]⟩]) (.seq (.cond (.t 17) .skip (.exit 0))
  (.seq (.block 1 (.seq (.reg [⟨some 18,none,.mov (.t 16),0,[]⟩,⟨some 10,none,.mov (.t 18),0,[]⟩]) (.dreg [15,0] [⟨some 19,none,.mov (.t 9),0,[]⟩,⟨some 20,none,
 .mov (.t 10),1,[]⟩,⟨some 21,none,.mov (.t 2),2,[]⟩,⟨some 22,none,.mov (.t 0),3,[]⟩,⟨some 23,none,.mov (.t 10),4,[]⟩,⟨some 24,none,.iaddr 1 (.t 22) (.t 23),5,[4,3]⟩,
 ⟨some 25,none,.load false 1 (.t 24),6,[5,4,3]⟩,⟨some 26,none,.bin .mul (.t 21) (.t 25),7,[6,5,4,3,2]⟩,⟨some 27,none,.mov (.t 3),8,[]⟩,⟨some 28,none,.mov (.t 1),9,[]⟩,
 ⟨some 29,none,.mov (.t 10),10,[]⟩,⟨some 30,none,.iaddr 1 (.t 28) (.t 29),11,[10,9]⟩,⟨some 31,none,.load false 1 (.t 30),12,[11,10,9]⟩,⟨some 32,none,.bin .mul (.t 27)
  (.t 31),13,[12,11,10,9,8]⟩,⟨some 33,none,.bin .add (.t 26) (.t 32),14,[13,12,11,10,9,8,7,6,5,4,3,2]⟩,⟨some 34,none,.iaddr 1 (.t 19) (.t 20),15,[14,13,12,11,10,9,8,7,6,
 5,4,3,2,1,0]⟩,⟨none,none,.store 1 (.t 34) (.t 33),16,[15,14,13,12,11,10,9,8,7,6,5,4,3,2,1,0]⟩]))) (.reg [⟨some 35,none,.bin .add (.t 16) (.c (.v (.int .i64 1))),0,[]⟩,
 ⟨some 16,none,.mov (.t 35),0,[]⟩]))))))) (.seq (.reg [⟨some 36,none,.mov (.t 9),0,[]⟩,⟨some 8,none,.mov (.t 36),0,[]⟩]) .ret)))⟩
theorem pf52_is : pfs 52 = some pf52 := by kernel_rfl
-- euclid/farkas.divide
def pf53 : PF := ⟨18,[],.seq (.reg [⟨some 5,none,.mov (.t 0),0,[]⟩,⟨some 6,none,.lenS (.t 5),0,[]⟩,⟨some 7,none,.mov (.c (.v (.int .i64 0))),0,[]⟩])
  (.block 0 (.loop (.seq (.reg [⟨some 8,none,.bin .lss (.t 7) (.t 6),0,[]⟩]) (.seq (.cond (.t 8) .skip (.exit 0)) (.seq (.block 1 (.seq (.reg [⟨some 9,none,.mov (.t 7),0,
 []⟩,⟨some 4,none,.mov (.t 9),0,[]⟩]) (.reg [⟨some 10,none,.mov (.t 0),0,[]⟩,⟨some 11,none,.mov (.t 4),0,[]⟩,⟨some 12,none,.iaddr 1 (.t 10) (.t 11),0,[]⟩,⟨some 13,none,
 .load false 1 (.t 12),0,[]⟩,⟨some 14,none,.mov (.t 1),0,[]⟩,⟨some 15,none,.bin .quo (.t 13) (.t 14),0,[]⟩,⟨some 16,none,.iaddr 1 (.t 10) (.t 11),0,[]⟩,⟨none,none,
 .store 1 (.t 16) (.t 15),0,[]⟩]))) (.reg [⟨some 17,none,.bin .add (.t 7) (.c (.v (.int .i64 1))),0,[]⟩,⟨some 7,none,.mov (.t 17),0,[]⟩]))))))⟩
theorem pf53_is : pfs 53 = some pf53 := by kernel_rfl
end Go.Proofs.Eng
