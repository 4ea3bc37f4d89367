/- The prepared code of the functions. No conditions. -/
import Derived.Test.YtglembbmmnakaaaDoorOT
import Derived.Test.YtglembbmmnakaaaDoorRows
set_option linter.all false
set_option linter.deprecated false
set_option linter.unnecessarySimpa false
set_option linter.unusedVariables false
set_option linter.unusedSimpArgs false
set_option linter.defProp false
namespace Go.Proofs.Eng
open Go Go.Proofs
def shared : List Nat := [32, 33, 42]
def rawF : List Nat := [52, 53]
def md (f : Nat) : Md := if rawF.contains f then .raw else if shared.contains f then .shared else .pure
def bf : Bf := ⟨false, fun g => rawF.contains g || shared.contains g⟩
noncomputable def pfs (f : Nat) : Option PF := if f = 43 then some ⟨0, [], .ora textO⟩ else prepF Tryd.prog bf f
theorem pfsOK : PfsOK Tryd.prog pfs := fun f pf h => by
  unfold pfs at h
  split at h
  · rename_i hf
    subst hf
    simp only [Option.some.injEq] at h; subst h
    exact .inr ⟨_, rfl, text_ok⟩
  · exact .inl ⟨_, h⟩
set_option maxRecDepth 100000
-- euclid/euclidlaw41.FarkasChecks
def pf5 : PF := ⟨24,[.t 4],.seq (.reg [⟨some 4,none,.mov (.c (.v (.bool false))),0,[]⟩]) (.seq (.seq (.reg [⟨some 5,none,.mov (.t 0),0,[]⟩,⟨some 6,none,.call (.c (.fn 12 [])) [.t 5],0,
 []⟩,⟨some 7,none,.un .not (.t 6),0,[]⟩,⟨some 8,none,.mov (.t 7),0,[]⟩,⟨some 9,some (8,false),.mov (.t 1),0,[]⟩,⟨some 10,some (8,false),.lenS (.t 9),0,[]⟩,⟨some 11,
 some (8,false),.bin .gtr (.t 10) (.c (.v (.int .i64 30))),0,[]⟩,⟨some 12,none,.pick (.t 8) (.c (.v (.bool true))) (.t 11),0,[]⟩]) (.cond (.t 12) (.seq (.reg [⟨some 13,
 none,.call (.c (.fn 10 [])) [],0,[]⟩,⟨some 4,none,.mov (.t 13),0,[]⟩]) .ret) .skip)) (.seq (.reg [⟨some 14,none,.mov (.t 0),0,[]⟩,⟨some 15,none,.mov (.t 1),0,[]⟩,
 ⟨some 16,none,.call (.c (.fn 15 [])) [.t 14,.t 15],0,[]⟩,⟨some 17,none,.mov (.t 0),0,[]⟩,⟨some 18,none,.mov (.t 1),0,[]⟩,⟨some 19,none,.call (.c (.fn 16 [])) [.t 17,
 .t 18],0,[]⟩,⟨some 20,none,.eqb false (.t 16) (.t 19),0,[]⟩,⟨some 21,none,.mov (.t 20),0,[]⟩,⟨some 22,some (21,true),.call (.c (.fn 10 [])) [],0,[]⟩,⟨some 23,none,
 .pick (.t 21) (.t 22) (.c (.v (.bool false))),0,[]⟩,⟨some 4,none,.mov (.t 23),0,[]⟩]) .ret))⟩
theorem pf5_is : pfs 5 = some pf5 := by kernel_rfl
-- euclid/euclidlaw41.few
def pf12 : PF := ⟨11,[.t 2],.seq (.reg [⟨some 2,none,.mov (.c (.v (.bool false))),0,[]⟩]) (.seq (.reg [⟨some 3,none,.mov (.t 0),0,[]⟩,⟨some 4,none,.lenS (.t 3),0,[]⟩,⟨some 5,none,
 .bin .leq (.t 4) (.c (.v (.int .i64 25))),0,[]⟩,⟨some 6,none,.mov (.t 5),0,[]⟩,⟨some 7,some (6,true),.mov (.t 0),0,[]⟩,⟨some 8,some (6,true),.call (.c (.fn 26 []))
  [.t 7,.c (.fn 27 [])],0,[]⟩,⟨some 9,some (6,true),.un .not (.t 8),0,[]⟩,⟨some 10,none,.pick (.t 6) (.t 9) (.c (.v (.bool false))),0,[]⟩,⟨some 2,none,.mov (.t 10),0,[]⟩]
 ) .ret)⟩
theorem pf12_is : pfs 12 = some pf12 := by kernel_rfl
-- euclid/farkas.Check
def pf15 : PF := ⟨80,[.t 4],.seq (.reg [⟨some 4,none,.mov (.c (.v (.bool false))),0,[]⟩]) (.seq (.seq (.reg [⟨some 11,none,.mov (.t 0),0,[]⟩,⟨some 12,none,.call (.c (.fn 22 [])) [.t 11],
 0,[]⟩,⟨some 13,none,.bin .neq (.t 12) (.c (.v (.int .i64 0))),0,[]⟩,⟨some 14,none,.mov (.t 13),0,[]⟩,⟨some 15,some (14,false),.mov (.t 0),0,[]⟩,⟨some 16,some (14,false),
 .lenS (.t 15),0,[]⟩,⟨some 17,some (14,false),.bin .eql (.t 16) (.c (.v (.int .i64 0))),0,[]⟩,⟨some 18,none,.pick (.t 14) (.c (.v (.bool true))) (.t 17),0,[]⟩,⟨some 19,
 none,.mov (.t 18),0,[]⟩,⟨some 20,some (19,false),.mov (.t 1),0,[]⟩,⟨some 21,some (19,false),.lenS (.t 20),0,[]⟩,⟨some 22,some (19,false),.mov (.t 0),0,[]⟩,⟨some 23,
 some (19,false),.lenS (.t 22),0,[]⟩,⟨some 24,some (19,false),.bin .neq (.t 21) (.t 23),0,[]⟩,⟨some 25,none,.pick (.t 19) (.c (.v (.bool true))) (.t 24),0,[]⟩])
  (.cond (.t 25) (.seq (.reg [⟨some 4,none,.mov (.c (.v (.bool false))),0,[]⟩]) .ret) .skip)) (.seq (.reg [⟨some 26,none,.mov (.t 0),0,[]⟩,⟨some 27,none,.iaddr 1 (.t 26)
  (.c (.v (.int .i64 0))),0,[]⟩,⟨some 28,none,.load false 1 (.t 27),0,[]⟩,⟨some 29,none,.lenS (.t 28),0,[]⟩,⟨some 30,none,.mksl (.v (.int .i64 0)) 1 false (.t 29),0,[]⟩,
 ⟨some 5,none,.mov (.t 30),0,[]⟩]) (.seq (.seq (.reg [⟨some 31,none,.mov (.t 1),0,[]⟩,⟨some 32,none,.lenS (.t 31),0,[]⟩,⟨some 33,none,.mov (.c (.v (.int .i64 0))),0,[]⟩])
  (.block 0 (.loop (.seq (.reg [⟨some 34,none,.bin .lss (.t 33) (.t 32),0,[]⟩]) (.seq (.cond (.t 34) .skip (.exit 0)) (.seq (.block 1 (.seq (.reg [⟨some 35,none,
 .mov (.t 33),0,[]⟩,⟨some 36,none,.iaddr 1 (.t 31) (.t 33),0,[]⟩,⟨some 37,none,.load false 1 (.t 36),0,[]⟩,⟨some 6,none,.mov (.t 35),0,[]⟩,⟨some 7,none,.mov (.t 37),0,[]⟩
 ]) (.seq (.seq (.reg [⟨some 38,none,.mov (.t 7),0,[]⟩,⟨some 39,none,.bin .lss (.t 38) (.c (.v (.int .i64 0))),0,[]⟩,⟨some 40,none,.mov (.t 39),0,[]⟩,⟨some 41,some (40,
 false),.mov (.t 7),0,[]⟩,⟨some 42,some (40,false),.bin .gtr (.t 41) (.c (.v (.int .i64 1073741824))),0,[]⟩,⟨some 43,none,.pick (.t 40) (.c (.v (.bool true))) (.t 42),0,
 []⟩]) (.cond (.t 43) (.seq (.reg [⟨some 4,none,.mov (.c (.v (.bool false))),0,[]⟩]) .ret) .skip)) (.seq (.reg [⟨some 44,none,.mov (.t 0),0,[]⟩,⟨some 45,none,.mov (.t 6),
 0,[]⟩,⟨some 46,none,.iaddr 1 (.t 44) (.t 45),0,[]⟩,⟨some 47,none,.load false 1 (.t 46),0,[]⟩,⟨some 48,none,.lenS (.t 47),0,[]⟩,⟨some 49,none,.mov (.c (.v (.int .i64 0)))
 ,0,[]⟩]) (.block 2 (.loop (.seq (.reg [⟨some 50,none,.bin .lss (.t 49) (.t 48),0,[]⟩]) (.seq (.cond (.t 50) .skip (.exit 2)) (.seq (.block 3 (.seq (.reg [⟨some 51,none,
 .mov (.t 49),0,[]⟩,⟨some 52,none,.iaddr 1 (.t 47) (.t 49),0,[]⟩,⟨some 53,none,.load false 1 (.t 52),0,[]⟩,⟨some 8,none,.mov (.t 51),0,[]⟩,⟨some 9,none,.mov (.t 53),0,[]⟩
 ]) (.reg [⟨some 54,none,.mov (.t 5),0,[]⟩,⟨some 55,none,.mov (.t 8),0,[]⟩,⟨some 56,none,.iaddr 1 (.t 54) (.t 55),0,[]⟩,⟨some 57,none,.load false 1 (.t 56),0,[]⟩,
 ⟨some 58,none,.mov (.t 7),0,[]⟩,⟨some 59,none,.mov (.t 9),0,[]⟩,⟨some 60,none,.bin .mul (.t 58) (.t 59),0,[]⟩,⟨some 61,none,.bin .add (.t 57) (.t 60),0,[]⟩,⟨some 62,
 none,.iaddr 1 (.t 54) (.t 55),0,[]⟩,⟨none,none,.store 1 (.t 62) (.t 61),0,[]⟩]))) (.reg [⟨some 63,none,.bin .add (.t 49) (.c (.v (.int .i64 1))),0,[]⟩,⟨some 49,none,
 .mov (.t 63),0,[]⟩])))))))))) (.reg [⟨some 64,none,.bin .add (.t 33) (.c (.v (.int .i64 1))),0,[]⟩,⟨some 33,none,.mov (.t 64),0,[]⟩]))))))) (.seq (.reg [⟨some 65,none,
 .mov (.t 5),0,[]⟩,⟨some 66,none,.lenS (.t 65),0,[]⟩,⟨some 67,none,.bin .sub (.t 66) (.c (.v (.int .i64 1))),0,[]⟩,⟨some 10,none,.mov (.t 67),0,[]⟩])
  (.seq (.reg [⟨some 68,none,.mov (.t 5),0,[]⟩,⟨some 69,none,.mov (.t 10),0,[]⟩,⟨some 70,none,.iaddr 1 (.t 68) (.t 69),0,[]⟩,⟨some 71,none,.load false 1 (.t 70),0,[]⟩,
 ⟨some 72,none,.bin .gtr (.t 71) (.c (.v (.int .i64 0))),0,[]⟩,⟨some 73,none,.mov (.t 72),0,[]⟩,⟨some 74,some (73,true),.mov (.t 5),0,[]⟩,⟨some 75,some (73,true),
 .mov (.t 10),0,[]⟩,⟨some 76,some (73,true),.slice 1 (.t 74) none (some (.t 75)) none,0,[]⟩,⟨some 77,some (73,true),.call (.c (.fn 29 [])) [.t 76],0,[]⟩,⟨some 78,
 some (73,true),.bin .eql (.t 77) (.c (.v (.int .i64 0))),0,[]⟩,⟨some 79,none,.pick (.t 73) (.t 78) (.c (.v (.bool false))),0,[]⟩,⟨some 4,none,.mov (.t 79),0,[]⟩]) .ret))
 )))⟩
theorem pf15_is : pfs 15 = some pf15 := by kernel_rfl
-- euclid/euclidref41.Check
def pf16 : PF := ⟨75,[.t 4],.seq (.reg [⟨some 4,none,.mov (.c (.v (.bool false))),0,[]⟩]) (.seq (.seq (.reg [⟨some 8,none,.mov (.t 0),0,[]⟩,⟨some 9,none,.call (.c (.fn 19 [])) [.t 8],0,
 []⟩,⟨some 10,none,.bin .neq (.t 9) (.c (.v (.int .i64 0))),0,[]⟩,⟨some 11,none,.mov (.t 10),0,[]⟩,⟨some 12,some (11,false),.mov (.t 0),0,[]⟩,⟨some 13,some (11,false),
 .lenS (.t 12),0,[]⟩,⟨some 14,some (11,false),.bin .eql (.t 13) (.c (.v (.int .i64 0))),0,[]⟩,⟨some 15,none,.pick (.t 11) (.c (.v (.bool true))) (.t 14),0,[]⟩,⟨some 16,
 none,.mov (.t 15),0,[]⟩,⟨some 17,some (16,false),.mov (.t 1),0,[]⟩,⟨some 18,some (16,false),.lenS (.t 17),0,[]⟩,⟨some 19,some (16,false),.mov (.t 0),0,[]⟩,⟨some 20,
 some (16,false),.lenS (.t 19),0,[]⟩,⟨some 21,some (16,false),.bin .neq (.t 18) (.t 20),0,[]⟩,⟨some 22,none,.pick (.t 16) (.c (.v (.bool true))) (.t 21),0,[]⟩])
  (.cond (.t 22) (.seq (.reg [⟨some 4,none,.mov (.c (.v (.bool false))),0,[]⟩]) .ret) .skip)) (.seq (.reg [⟨some 23,none,.mov (.t 0),0,[]⟩,⟨some 24,none,.iaddr 1 (.t 23)
  (.c (.v (.int .i64 0))),0,[]⟩,⟨some 25,none,.load false 1 (.t 24),0,[]⟩,⟨some 26,none,.lenS (.t 25),0,[]⟩,⟨some 27,none,.mksl (.v (.int .i64 0)) 1 false (.t 26),0,[]⟩,
 ⟨some 5,none,.mov (.t 27),0,[]⟩]) (.seq (.seq (.reg [⟨some 6,none,.mov (.c (.v (.int .i64 0))),0,[]⟩]) (.block 0 (.loop (.seq (.seq (.reg [⟨some 28,none,.mov (.t 6),0,[]
 ⟩,⟨some 29,none,.mov (.t 0),0,[]⟩,⟨some 30,none,.lenS (.t 29),0,[]⟩,⟨some 31,none,.bin .lss (.t 28) (.t 30),0,[]⟩]) (.cond (.t 31) .skip (.exit 0)))
  (.seq (.block 1 (.seq (.seq (.reg [⟨some 34,none,.mov (.t 1),0,[]⟩,⟨some 35,none,.mov (.t 6),0,[]⟩,⟨some 36,none,.iaddr 1 (.t 34) (.t 35),0,[]⟩,⟨some 37,none,
 .load false 1 (.t 36),0,[]⟩,⟨some 38,none,.bin .lss (.t 37) (.c (.v (.int .i64 0))),0,[]⟩,⟨some 39,none,.mov (.t 38),0,[]⟩,⟨some 40,some (39,false),.mov (.t 1),0,[]⟩,
 ⟨some 41,some (39,false),.mov (.t 6),0,[]⟩,⟨some 42,some (39,false),.iaddr 1 (.t 40) (.t 41),0,[]⟩,⟨some 43,some (39,false),.load false 1 (.t 42),0,[]⟩,⟨some 44,
 some (39,false),.bin .gtr (.t 43) (.c (.v (.int .i64 1073741824))),0,[]⟩,⟨some 45,none,.pick (.t 39) (.c (.v (.bool true))) (.t 44),0,[]⟩]) (.cond (.t 45)
  (.seq (.reg [⟨some 4,none,.mov (.c (.v (.bool false))),0,[]⟩]) .ret) .skip)) (.dreg [9,0] [⟨some 46,none,.mov (.t 5),0,[]⟩,⟨some 47,none,.mov (.t 0),1,[]⟩,⟨some 48,
 none,.mov (.t 6),2,[]⟩,⟨some 49,none,.iaddr 1 (.t 47) (.t 48),3,[2,1]⟩,⟨some 50,none,.load false 1 (.t 49),4,[3,2,1]⟩,⟨some 51,none,.mov (.t 1),5,[]⟩,⟨some 52,none,
 .mov (.t 6),6,[]⟩,⟨some 53,none,.iaddr 1 (.t 51) (.t 52),7,[6,5]⟩,⟨some 54,none,.load false 1 (.t 53),8,[7,6,5]⟩,⟨some 55,none,.call (.c (.fn 30 [])) [.t 46,.t 50,
 .c (.v (.int .i64 1)),.t 54],9,[8,7,6,5,4,3,2,1,0]⟩,⟨some 5,none,.mov (.t 55),10,[9,8,7,6,5,4,3,2,1,0]⟩]))) (.reg [⟨some 32,none,.mov (.t 6),0,[]⟩,⟨some 33,none,
 .bin .add (.t 32) (.c (.v (.int .i64 1))),0,[]⟩,⟨some 6,none,.mov (.t 33),0,[]⟩])))))) (.seq (.seq (.reg [⟨some 7,none,.mov (.c (.v (.int .i64 0))),0,[]⟩])
  (.block 2 (.loop (.seq (.seq (.reg [⟨some 56,none,.mov (.t 7),0,[]⟩,⟨some 57,none,.mov (.t 5),0,[]⟩,⟨some 58,none,.lenS (.t 57),0,[]⟩,⟨some 59,none,.bin .sub (.t 58)
  (.c (.v (.int .i64 1))),0,[]⟩,⟨some 60,none,.bin .lss (.t 56) (.t 59),0,[]⟩]) (.cond (.t 60) .skip (.exit 2))) (.seq (.block 3 (.seq (.reg [⟨some 63,none,.mov (.t 5),0,
 []⟩,⟨some 64,none,.mov (.t 7),0,[]⟩,⟨some 65,none,.iaddr 1 (.t 63) (.t 64),0,[]⟩,⟨some 66,none,.load false 1 (.t 65),0,[]⟩,⟨some 67,none,.bin .neq (.t 66)
  (.c (.v (.int .i64 0))),0,[]⟩]) (.cond (.t 67) (.seq (.reg [⟨some 4,none,.mov (.c (.v (.bool false))),0,[]⟩]) .ret) .skip))) (.reg [⟨some 61,none,.mov (.t 7),0,[]⟩,
 ⟨some 62,none,.bin .add (.t 61) (.c (.v (.int .i64 1))),0,[]⟩,⟨some 7,none,.mov (.t 62),0,[]⟩])))))) (.seq (.reg [⟨some 68,none,.mov (.t 5),0,[]⟩,⟨some 69,none,
 .mov (.t 5),0,[]⟩,⟨some 70,none,.lenS (.t 69),0,[]⟩,⟨some 71,none,.bin .sub (.t 70) (.c (.v (.int .i64 1))),0,[]⟩,⟨some 72,none,.iaddr 1 (.t 68) (.t 71),0,[]⟩,⟨some 73,
 none,.load false 1 (.t 72),0,[]⟩,⟨some 74,none,.bin .gtr (.t 73) (.c (.v (.int .i64 0))),0,[]⟩,⟨some 4,none,.mov (.t 74),0,[]⟩]) .ret)))))⟩
theorem pf16_is : pfs 16 = some pf16 := by kernel_rfl
-- euclid/euclidref41.Right
def pf19 : PF := ⟨76,[.t 2],.seq (.reg [⟨some 2,none,.mov (.c (.v (.int .i64 0))),0,[]⟩]) (.seq (.seq (.reg [⟨some 6,none,.mov (.t 0),0,[]⟩,⟨some 7,none,.lenS (.t 6),0,[]⟩,⟨some 8,none,
 .bin .gtr (.t 7) (.c (.v (.int .i64 24))),0,[]⟩]) (.cond (.t 8) (.seq (.reg [⟨some 2,none,.mov (.c (.v (.int .i64 6))),0,[]⟩]) .ret) .skip)) (.seq (.seq (.reg [⟨some 3,
 none,.mov (.c (.v (.int .i64 0))),0,[]⟩]) (.block 0 (.loop (.seq (.seq (.reg [⟨some 9,none,.mov (.t 3),0,[]⟩,⟨some 10,none,.mov (.t 0),0,[]⟩,⟨some 11,none,.lenS (.t 10),
 0,[]⟩,⟨some 12,none,.bin .lss (.t 9) (.t 11),0,[]⟩]) (.cond (.t 12) .skip (.exit 0))) (.seq (.block 1 (.seq (.dreg [2,0,0,0,0,9,0] [⟨some 15,none,.mov (.t 0),0,[]⟩,
 ⟨some 16,none,.mov (.t 3),1,[]⟩,⟨some 17,none,.iaddr 1 (.t 15) (.t 16),2,[1,0]⟩,⟨some 18,none,.load false 1 (.t 17),3,[2,1,0]⟩,⟨some 19,none,.lenS (.t 18),4,[3,2,1,0]⟩,
 ⟨some 20,none,.bin .eql (.t 19) (.c (.v (.int .i64 0))),5,[4,3,2,1,0]⟩,⟨some 21,none,.mov (.t 20),6,[5,4,3,2,1,0]⟩,⟨some 22,some (21,false),.mov (.t 0),7,[6,5,4,3,2,1,0]
 ⟩,⟨some 23,some (21,false),.mov (.t 3),8,[6,5,4,3,2,1,0]⟩,⟨some 24,some (21,false),.iaddr 1 (.t 22) (.t 23),9,[8,7,6,5,4,3,2,1,0]⟩,⟨some 25,some (21,false),
 .load false 1 (.t 24),10,[9,8,7,6,5,4,3,2,1,0]⟩,⟨some 26,some (21,false),.lenS (.t 25),11,[10,9,8,7,6,5,4,3,2,1,0]⟩,⟨some 27,some (21,false),.mov (.t 0),12,[6,5,4,3,2,1,
 0]⟩,⟨some 28,some (21,false),.iaddr 1 (.t 27) (.c (.v (.int .i64 0))),13,[12,6,5,4,3,2,1,0]⟩,⟨some 29,some (21,false),.load false 1 (.t 28),14,[13,12,6,5,4,3,2,1,0]⟩,
 ⟨some 30,some (21,false),.lenS (.t 29),15,[14,13,12,6,5,4,3,2,1,0]⟩,⟨some 31,some (21,false),.bin .neq (.t 26) (.t 30),16,[15,14,13,12,11,10,9,8,7,6,5,4,3,2,1,0]⟩,
 ⟨some 32,none,.pick (.t 21) (.c (.v (.bool true))) (.t 31),17,[16,15,14,13,12,11,10,9,8,7,6,5,4,3,2,1,0]⟩]) (.cond (.t 32) (.seq (.reg [⟨some 2,none,
 .mov (.c (.v (.int .i64 3))),0,[]⟩]) .ret) .skip))) (.reg [⟨some 13,none,.mov (.t 3),0,[]⟩,⟨some 14,none,.bin .add (.t 13) (.c (.v (.int .i64 1))),0,[]⟩,⟨some 3,none,
 .mov (.t 14),0,[]⟩])))))) (.seq (.seq (.reg [⟨some 33,none,.mov (.t 0),0,[]⟩,⟨some 34,none,.lenS (.t 33),0,[]⟩,⟨some 35,none,.bin .gtr (.t 34) (.c (.v (.int .i64 0))),0,
 []⟩,⟨some 36,none,.mov (.t 35),0,[]⟩,⟨some 37,some (36,true),.mov (.t 0),0,[]⟩,⟨some 38,some (36,true),.iaddr 1 (.t 37) (.c (.v (.int .i64 0))),0,[]⟩,⟨some 39,some (36,
 true),.load false 1 (.t 38),0,[]⟩,⟨some 40,some (36,true),.lenS (.t 39),0,[]⟩,⟨some 41,some (36,true),.bin .gtr (.t 40) (.c (.v (.int .i64 9))),0,[]⟩,⟨some 42,none,
 .pick (.t 36) (.t 41) (.c (.v (.bool false))),0,[]⟩]) (.cond (.t 42) (.seq (.reg [⟨some 2,none,.mov (.c (.v (.int .i64 6))),0,[]⟩]) .ret) .skip))
  (.seq (.seq (.reg [⟨some 4,none,.mov (.c (.v (.int .i64 0))),0,[]⟩]) (.block 2 (.loop (.seq (.seq (.reg [⟨some 43,none,.mov (.t 4),0,[]⟩,⟨some 44,none,.mov (.t 0),0,[]⟩
 ,⟨some 45,none,.lenS (.t 44),0,[]⟩,⟨some 46,none,.bin .lss (.t 43) (.t 45),0,[]⟩]) (.cond (.t 46) .skip (.exit 2))) (.seq (.block 3 (.seq (.reg [⟨some 5,none,
 .mov (.c (.v (.int .i64 0))),0,[]⟩]) (.block 4 (.loop (.seq (.seq (.reg [⟨some 49,none,.mov (.t 5),0,[]⟩,⟨some 50,none,.mov (.t 0),0,[]⟩,⟨some 51,none,.mov (.t 4),0,[]⟩,
 ⟨some 52,none,.iaddr 1 (.t 50) (.t 51),0,[]⟩,⟨some 53,none,.load false 1 (.t 52),0,[]⟩,⟨some 54,none,.lenS (.t 53),0,[]⟩,⟨some 55,none,.bin .lss (.t 49) (.t 54),0,[]⟩])
  (.cond (.t 55) .skip (.exit 4))) (.seq (.block 5 (.seq (.reg [⟨some 58,none,.mov (.t 0),0,[]⟩,⟨some 59,none,.mov (.t 4),0,[]⟩,⟨some 60,none,.iaddr 1 (.t 58) (.t 59),0,
 []⟩,⟨some 61,none,.load false 1 (.t 60),0,[]⟩,⟨some 62,none,.mov (.t 5),0,[]⟩,⟨some 63,none,.iaddr 1 (.t 61) (.t 62),0,[]⟩,⟨some 64,none,.load false 1 (.t 63),0,[]⟩,
 ⟨some 65,none,.bin .lss (.t 64) (.c (.v (.int .i64 (-1000000)))),0,[]⟩,⟨some 66,none,.mov (.t 65),0,[]⟩,⟨some 67,some (66,false),.mov (.t 0),0,[]⟩,⟨some 68,some (66,
 false),.mov (.t 4),0,[]⟩,⟨some 69,some (66,false),.iaddr 1 (.t 67) (.t 68),0,[]⟩,⟨some 70,some (66,false),.load false 1 (.t 69),0,[]⟩,⟨some 71,some (66,false),
 .mov (.t 5),0,[]⟩,⟨some 72,some (66,false),.iaddr 1 (.t 70) (.t 71),0,[]⟩,⟨some 73,some (66,false),.load false 1 (.t 72),0,[]⟩,⟨some 74,some (66,false),.bin .gtr (.t 73)
  (.c (.v (.int .i64 1000000))),0,[]⟩,⟨some 75,none,.pick (.t 66) (.c (.v (.bool true))) (.t 74),0,[]⟩]) (.cond (.t 75) (.seq (.reg [⟨some 2,none,
 .mov (.c (.v (.int .i64 2))),0,[]⟩]) .ret) .skip))) (.reg [⟨some 56,none,.mov (.t 5),0,[]⟩,⟨some 57,none,.bin .add (.t 56) (.c (.v (.int .i64 1))),0,[]⟩,⟨some 5,none,
 .mov (.t 57),0,[]⟩]))))))) (.reg [⟨some 47,none,.mov (.t 4),0,[]⟩,⟨some 48,none,.bin .add (.t 47) (.c (.v (.int .i64 1))),0,[]⟩,⟨some 4,none,.mov (.t 48),0,[]⟩]))))))
  (.seq (.reg [⟨some 2,none,.mov (.c (.v (.int .i64 0))),0,[]⟩]) .ret)))))⟩
theorem pf19_is : pfs 19 = some pf19 := by kernel_rfl
-- euclid/farkas.check
def pf22 : PF := ⟨61,[.t 2],.seq (.reg [⟨some 2,none,.mov (.c (.v (.int .i64 0))),0,[]⟩]) (.seq (.seq (.reg [⟨some 9,none,.mov (.t 0),0,[]⟩,⟨some 10,none,.lenS (.t 9),0,[]⟩,⟨some 11,
 none,.bin .gtr (.t 10) (.c (.v (.int .i64 24))),0,[]⟩]) (.cond (.t 11) (.seq (.reg [⟨some 2,none,.mov (.c (.v (.int .i64 6))),0,[]⟩]) .ret) .skip))
  (.seq (.seq (.reg [⟨some 12,none,.mov (.t 0),0,[]⟩,⟨some 13,none,.lenS (.t 12),0,[]⟩,⟨some 14,none,.mov (.c (.v (.int .i64 0))),0,[]⟩])
  (.block 0 (.loop (.seq (.reg [⟨some 15,none,.bin .lss (.t 14) (.t 13),0,[]⟩]) (.seq (.cond (.t 15) .skip (.exit 0)) (.seq (.block 1 (.seq (.reg [⟨some 16,none,
 .iaddr 1 (.t 12) (.t 14),0,[]⟩,⟨some 17,none,.load false 1 (.t 16),0,[]⟩,⟨some 4,none,.mov (.t 17),0,[]⟩]) (.seq (.reg [⟨some 18,none,.mov (.t 4),0,[]⟩,⟨some 19,none,
 .lenS (.t 18),0,[]⟩,⟨some 20,none,.bin .eql (.t 19) (.c (.v (.int .i64 0))),0,[]⟩,⟨some 21,none,.mov (.t 20),0,[]⟩,⟨some 22,some (21,false),.mov (.t 4),0,[]⟩,⟨some 23,
 some (21,false),.lenS (.t 22),0,[]⟩,⟨some 24,some (21,false),.mov (.t 0),0,[]⟩,⟨some 25,some (21,false),.iaddr 1 (.t 24) (.c (.v (.int .i64 0))),0,[]⟩,⟨some 26,some (21,
 false),.load false 1 (.t 25),0,[]⟩,⟨some 27,some (21,false),.lenS (.t 26),0,[]⟩,⟨some 28,some (21,false),.bin .neq (.t 23) (.t 27),0,[]⟩,⟨some 29,none,.pick (.t 21)
  (.c (.v (.bool true))) (.t 28),0,[]⟩]) (.cond (.t 29) (.seq (.reg [⟨some 2,none,.mov (.c (.v (.int .i64 3))),0,[]⟩]) .ret) .skip)))) (.reg [⟨some 30,none,
 .bin .add (.t 14) (.c (.v (.int .i64 1))),0,[]⟩,⟨some 14,none,.mov (.t 30),0,[]⟩]))))))) (.seq (.seq (.reg [⟨some 31,none,.mov (.t 0),0,[]⟩,⟨some 32,none,.lenS (.t 31),
 0,[]⟩,⟨some 33,none,.bin .gtr (.t 32) (.c (.v (.int .i64 0))),0,[]⟩,⟨some 34,none,.mov (.t 33),0,[]⟩,⟨some 35,some (34,true),.mov (.t 0),0,[]⟩,⟨some 36,some (34,true),
 .iaddr 1 (.t 35) (.c (.v (.int .i64 0))),0,[]⟩,⟨some 37,some (34,true),.load false 1 (.t 36),0,[]⟩,⟨some 38,some (34,true),.lenS (.t 37),0,[]⟩,⟨some 39,some (34,true),
 .bin .gtr (.t 38) (.c (.v (.int .i64 9))),0,[]⟩,⟨some 40,none,.pick (.t 34) (.t 39) (.c (.v (.bool false))),0,[]⟩]) (.cond (.t 40) (.seq (.reg [⟨some 2,none,
 .mov (.c (.v (.int .i64 6))),0,[]⟩]) .ret) .skip)) (.seq (.seq (.reg [⟨some 41,none,.mov (.t 0),0,[]⟩,⟨some 42,none,.lenS (.t 41),0,[]⟩,⟨some 43,none,
 .mov (.c (.v (.int .i64 0))),0,[]⟩]) (.block 2 (.loop (.seq (.reg [⟨some 44,none,.bin .lss (.t 43) (.t 42),0,[]⟩]) (.seq (.cond (.t 44) .skip (.exit 2))
  (.seq (.block 3 (.seq (.reg [⟨some 45,none,.iaddr 1 (.t 41) (.t 43),0,[]⟩,⟨some 46,none,.load false 1 (.t 45),0,[]⟩,⟨some 6,none,.mov (.t 46),0,[]⟩])
  (.seq (.reg [⟨some 47,none,.mov (.t 6),0,[]⟩,⟨some 48,none,.lenS (.t 47),0,[]⟩,⟨some 49,none,.mov (.c (.v (.int .i64 0))),0,[]⟩])
  (.block 4 (.loop (.seq (.reg [⟨some 50,none,.bin .lss (.t 49) (.t 48),0,[]⟩]) (.seq (.cond (.t 50) .skip (.exit 4)) (.seq (.block 5 (.seq (.reg [⟨some 51,none,
 .iaddr 1 (.t 47) (.t 49),0,[]⟩,⟨some 52,none,.load false 1 (.t 51),0,[]⟩,⟨some 8,none,.mov (.t 52),0,[]⟩]) (.seq (.reg [⟨some 53,none,.mov (.t 8),0,[]⟩,⟨some 54,none,
 .bin .lss (.t 53) (.c (.v (.int .i64 (-1000000)))),0,[]⟩,⟨some 55,none,.mov (.t 54),0,[]⟩,⟨some 56,some (55,false),.mov (.t 8),0,[]⟩,⟨some 57,some (55,false),
 .bin .gtr (.t 56) (.c (.v (.int .i64 1000000))),0,[]⟩,⟨some 58,none,.pick (.t 55) (.c (.v (.bool true))) (.t 57),0,[]⟩]) (.cond (.t 58) (.seq (.reg [⟨some 2,none,
 .mov (.c (.v (.int .i64 2))),0,[]⟩]) .ret) .skip)))) (.reg [⟨some 59,none,.bin .add (.t 49) (.c (.v (.int .i64 1))),0,[]⟩,⟨some 49,none,.mov (.t 59),0,[]⟩])))))))))
  (.reg [⟨some 60,none,.bin .add (.t 43) (.c (.v (.int .i64 1))),0,[]⟩,⟨some 43,none,.mov (.t 60),0,[]⟩]))))))) (.seq (.reg [⟨some 2,none,.mov (.c (.v (.int .i64 0))),0,
 []⟩]) .ret)))))⟩
theorem pf22_is : pfs 22 = some pf22 := by kernel_rfl
-- slices.ContainsFunc[[][]int,[]int]
def pf26 : PF := ⟨9,[.t 4],.seq (.reg [⟨some 4,none,.mov (.c (.v (.bool false))),0,[]⟩]) (.seq (.reg [⟨some 5,none,.mov (.t 0),0,[]⟩,⟨some 6,none,.mov (.t 1),0,[]⟩,⟨some 7,none,
 .call (.c (.fn 37 [])) [.t 5,.t 6],0,[]⟩,⟨some 8,none,.bin .geq (.t 7) (.c (.v (.int .i64 0))),0,[]⟩,⟨some 4,none,.mov (.t 8),0,[]⟩]) .ret)⟩
theorem pf26_is : pfs 26 = some pf26 := by kernel_rfl
-- euclid/euclidlaw41.few$1
def pf27 : PF := ⟨6,[.t 2],.seq (.reg [⟨some 2,none,.mov (.c (.v (.bool false))),0,[]⟩]) (.seq (.reg [⟨some 3,none,.mov (.t 0),0,[]⟩,⟨some 4,none,.lenS (.t 3),0,[]⟩,⟨some 5,none,
 .bin .gtr (.t 4) (.c (.v (.int .i64 10))),0,[]⟩,⟨some 2,none,.mov (.t 5),0,[]⟩]) .ret)⟩
theorem pf27_is : pfs 27 = some pf27 := by kernel_rfl
-- euclid/farkas.gcd
def pf29 : PF := ⟨24,[.t 2],.seq (.reg [⟨some 2,none,.mov (.c (.v (.int .i64 0))),0,[]⟩]) (.seq (.reg [⟨some 3,none,.mov (.c (.v (.int .i64 0))),0,[]⟩]) (.seq (.seq (.reg [⟨some 6,none,
 .mov (.t 0),0,[]⟩,⟨some 7,none,.lenS (.t 6),0,[]⟩,⟨some 8,none,.mov (.c (.v (.int .i64 0))),0,[]⟩]) (.block 0 (.loop (.seq (.reg [⟨some 9,none,.bin .lss (.t 8) (.t 7),0,
 []⟩]) (.seq (.cond (.t 9) .skip (.exit 0)) (.seq (.block 1 (.seq (.reg [⟨some 10,none,.iaddr 1 (.t 6) (.t 8),0,[]⟩,⟨some 11,none,.load false 1 (.t 10),0,[]⟩,⟨some 5,
 none,.mov (.t 11),0,[]⟩]) (.seq (.reg [⟨some 12,none,.mov (.t 5),0,[]⟩,⟨some 13,none,.mov (.t 5),0,[]⟩,⟨some 14,none,.un .neg (.t 13),0,[]⟩,⟨some 15,none,.max (.t 12)
  (.t 14),0,[]⟩,⟨some 5,none,.mov (.t 15),0,[]⟩]) (.block 2 (.loop (.seq (.seq (.reg [⟨some 16,none,.mov (.t 5),0,[]⟩,⟨some 17,none,.bin .neq (.t 16)
  (.c (.v (.int .i64 0))),0,[]⟩]) (.cond (.t 17) .skip (.exit 2))) (.block 3 (.dreg [5] [⟨some 18,none,.mov (.t 5),0,[]⟩,⟨some 19,none,.mov (.t 3),1,[]⟩,⟨some 20,none,
 .mov (.t 5),2,[]⟩,⟨some 21,none,.bin .rem (.t 19) (.t 20),3,[2,1]⟩,⟨some 3,none,.mov (.t 18),4,[1,0]⟩,⟨some 5,none,.mov (.t 21),5,[4,0,3,2,1]⟩])))))))) (.reg [⟨some 22,
 none,.bin .add (.t 8) (.c (.v (.int .i64 1))),0,[]⟩,⟨some 8,none,.mov (.t 22),0,[]⟩]))))))) (.seq (.reg [⟨some 23,none,.mov (.t 3),0,[]⟩,⟨some 2,none,.mov (.t 23),0,[]⟩]
 ) .ret)))⟩
theorem pf29_is : pfs 29 = some pf29 := by kernel_rfl
-- euclid/euclidref41.sum
def pf30 : PF := ⟨34,[.t 8],.seq (.reg [⟨some 8,none,.mov (.c (.sl [] .nil)),0,[]⟩]) (.seq (.reg [⟨some 9,none,.mov (.c (.sl [] .nil)),0,[]⟩]) (.seq (.seq (.reg [⟨some 10,none,
 .mov (.c (.v (.int .i64 0))),0,[]⟩]) (.block 0 (.loop (.seq (.seq (.reg [⟨some 11,none,.mov (.t 10),0,[]⟩,⟨some 12,none,.mov (.t 0),0,[]⟩,⟨some 13,none,.lenS (.t 12),0,
 []⟩,⟨some 14,none,.bin .lss (.t 11) (.t 13),0,[]⟩]) (.cond (.t 14) .skip (.exit 0))) (.seq (.block 1 (.dreg [15,0] [⟨some 17,none,.mov (.t 9),0,[]⟩,⟨some 18,none,
 .mov (.t 2),1,[]⟩,⟨some 19,none,.mov (.t 0),2,[]⟩,⟨some 20,none,.mov (.t 10),3,[]⟩,⟨some 21,none,.iaddr 1 (.t 19) (.t 20),4,[3,2]⟩,⟨some 22,none,.load false 1 (.t 21),5,
 [4,3,2]⟩,⟨some 23,none,.bin .mul (.t 18) (.t 22),6,[5,4,3,2,1]⟩,⟨some 24,none,.mov (.t 3),7,[]⟩,⟨some 25,none,.mov (.t 1),8,[]⟩,⟨some 26,none,.mov (.t 10),9,[]⟩,
 ⟨some 27,none,.iaddr 1 (.t 25) (.t 26),10,[9,8]⟩,⟨some 28,none,.load false 1 (.t 27),11,[10,9,8]⟩,⟨some 29,none,.bin .mul (.t 24) (.t 28),12,[11,10,9,8,7]⟩,⟨some 30,
 none,.bin .add (.t 23) (.t 29),13,[12,11,10,9,8,7,6,5,4,3,2,1]⟩,⟨some 31,none,.bsl (.v (.int .i64 0)) 1 [(0,1,.t 30)],14,[13,12,11,10,9,8,7,6,5,4,3,2,1]⟩,⟨some 32,none,
 .app 1 none (.t 17) (.t 31),15,[14,13,12,11,10,9,8,7,6,5,4,3,2,1,0]⟩,⟨some 9,none,.mov (.t 32),16,[15,14,13,12,11,10,9,8,7,6,5,4,3,2,1,0]⟩])) (.reg [⟨some 15,none,
 .mov (.t 10),0,[]⟩,⟨some 16,none,.bin .add (.t 15) (.c (.v (.int .i64 1))),0,[]⟩,⟨some 10,none,.mov (.t 16),0,[]⟩])))))) (.seq (.reg [⟨some 33,none,.mov (.t 9),0,[]⟩,
 ⟨some 8,none,.mov (.t 33),0,[]⟩]) .ret)))⟩
theorem pf30_is : pfs 30 = some pf30 := by kernel_rfl
-- slices.IndexFunc[[][]int,[]int]
def pf37 : PF := ⟨19,[.t 4],.seq (.reg [⟨some 4,none,.mov (.c (.v (.int .i64 0))),0,[]⟩]) (.seq (.seq (.reg [⟨some 6,none,.mov (.t 0),0,[]⟩,⟨some 7,none,.lenS (.t 6),0,[]⟩,⟨some 8,none,
 .mov (.c (.v (.int .i64 0))),0,[]⟩]) (.block 0 (.loop (.seq (.reg [⟨some 9,none,.bin .lss (.t 8) (.t 7),0,[]⟩]) (.seq (.cond (.t 9) .skip (.exit 0))
  (.seq (.block 1 (.seq (.reg [⟨some 10,none,.mov (.t 8),0,[]⟩,⟨some 5,none,.mov (.t 10),0,[]⟩]) (.seq (.reg [⟨some 11,none,.mov (.t 1),0,[]⟩,⟨some 12,none,.mov (.t 0),0,
 []⟩,⟨some 13,none,.mov (.t 5),0,[]⟩,⟨some 14,none,.iaddr 1 (.t 12) (.t 13),0,[]⟩,⟨some 15,none,.load false 1 (.t 14),0,[]⟩,⟨some 16,none,.call (.t 11) [.t 15],0,[]⟩])
  (.cond (.t 16) (.seq (.reg [⟨some 17,none,.mov (.t 5),0,[]⟩,⟨some 4,none,.mov (.t 17),0,[]⟩]) .ret) .skip)))) (.reg [⟨some 18,none,.bin .add (.t 8)
  (.c (.v (.int .i64 1))),0,[]⟩,⟨some 8,none,.mov (.t 18),0,[]⟩]))))))) (.seq (.reg [⟨some 4,none,.mov (.c (.v (.int .i64 (-1)))),0,[]⟩]) .ret))⟩
theorem pf37_is : pfs 37 = some pf37 := by kernel_rfl
end Go.Proofs.Eng
