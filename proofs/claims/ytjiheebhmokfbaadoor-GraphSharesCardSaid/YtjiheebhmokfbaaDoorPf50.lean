/- The prepared code of the functions. No conditions. -/
import Derived.Test.YtjiheebhmokfbaaDoorAP
set_option linter.all false
set_option linter.deprecated false
set_option linter.unnecessarySimpa false
set_option linter.unusedVariables false
set_option linter.unusedSimpArgs false
set_option linter.defProp false
namespace Go.Proofs.Eng
open Go Go.Proofs
def sharedF : List Nat := [43, 44, 47, 53, 54, 55, 59, 69, 72, 73, 75, 76, 89, 90, 92]
def rawF : List Nat := [42, 68, 71, 84, 87, 98, 104]
def md (f : Nat) : Md := if rawF.contains f then .raw else if sharedF.contains f then .shared else .pure
def bf : Bf := ⟨false, fun g => rawF.contains g || sharedF.contains g, fun _ _ _ _ => none⟩
noncomputable def pfs (f : Nat) : Option PF := if f = 103 then some ⟨0, [], .ora numO⟩ else if f = 104 then some ⟨0, [], .ora fmtO⟩ else prepF Tryd.prog bf f
theorem pfsOK : PfsOK Tryd.prog pfs := fun f pf h => by
 unfold pfs at h
 split at h
 ·rename_i hf
  subst hf
  simp only [Option.some.injEq] at h; subst h
  exact .inr (.inl ⟨_, rfl, num_ok⟩)
 ·split at h
  ·rename_i hf
   subst hf
   simp only [Option.some.injEq] at h; subst h
   exact .inr (.inl ⟨_, rfl, fmt_ok⟩)
  ·exact .inl ⟨_, h⟩
theorem hm : Tryd.prog.follows .mixedOrders = true := by kernel_rfl
set_option maxRecDepth 100000
def pf7 : PF := ⟨97,[.t 2],.seq (.reg [⟨some 2,none,.mov (.c (.v (.bool false))),0,[]⟩]) (.seq (.reg [⟨some 12,none,.mov (.t 0),0,[]⟩,⟨some 13,none,.bin .rem (.t 12)
  (.c (.v (.int .u8 60))),0,[]⟩,⟨some 14,none,.conv .i64 (.t 13),0,[]⟩,⟨some 15,none,.bin .add (.t 14) (.c (.v (.int .i64 1))),0,[]⟩,⟨some 3,none,.mov (.t 15),0,[]⟩])
  (.seq (.reg [⟨some 16,none,.build [.v (.int .i64 0),.v (.int .i64 0),.v (.string (ByteArray.mk #[])),.sl [] .nil,.sl [] .nil] [],0,[]⟩,⟨some 17,none,
 .bsl (.agg [.v (.int .i64 0),.v (.int .i64 0),.v (.string (ByteArray.mk #[])),.sl [] .nil,.sl [] .nil]) 1 [(0,5,.t 16)],0,[]⟩,⟨some 18,none,.build [.sl [] .nil] [(0,1,
 .t 17)],0,[]⟩,⟨some 4,none,.alloc [.sl [] .nil],0,[]⟩,⟨none,none,.store 1 (.t 4) (.t 18),0,[]⟩]) (.seq (.seq (.reg [⟨some 19,none,.mov (.t 3),0,[]⟩,⟨some 20,none,
 .mov (.c (.v (.int .i64 0))),0,[]⟩]) (.block 0 (.loop (.seq (.reg [⟨some 21,none,.bin .lss (.t 20) (.t 19),0,[]⟩]) (.seq (.cond (.t 21) .skip (.exit 0))
  (.seq (.block 1 (.seq (.reg [⟨some 22,none,.mov (.t 20),0,[]⟩,⟨some 5,none,.mov (.t 22),0,[]⟩]) (.reg [⟨some 23,none,.faddr 0 (.t 4),0,[]⟩,⟨some 24,none,
 .load false 1 (.t 23),0,[]⟩,⟨some 25,none,.mov (.t 5),0,[]⟩,⟨some 26,none,.mov (.t 5),0,[]⟩,⟨some 27,none,.bsl (.v (.int .i64 0)) 2 [(0,1,.t 25),(1,1,.t 26)],0,[]⟩,
 ⟨some 28,none,.build [.v (.int .i64 0),.v (.int .i64 0),.v (.string (ByteArray.mk #[])),.sl [] .nil,.sl [] .nil] [(0,1,.c (.v (.int .i64 4))),(4,1,.t 27)],0,[]⟩,
 ⟨some 29,none,.bsl (.agg [.v (.int .i64 0),.v (.int .i64 0),.v (.string (ByteArray.mk #[])),.sl [] .nil,.sl [] .nil]) 1 [(0,5,.t 28)],0,[]⟩,⟨some 30,none,
 .app 5 none (.t 24) (.t 29),0,[]⟩,⟨some 31,none,.faddr 0 (.t 4),0,[]⟩,⟨none,none,.store 1 (.t 31) (.t 30),0,[]⟩]))) (.reg [⟨some 32,none,.bin .add (.t 20)
  (.c (.v (.int .i64 1))),0,[]⟩,⟨some 20,none,.mov (.t 32),0,[]⟩]))))))) (.seq (.reg [⟨some 34,none,.load true 1 (.t 4),0,[]⟩,⟨some 35,none,.mov (.t 3),0,[]⟩,⟨some 36,
 none,.call (.c (.fn 21 [])) [.t 34,.t 35,.c (.v (.int .i64 1)),.c (.v (.int .i64 0))],0,[]⟩,⟨some 33,none,.mov (.t 36),0,[]⟩,⟨some 37,none,.ext (.t 33) 0,0,[]⟩,⟨some 38,
 none,.ext (.t 33) 1,0,[]⟩,⟨some 39,none,.ext (.t 33) 2,0,[]⟩,⟨some 6,none,.alloc [.sl [] .nil],0,[]⟩,⟨none,none,.store 1 (.t 6) (.t 37),0,[]⟩,⟨some 7,none,.mov (.t 38),
 0,[]⟩,⟨some 8,none,.mov (.t 39),0,[]⟩]) (.seq (.reg [⟨some 41,none,.load true 1 (.t 6),0,[]⟩,⟨some 42,none,.mov (.t 3),0,[]⟩,⟨some 43,none,.mov (.t 3),0,[]⟩,⟨some 44,
 none,.bin .add (.t 43) (.c (.v (.int .i64 1))),0,[]⟩,⟨some 45,none,.bsl (.v (.int .i64 0)) 1 [(0,1,.t 44)],0,[]⟩,⟨some 46,none,.call (.c (.fn 25 [])) [.t 41,.t 42,.t 45]
 ,0,[]⟩,⟨some 40,none,.mov (.t 46),0,[]⟩,⟨some 47,none,.ext (.t 40) 0,0,[]⟩,⟨some 48,none,.ext (.t 40) 1,0,[]⟩,⟨some 49,none,.ext (.t 40) 2,0,[]⟩,⟨some 9,none,
 .alloc [.sl [] .nil],0,[]⟩,⟨none,none,.store 1 (.t 9) (.t 47),0,[]⟩,⟨some 10,none,.mov (.t 48),0,[]⟩,⟨some 11,none,.mov (.t 49),0,[]⟩]) (.seq (.reg [⟨some 50,none,
 .mov (.t 8),0,[]⟩,⟨some 51,none,.bin .eql (.t 50) (.c (.v (.int .i64 0))),0,[]⟩,⟨some 52,none,.mov (.t 51),0,[]⟩,⟨some 53,some (52,true),.mov (.t 7),0,[]⟩,⟨some 54,
 some (52,true),.mov (.t 3),0,[]⟩,⟨some 55,some (52,true),.bin .mul (.c (.v (.int .i64 2))) (.t 54),0,[]⟩,⟨some 56,some (52,true),.bin .add (.t 55) (.c (.v (.int .i64 1))
 ),0,[]⟩,⟨some 57,some (52,true),.bin .eql (.t 53) (.t 56),0,[]⟩,⟨some 58,none,.pick (.t 52) (.t 57) (.c (.v (.bool false))),0,[]⟩,⟨some 59,none,.mov (.t 58),0,[]⟩,
 ⟨some 60,some (59,true),.faddr 0 (.t 6),0,[]⟩,⟨some 61,some (59,true),.load false 1 (.t 60),0,[]⟩,⟨some 62,some (59,true),.lenS (.t 61),0,[]⟩,⟨some 63,some (59,true),
 .mov (.t 3),0,[]⟩,⟨some 64,some (59,true),.bin .mul (.c (.v (.int .i64 2))) (.t 63),0,[]⟩,⟨some 65,some (59,true),.bin .add (.t 64) (.c (.v (.int .i64 2))),0,[]⟩,
 ⟨some 66,some (59,true),.bin .eql (.t 62) (.t 65),0,[]⟩,⟨some 67,none,.pick (.t 59) (.t 66) (.c (.v (.bool false))),0,[]⟩,⟨some 68,none,.mov (.t 67),0,[]⟩,⟨some 69,
 some (68,true),.mov (.t 11),0,[]⟩,⟨some 70,some (68,true),.bin .eql (.t 69) (.c (.v (.int .i64 0))),0,[]⟩,⟨some 71,none,.pick (.t 68) (.t 70) (.c (.v (.bool false))),0,
 []⟩,⟨some 72,none,.mov (.t 71),0,[]⟩,⟨some 73,some (72,true),.mov (.t 10),0,[]⟩,⟨some 74,some (72,true),.mov (.t 3),0,[]⟩,⟨some 75,some (72,true),
 .bin .mul (.c (.v (.int .i64 2))) (.t 74),0,[]⟩,⟨some 76,some (72,true),.bin .add (.t 75) (.c (.v (.int .i64 1))),0,[]⟩,⟨some 77,some (72,true),.bin .eql (.t 73) (.t 76)
 ,0,[]⟩,⟨some 78,none,.pick (.t 72) (.t 77) (.c (.v (.bool false))),0,[]⟩,⟨some 79,none,.mov (.t 78),0,[]⟩,⟨some 80,some (79,true),.faddr 0 (.t 9),0,[]⟩,⟨some 81,
 some (79,true),.load false 1 (.t 80),0,[]⟩,⟨some 82,some (79,true),.lenS (.t 81),0,[]⟩,⟨some 83,some (79,true),.mov (.t 3),0,[]⟩,⟨some 84,some (79,true),
 .bin .mul (.c (.v (.int .i64 2))) (.t 83),0,[]⟩,⟨some 85,some (79,true),.bin .add (.t 84) (.c (.v (.int .i64 2))),0,[]⟩,⟨some 86,some (79,true),.bin .eql (.t 82) (.t 85)
 ,0,[]⟩,⟨some 87,none,.pick (.t 79) (.t 86) (.c (.v (.bool false))),0,[]⟩,⟨some 88,none,.mov (.t 87),0,[]⟩,⟨some 89,some (88,true),.load true 1 (.t 6),0,[]⟩,⟨some 90,
 some (88,true),.mov (.t 7),0,[]⟩,⟨some 91,some (88,true),.call (.c (.fn 26 [])) [.t 89,.t 90],0,[]⟩,⟨some 92,some (88,true),.bin .eql (.t 91) (.c (.v (.int .i64 2))),0,
 []⟩,⟨some 93,none,.pick (.t 88) (.t 92) (.c (.v (.bool false))),0,[]⟩,⟨some 94,none,.mov (.t 93),0,[]⟩,⟨some 95,some (94,true),.call (.c (.fn 11 [])) [],0,[]⟩,⟨some 96,
 none,.pick (.t 94) (.t 95) (.c (.v (.bool false))),0,[]⟩,⟨some 2,none,.mov (.t 96),0,[]⟩]) .ret))))))⟩
theorem pf7_is : pfs 7 = some pf7 := by kernel_rfl
def pf21 : PF := ⟨49,[.c 8 true 1,.t 9,.t 10],.seq (.reg [⟨some 4,none,.box (.t 0),0,[]⟩,⟨some 8,none,.alloc [.sl [] .nil],0,[]⟩,⟨some 9,none,.mov (.c (.v (.int .i64 0))),0,[]⟩,⟨some 10,
 none,.mov (.c (.v (.int .i64 0))),0,[]⟩]) (.seq (.seq (.reg [⟨some 12,none,.mov (.t 1),0,[]⟩,⟨some 13,none,.bin .lss (.t 12) (.c (.v (.int .i64 0))),0,[]⟩,⟨some 14,none,
 .mov (.t 13),0,[]⟩,⟨some 15,some (14,false),.mov (.t 1),0,[]⟩,⟨some 16,some (14,false),.faddr 0 (.t 4),0,[]⟩,⟨some 17,some (14,false),.load false 1 (.t 16),0,[]⟩,
 ⟨some 18,some (14,false),.lenS (.t 17),0,[]⟩,⟨some 19,some (14,false),.bin .geq (.t 15) (.t 18),0,[]⟩,⟨some 20,none,.pick (.t 14) (.c (.v (.bool true))) (.t 19),0,[]⟩,
 ⟨some 21,none,.mov (.t 20),0,[]⟩,⟨some 22,some (21,false),.mov (.t 3),0,[]⟩,⟨some 23,some (21,false),.bin .lss (.t 22) (.c (.v (.int .i64 0))),0,[]⟩,⟨some 24,none,
 .pick (.t 21) (.c (.v (.bool true))) (.t 23),0,[]⟩,⟨some 25,none,.mov (.t 24),0,[]⟩,⟨some 26,some (25,false),.mov (.t 2),0,[]⟩,⟨some 27,some (25,false),.bin .lss (.t 26)
  (.c (.v (.int .i64 (-65536)))),0,[]⟩,⟨some 28,none,.pick (.t 25) (.c (.v (.bool true))) (.t 27),0,[]⟩,⟨some 29,none,.mov (.t 28),0,[]⟩,⟨some 30,some (29,false),
 .mov (.t 2),0,[]⟩,⟨some 31,some (29,false),.bin .gtr (.t 30) (.c (.v (.int .i64 65536))),0,[]⟩,⟨some 32,none,.pick (.t 29) (.c (.v (.bool true))) (.t 31),0,[]⟩])
  (.cond (.t 32) (.seq (.reg [⟨some 33,none,.build [.sl [] .nil] [],0,[]⟩,⟨none,none,.store 1 (.t 8) (.t 33),0,[]⟩,⟨some 9,none,.mov (.c (.v (.int .i64 0))),0,[]⟩,
 ⟨some 10,none,.mov (.c (.v (.int .i64 2))),0,[]⟩]) .ret) .skip)) (.seq (.reg [⟨some 34,none,.load true 1 (.t 4),0,[]⟩,⟨some 35,none,.call (.c (.fn 42 [])) [.t 34],0,[]⟩,
 ⟨some 11,none,.mov (.t 35),0,[]⟩]) (.seq (.reg [⟨some 36,none,.mov (.t 3),0,[]⟩,⟨some 37,none,.min (.t 36) (.c (.v (.int .i64 4294967294))),0,[]⟩,⟨some 3,none,
 .mov (.t 37),0,[]⟩]) (.seq (.reg [⟨some 38,none,.mov (.t 11),0,[]⟩,⟨some 39,none,.mov (.t 11),0,[]⟩,⟨some 40,none,.mov (.t 1),0,[]⟩,⟨some 41,none,.mov (.t 2),0,[]⟩,
 ⟨some 42,none,.mov (.t 3),0,[]⟩,⟨some 43,none,.mkmap,0,[]⟩,⟨some 44,none,.call (.c (.fn 47 [])) [.t 39,.t 40,.t 41,.t 42,.t 43],0,[]⟩,⟨some 45,none,.call (.c (.fn 43 [])
 ) [.t 38,.t 44],0,[]⟩,⟨some 46,none,.ext (.t 45) 0,0,[]⟩,⟨some 47,none,.ext (.t 45) 1,0,[]⟩,⟨some 48,none,.ext (.t 45) 2,0,[]⟩,⟨none,none,.store 1 (.t 8) (.t 46),0,[]⟩,
 ⟨some 9,none,.mov (.t 47),0,[]⟩,⟨some 10,none,.mov (.t 48),0,[]⟩]) .ret))))⟩
theorem pf21_is : pfs 21 = some pf21 := by kernel_rfl
def pf25 : PF := ⟨33,[.c 6 true 1,.t 7,.t 8],.seq (.reg [⟨some 3,none,.box (.t 0),0,[]⟩,⟨some 5,none,.box (.t 2),0,[]⟩,⟨some 6,none,.alloc [.sl [] .nil],0,[]⟩,⟨some 7,none,
 .mov (.c (.v (.int .i64 0))),0,[]⟩,⟨some 8,none,.mov (.c (.v (.int .i64 0))),0,[]⟩]) (.seq (.seq (.reg [⟨some 12,none,.mov (.t 1),0,[]⟩,⟨some 13,none,
 .bsl (.v (.int .i64 0)) 1 [(0,1,.t 12)],0,[]⟩,⟨some 14,none,.load false 1 (.t 5),0,[]⟩,⟨some 15,none,.app 1 none (.t 13) (.t 14),0,[]⟩,⟨some 16,none,.mkfn 52 [.t 3],0,[]
 ⟩,⟨some 17,none,.call (.c (.fn 35 [])) [.t 15,.t 16],0,[]⟩]) (.cond (.t 17) (.seq (.reg [⟨some 18,none,.build [.sl [] .nil] [],0,[]⟩,⟨none,none,.store 1 (.t 6) (.t 18),
 0,[]⟩,⟨some 7,none,.mov (.c (.v (.int .i64 0))),0,[]⟩,⟨some 8,none,.mov (.c (.v (.int .i64 2))),0,[]⟩]) .ret) .skip)) (.seq (.reg [⟨some 19,none,.load true 1 (.t 3),0,[]
 ⟩,⟨some 20,none,.call (.c (.fn 42 [])) [.t 19],0,[]⟩,⟨some 9,none,.alloc [.v (.pointer none)],0,[]⟩,⟨none,none,.store 1 (.t 9) (.t 20),0,[]⟩]) (.seq (.reg [⟨some 21,
 none,.mkmap,0,[]⟩,⟨some 10,none,.alloc [.v (.map none)],0,[]⟩,⟨none,none,.store 1 (.t 10) (.t 21),0,[]⟩]) (.seq (.reg [⟨some 22,none,.load false 1 (.t 9),0,[]⟩,⟨some 23,
 none,.mov (.t 1),0,[]⟩,⟨some 24,none,.mkmap,0,[]⟩,⟨some 25,none,.mkfn 54 [.t 5,.t 9,.t 10],0,[]⟩,⟨some 26,none,.call (.c (.fn 53 [])) [.t 22,.t 23,.c (.v (.int .i64 0)),
 .c (.v (.int .i64 0)),.t 24,.t 25],0,[]⟩,⟨some 11,none,.mov (.t 26),0,[]⟩]) (.seq (.reg [⟨some 27,none,.load false 1 (.t 9),0,[]⟩,⟨some 28,none,.mov (.t 11),0,[]⟩,
 ⟨some 29,none,.call (.c (.fn 43 [])) [.t 27,.t 28],0,[]⟩,⟨some 30,none,.ext (.t 29) 0,0,[]⟩,⟨some 31,none,.ext (.t 29) 1,0,[]⟩,⟨some 32,none,.ext (.t 29) 2,0,[]⟩,⟨none,
 none,.store 1 (.t 6) (.t 30),0,[]⟩,⟨some 7,none,.mov (.t 31),0,[]⟩,⟨some 8,none,.mov (.t 32),0,[]⟩]) .ret)))))⟩
theorem pf25_is : pfs 25 = some pf25 := by kernel_rfl
def pf26 : PF := ⟨27,[.t 4],.seq (.reg [⟨some 2,none,.box (.t 0),0,[]⟩,⟨some 4,none,.mov (.c (.v (.int .i64 0))),0,[]⟩]) (.seq (.seq (.reg [⟨some 5,none,.mov (.t 1),0,[]⟩,⟨some 6,none,
 .bin .lss (.t 5) (.c (.v (.int .i64 0))),0,[]⟩,⟨some 7,none,.mov (.t 6),0,[]⟩,⟨some 8,some (7,false),.mov (.t 1),0,[]⟩,⟨some 9,some (7,false),.faddr 0 (.t 2),0,[]⟩,
 ⟨some 10,some (7,false),.load false 1 (.t 9),0,[]⟩,⟨some 11,some (7,false),.lenS (.t 10),0,[]⟩,⟨some 12,some (7,false),.bin .geq (.t 8) (.t 11),0,[]⟩,⟨some 13,none,
 .pick (.t 7) (.c (.v (.bool true))) (.t 12),0,[]⟩]) (.cond (.t 13) (.seq (.reg [⟨some 4,none,.mov (.c (.v (.int .i64 0))),0,[]⟩]) .ret) .skip)) (.seq (.reg [⟨some 14,
 none,.faddr 0 (.t 2),0,[]⟩,⟨some 15,none,.load false 1 (.t 14),0,[]⟩,⟨some 16,none,.mov (.t 1),0,[]⟩,⟨some 17,none,.bin .add (.t 16) (.c (.v (.int .i64 1))),0,[]⟩,
 ⟨some 18,none,.slice 5 (.t 15) none (some (.t 17)) none,0,[]⟩,⟨some 19,none,.build [.sl [] .nil] [(0,1,.t 18)],0,[]⟩,⟨some 20,none,.call (.c (.fn 42 [])) [.t 19],0,[]⟩,
 ⟨some 21,none,.nilck (.t 20),0,[]⟩,⟨some 22,none,.faddr 2 (.t 21),0,[]⟩,⟨some 23,none,.load false 1 (.t 22),0,[]⟩,⟨some 24,none,.mov (.t 1),0,[]⟩,⟨some 25,none,
 .iaddr 1 (.t 23) (.t 24),0,[]⟩,⟨some 26,none,.load false 1 (.t 25),0,[]⟩,⟨some 4,none,.mov (.t 26),0,[]⟩]) .ret))⟩
theorem pf26_is : pfs 26 = some pf26 := by kernel_rfl
def pf35 : PF := ⟨9,[.t 4],.seq (.reg [⟨some 4,none,.mov (.c (.v (.bool false))),0,[]⟩]) (.seq (.reg [⟨some 5,none,.mov (.t 0),0,[]⟩,⟨some 6,none,.mov (.t 1),0,[]⟩,⟨some 7,none,
 .call (.c (.fn 67 [])) [.t 5,.t 6],0,[]⟩,⟨some 8,none,.bin .geq (.t 7) (.c (.v (.int .i64 0))),0,[]⟩,⟨some 4,none,.mov (.t 8),0,[]⟩]) .ret)⟩
theorem pf35_is : pfs 35 = some pf35 := by kernel_rfl
def pf37 : PF := ⟨74,[.t 2],.seq (.reg [⟨some 1,none,.box (.t 0),0,[]⟩,⟨some 2,none,.mov (.c (.v (.string (ByteArray.mk #[])))),0,[]⟩]) (.seq (.reg [⟨some 11,none,.faddr 0 (.t 1),0,[]⟩,
 ⟨some 12,none,.load false 1 (.t 11),0,[]⟩,⟨some 13,none,.call (.c (.fn 68 [])) [.c (.sl [] .nil),.t 12,.c (.v (.int .i64 10))],0,[]⟩,⟨some 3,none,.alloc [.sl [] .nil],0,
 []⟩,⟨none,none,.store 1 (.t 3) (.t 13),0,[]⟩]) (.seq (.reg [⟨some 14,none,.mkfn 69 [.t 3],0,[]⟩,⟨some 4,none,.mov (.t 14),0,[]⟩]) (.seq (.reg [⟨some 15,none,.mov (.t 4),
 0,[]⟩,⟨some 16,none,.faddr 1 (.t 1),0,[]⟩,⟨some 17,none,.load false 1 (.t 16),0,[]⟩,⟨some 18,none,.call (.t 15) [.t 17],0,[]⟩]) (.seq (.reg [⟨some 19,none,.mov (.t 4),0,
 []⟩,⟨some 20,none,.faddr 3 (.t 1),0,[]⟩,⟨some 21,none,.load false 1 (.t 20),0,[]⟩,⟨some 22,none,.lenS (.t 21),0,[]⟩,⟨some 23,none,.call (.t 19) [.t 22],0,[]⟩])
  (.seq (.seq (.reg [⟨some 24,none,.faddr 3 (.t 1),0,[]⟩,⟨some 25,none,.load false 1 (.t 24),0,[]⟩,⟨some 26,none,.lenS (.t 25),0,[]⟩,⟨some 27,none,
 .mov (.c (.v (.int .i64 0))),0,[]⟩]) (.block 0 (.loop (.seq (.reg [⟨some 28,none,.bin .lss (.t 27) (.t 26),0,[]⟩]) (.seq (.cond (.t 28) .skip (.exit 0))
  (.seq (.block 1 (.seq (.reg [⟨some 29,none,.iaddr 2 (.t 25) (.t 27),0,[]⟩,⟨some 30,none,.load true 2 (.t 29),0,[]⟩,⟨some 6,none,.alloc [.v (.int .i64 0),.sl [] .nil],0,
 []⟩,⟨none,none,.store 2 (.t 6) (.t 30),0,[]⟩]) (.seq (.reg [⟨some 31,none,.mov (.t 4),0,[]⟩,⟨some 32,none,.faddr 0 (.t 6),0,[]⟩,⟨some 33,none,.load false 1 (.t 32),0,[]⟩
 ,⟨some 34,none,.call (.t 31) [.t 33],0,[]⟩]) (.seq (.reg [⟨some 35,none,.mov (.t 4),0,[]⟩,⟨some 36,none,.faddr 1 (.t 6),0,[]⟩,⟨some 37,none,.load false 1 (.t 36),0,[]⟩,
 ⟨some 38,none,.lenS (.t 37),0,[]⟩,⟨some 39,none,.call (.t 35) [.t 38],0,[]⟩]) (.seq (.reg [⟨some 40,none,.faddr 1 (.t 6),0,[]⟩,⟨some 41,none,.load false 1 (.t 40),0,[]⟩,
 ⟨some 42,none,.lenS (.t 41),0,[]⟩,⟨some 43,none,.mov (.c (.v (.int .i64 0))),0,[]⟩]) (.block 2 (.loop (.seq (.reg [⟨some 44,none,.bin .lss (.t 43) (.t 42),0,[]⟩])
  (.seq (.cond (.t 44) .skip (.exit 2)) (.seq (.block 3 (.seq (.reg [⟨some 45,none,.iaddr 2 (.t 41) (.t 43),0,[]⟩,⟨some 46,none,.load true 2 (.t 45),0,[]⟩,⟨some 8,none,
 .alloc [.v (.int .i64 0),.v (.int .i64 0)],0,[]⟩,⟨none,none,.store 2 (.t 8) (.t 46),0,[]⟩]) (.seq (.reg [⟨some 47,none,.mov (.t 4),0,[]⟩,⟨some 48,none,.faddr 0 (.t 8),0,
 []⟩,⟨some 49,none,.load false 1 (.t 48),0,[]⟩,⟨some 50,none,.call (.t 47) [.t 49],0,[]⟩]) (.reg [⟨some 51,none,.mov (.t 4),0,[]⟩,⟨some 52,none,.faddr 1 (.t 8),0,[]⟩,
 ⟨some 53,none,.load false 1 (.t 52),0,[]⟩,⟨some 54,none,.call (.t 51) [.t 53],0,[]⟩])))) (.reg [⟨some 55,none,.bin .add (.t 43) (.c (.v (.int .i64 1))),0,[]⟩,⟨some 43,
 none,.mov (.t 55),0,[]⟩]))))))))))) (.reg [⟨some 56,none,.bin .add (.t 27) (.c (.v (.int .i64 1))),0,[]⟩,⟨some 27,none,.mov (.t 56),0,[]⟩])))))))
  (.seq (.seq (.reg [⟨some 57,none,.faddr 4 (.t 1),0,[]⟩,⟨some 58,none,.load false 1 (.t 57),0,[]⟩,⟨some 59,none,.lenS (.t 58),0,[]⟩,⟨some 60,none,
 .mov (.c (.v (.int .i64 0))),0,[]⟩]) (.block 4 (.loop (.seq (.reg [⟨some 61,none,.bin .lss (.t 60) (.t 59),0,[]⟩]) (.seq (.cond (.t 61) .skip (.exit 4))
  (.seq (.block 5 (.seq (.reg [⟨some 62,none,.iaddr 1 (.t 58) (.t 60),0,[]⟩,⟨some 63,none,.load false 1 (.t 62),0,[]⟩,⟨some 10,none,.mov (.t 63),0,[]⟩]) (.reg [⟨some 64,
 none,.mov (.t 4),0,[]⟩,⟨some 65,none,.mov (.t 10),0,[]⟩,⟨some 66,none,.call (.t 64) [.t 65],0,[]⟩]))) (.reg [⟨some 67,none,.bin .add (.t 60) (.c (.v (.int .i64 1))),0,[]
 ⟩,⟨some 60,none,.mov (.t 67),0,[]⟩]))))))) (.seq (.reg [⟨some 68,none,.load false 1 (.t 3),0,[]⟩,⟨some 69,none,.bstr (.t 68),0,[]⟩,⟨some 70,none,.bin .add (.t 69)
  (.c (.v (.string (ByteArray.mk #[32])))),0,[]⟩,⟨some 71,none,.faddr 2 (.t 1),0,[]⟩,⟨some 72,none,.load false 1 (.t 71),0,[]⟩,⟨some 73,none,.bin .add (.t 70) (.t 72),0,
 []⟩,⟨some 2,none,.mov (.t 73),0,[]⟩]) .ret)))))))⟩
theorem pf37_is : pfs 37 = some pf37 := by kernel_rfl
def pf42 : PF := ⟨21,[.t 2],.seq (.reg [⟨some 1,none,.box (.t 0),0,[]⟩,⟨some 2,none,.mov (.c (.v (.pointer none))),0,[]⟩]) (.seq (.reg [⟨some 6,none,.mkmap,0,[]⟩,⟨some 7,none,
 .build [.sl [] .nil,.v (.map none),.sl [] .nil,.v (.bool false),.v (.bool false)] [(1,1,.t 6)],0,[]⟩,⟨some 8,none,.box (.t 7),0,[]⟩,⟨some 3,none,.mov (.t 8),0,[]⟩])
  (.seq (.seq (.reg [⟨some 9,none,.faddr 0 (.t 1),0,[]⟩,⟨some 10,none,.load false 1 (.t 9),0,[]⟩,⟨some 11,none,.lenS (.t 10),0,[]⟩,⟨some 12,none,
 .mov (.c (.v (.int .i64 0))),0,[]⟩]) (.block 0 (.loop (.seq (.reg [⟨some 13,none,.bin .lss (.t 12) (.t 11),0,[]⟩]) (.seq (.cond (.t 13) .skip (.exit 0))
  (.seq (.block 1 (.seq (.reg [⟨some 14,none,.iaddr 5 (.t 10) (.t 12),0,[]⟩,⟨some 15,none,.load true 5 (.t 14),0,[]⟩,⟨some 5,none,.alloc [.v (.int .i64 0),
 .v (.int .i64 0),.v (.string (ByteArray.mk #[])),.sl [] .nil,.sl [] .nil],0,[]⟩,⟨none,none,.store 5 (.t 5) (.t 15),0,[]⟩]) (.reg [⟨some 16,none,.mov (.t 3),0,[]⟩,
 ⟨some 17,none,.load true 5 (.t 5),0,[]⟩,⟨some 18,none,.call (.c (.fn 73 [])) [.t 16,.t 17],0,[]⟩]))) (.reg [⟨some 19,none,.bin .add (.t 12) (.c (.v (.int .i64 1))),0,[]⟩
 ,⟨some 12,none,.mov (.t 19),0,[]⟩]))))))) (.seq (.reg [⟨some 20,none,.mov (.t 3),0,[]⟩,⟨some 2,none,.mov (.t 20),0,[]⟩]) .ret)))⟩
theorem pf42_is : pfs 42 = some pf42 := by kernel_rfl
def pf43 : PF := ⟨25,[.c 4 true 1,.t 5,.t 6],.seq (.reg [⟨some 4,none,.alloc [.sl [] .nil],0,[]⟩,⟨some 5,none,.mov (.c (.v (.int .i64 0))),0,[]⟩,⟨some 6,none,.mov (.c (.v (.int .i64 0)))
 ,0,[]⟩]) (.seq (.block 0 (.seq (.reg [⟨some 8,none,.mov (.t 0),0,[]⟩,⟨some 9,none,.nilck (.t 8),0,[]⟩,⟨some 10,none,.faddr 4 (.t 9),0,[]⟩,⟨some 11,none,
 .load false 1 (.t 10),0,[]⟩,⟨some 7,none,.mov (.t 11),0,[]⟩]) (.cond (.t 7) (.seq (.reg [⟨some 12,none,.build [.sl [] .nil] [],0,[]⟩,⟨none,none,.store 1 (.t 4) (.t 12),
 0,[]⟩,⟨some 5,none,.mov (.c (.v (.int .i64 0))),0,[]⟩,⟨some 6,none,.mov (.c (.v (.int .i64 24))),0,[]⟩]) .ret) (.seq (.reg [⟨some 14,none,.mov (.t 0),0,[]⟩,⟨some 15,
 none,.nilck (.t 14),0,[]⟩,⟨some 16,none,.faddr 3 (.t 15),0,[]⟩,⟨some 17,none,.load false 1 (.t 16),0,[]⟩,⟨some 13,none,.mov (.t 17),0,[]⟩]) (.cond (.t 13)
  (.seq (.reg [⟨some 18,none,.build [.sl [] .nil] [],0,[]⟩,⟨none,none,.store 1 (.t 4) (.t 18),0,[]⟩,⟨some 5,none,.mov (.c (.v (.int .i64 0))),0,[]⟩,⟨some 6,none,
 .mov (.c (.v (.int .i64 6))),0,[]⟩]) .ret) .skip))))) (.seq (.reg [⟨some 19,none,.mov (.t 0),0,[]⟩,⟨some 20,none,.nilck (.t 19),0,[]⟩,⟨some 21,none,.faddr 0 (.t 20),0,[]
 ⟩,⟨some 22,none,.load false 1 (.t 21),0,[]⟩,⟨some 23,none,.build [.sl [] .nil] [(0,1,.t 22)],0,[]⟩,⟨some 24,none,.mov (.t 1),0,[]⟩,⟨none,none,.store 1 (.t 4) (.t 23),0,
 []⟩,⟨some 5,none,.mov (.t 24),0,[]⟩,⟨some 6,none,.mov (.c (.v (.int .i64 0))),0,[]⟩]) .ret))⟩
theorem pf43_is : pfs 43 = some pf43 := by kernel_rfl
def pf47 : PF := ⟨17,[.t 10],.seq (.reg [⟨some 5,none,.box (.t 0),0,[]⟩,⟨some 7,none,.box (.t 2),0,[]⟩,⟨some 8,none,.box (.t 3),0,[]⟩,⟨some 10,none,.mov (.c (.v (.int .i64 0))),0,[]⟩])
  (.seq (.reg [⟨some 11,none,.load false 1 (.t 5),0,[]⟩,⟨some 12,none,.mov (.t 1),0,[]⟩,⟨some 13,none,.load false 1 (.t 8),0,[]⟩,⟨some 14,none,.mov (.t 4),0,[]⟩,⟨some 15,
 none,.mkfn 75 [.t 7,.t 8,.t 5],0,[]⟩,⟨some 16,none,.call (.c (.fn 53 [])) [.t 11,.t 12,.c (.v (.int .i64 0)),.t 13,.t 14,.t 15],0,[]⟩,⟨some 10,none,.mov (.t 16),0,[]⟩])
  .ret)⟩
theorem pf47_is : pfs 47 = some pf47 := by kernel_rfl
def pf52 : PF := ⟨13,[.t 3],.seq (.reg [⟨some 3,none,.mov (.c (.v (.bool false))),0,[]⟩]) (.seq (.reg [⟨some 4,none,.mov (.t 0),0,[]⟩,⟨some 5,none,.bin .lss (.t 4) (.c (.v (.int .i64 0))
 ),0,[]⟩,⟨some 6,none,.mov (.t 5),0,[]⟩,⟨some 7,some (6,false),.mov (.t 0),0,[]⟩,⟨some 8,some (6,false),.faddr 0 (.t 1),0,[]⟩,⟨some 9,some (6,false),.load false 1 (.t 8),
 0,[]⟩,⟨some 10,some (6,false),.lenS (.t 9),0,[]⟩,⟨some 11,some (6,false),.bin .geq (.t 7) (.t 10),0,[]⟩,⟨some 12,none,.pick (.t 6) (.c (.v (.bool true))) (.t 11),0,[]⟩,
 ⟨some 3,none,.mov (.t 12),0,[]⟩]) .ret)⟩
theorem pf52_is : pfs 52 = some pf52 := by kernel_rfl
def pf53 : PF := ⟨96,[.t 12],.seq (.reg [⟨some 12,none,.mov (.c (.v (.int .i64 0))),0,[]⟩]) (.seq (.seq (.reg [⟨some 21,none,.mov (.t 0),0,[]⟩,⟨some 22,none,.nilck (.t 21),0,[]⟩,
 ⟨some 23,none,.faddr 2 (.t 22),0,[]⟩,⟨some 24,none,.load false 1 (.t 23),0,[]⟩,⟨some 25,none,.mov (.t 1),0,[]⟩,⟨some 26,none,.iaddr 1 (.t 24) (.t 25),0,[]⟩,⟨some 27,
 none,.load false 1 (.t 26),0,[]⟩,⟨some 28,none,.mov (.t 3),0,[]⟩,⟨some 29,none,.mov (.t 2),0,[]⟩,⟨some 30,none,.bin .add (.t 28) (.t 29),0,[]⟩,⟨some 31,none,
 .bin .leq (.t 27) (.t 30),0,[]⟩]) (.cond (.t 31) (.seq (.reg [⟨some 32,none,.mov (.t 1),0,[]⟩,⟨some 12,none,.mov (.t 32),0,[]⟩]) .ret) .skip)) (.seq (.reg [⟨some 33,
 none,.mov (.t 1),0,[]⟩,⟨some 34,none,.mov (.t 2),0,[]⟩,⟨some 35,none,.build [.v (.int .i64 0),.v (.int .i64 0)] [(0,1,.t 33),(1,1,.t 34)],0,[]⟩,⟨some 13,none,
 .alloc [.v (.int .i64 0),.v (.int .i64 0)],0,[]⟩,⟨none,none,.store 2 (.t 13) (.t 35),0,[]⟩]) (.seq (.seq (.reg [⟨some 37,none,.mov (.t 4),0,[]⟩,⟨some 38,none,
 .load true 2 (.t 13),0,[]⟩,⟨some 39,none,.look (.v (.int .i64 0)) true (KK.gr [false,false]) (.t 37) (.t 38),0,[]⟩,⟨some 36,none,.mov (.t 39),0,[]⟩,⟨some 40,none,
 .ext (.t 36) 0,0,[]⟩,⟨some 41,none,.ext (.t 36) 1,0,[]⟩,⟨some 14,none,.mov (.t 40),0,[]⟩,⟨some 15,none,.mov (.t 41),0,[]⟩]) (.seq (.reg [⟨some 42,none,.mov (.t 15),0,[]⟩
 ]) (.cond (.t 42) (.seq (.reg [⟨some 43,none,.mov (.t 14),0,[]⟩,⟨some 12,none,.mov (.t 43),0,[]⟩]) .ret) .skip))) (.seq (.reg [⟨some 44,none,.mov (.t 0),0,[]⟩,⟨some 45,
 none,.nilck (.t 44),0,[]⟩,⟨some 46,none,.faddr 0 (.t 45),0,[]⟩,⟨some 47,none,.load false 1 (.t 46),0,[]⟩,⟨some 48,none,.mov (.t 1),0,[]⟩,⟨some 49,none,.iaddr 5 (.t 47)
  (.t 48),0,[]⟩,⟨some 50,none,.load true 5 (.t 49),0,[]⟩,⟨some 16,none,.alloc [.v (.int .i64 0),.v (.int .i64 0),.v (.string (ByteArray.mk #[])),.sl [] .nil,.sl [] .nil],
 0,[]⟩,⟨none,none,.store 5 (.t 16) (.t 50),0,[]⟩]) (.seq (.reg [⟨some 17,none,.mov (.c (.v (.int .i64 0))),0,[]⟩]) (.seq (.seq (.reg [⟨some 51,none,.faddr 0 (.t 16),0,[]⟩
 ,⟨some 52,none,.load false 1 (.t 51),0,[]⟩,⟨some 53,none,.bin .eql (.t 52) (.c (.v (.int .i64 0))),0,[]⟩]) (.cond (.t 53) (.reg [⟨some 54,none,.mov (.t 5),0,[]⟩,
 ⟨some 55,none,.faddr 1 (.t 16),0,[]⟩,⟨some 56,none,.load false 1 (.t 55),0,[]⟩,⟨some 57,none,.mov (.t 2),0,[]⟩,⟨some 58,none,.call (.t 54) [.t 56,.t 57],0,[]⟩,⟨some 17,
 none,.mov (.t 58),0,[]⟩]) (.seq (.reg [⟨some 59,none,.faddr 4 (.t 16),0,[]⟩,⟨some 60,none,.load false 1 (.t 59),0,[]⟩,⟨some 61,none,.lenS (.t 60),0,[]⟩,⟨some 62,none,
 .mksl (.v (.int .i64 0)) 1 false (.t 61),0,[]⟩,⟨some 18,none,.mov (.t 62),0,[]⟩]) (.seq (.seq (.reg [⟨some 63,none,.faddr 4 (.t 16),0,[]⟩,⟨some 64,none,
 .load false 1 (.t 63),0,[]⟩,⟨some 65,none,.lenS (.t 64),0,[]⟩,⟨some 66,none,.mov (.c (.v (.int .i64 0))),0,[]⟩]) (.block 0 (.loop (.seq (.reg [⟨some 67,none,
 .bin .lss (.t 66) (.t 65),0,[]⟩]) (.seq (.cond (.t 67) .skip (.exit 0)) (.seq (.block 1 (.seq (.reg [⟨some 68,none,.mov (.t 66),0,[]⟩,⟨some 69,none,.iaddr 1 (.t 64)
  (.t 66),0,[]⟩,⟨some 70,none,.load false 1 (.t 69),0,[]⟩,⟨some 19,none,.mov (.t 68),0,[]⟩,⟨some 20,none,.mov (.t 70),0,[]⟩]) (.reg [⟨some 71,none,.mov (.t 18),0,[]⟩,
 ⟨some 72,none,.mov (.t 19),0,[]⟩,⟨some 73,none,.mov (.t 0),0,[]⟩,⟨some 74,none,.mov (.t 20),0,[]⟩,⟨some 75,none,.mov (.t 2),0,[]⟩,⟨some 76,none,.faddr 0 (.t 16),0,[]⟩,
 ⟨some 77,none,.load false 1 (.t 76),0,[]⟩,⟨some 78,none,.mov (.t 19),0,[]⟩,⟨some 79,none,.call (.c (.fn 78 [])) [.t 77,.t 78],0,[]⟩,⟨some 80,none,.bin .add (.t 75)
  (.t 79),0,[]⟩,⟨some 81,none,.mov (.t 3),0,[]⟩,⟨some 82,none,.mov (.t 4),0,[]⟩,⟨some 83,none,.mov (.t 5),0,[]⟩,⟨some 84,none,.call (.c (.fn 53 [])) [.t 73,.t 74,.t 80,
 .t 81,.t 82,.t 83],0,[]⟩,⟨some 85,none,.iaddr 1 (.t 71) (.t 72),0,[]⟩,⟨none,none,.store 1 (.t 85) (.t 84),0,[]⟩]))) (.reg [⟨some 86,none,.bin .add (.t 66)
  (.c (.v (.int .i64 1))),0,[]⟩,⟨some 66,none,.mov (.t 86),0,[]⟩]))))))) (.seq (.reg [⟨some 87,none,.mov (.t 18),0,[]⟩,⟨some 88,none,.faddr 4 (.t 16),0,[]⟩,⟨none,none,
 .store 1 (.t 88) (.t 87),0,[]⟩]) (.reg [⟨some 89,none,.mov (.t 0),0,[]⟩,⟨some 90,none,.load true 5 (.t 16),0,[]⟩,⟨some 91,none,.call (.c (.fn 73 [])) [.t 89,.t 90],0,[]⟩
 ,⟨some 17,none,.mov (.t 91),0,[]⟩])))))) (.seq (.reg [⟨some 92,none,.mov (.t 4),0,[]⟩,⟨some 93,none,.load true 2 (.t 13),0,[]⟩,⟨some 94,none,.mov (.t 17),0,[]⟩,⟨none,
 none,.mapup (KK.gr [false,false]) (.t 92) (.t 93) (.t 94),0,[]⟩]) (.seq (.reg [⟨some 95,none,.mov (.t 17),0,[]⟩,⟨some 12,none,.mov (.t 95),0,[]⟩]) .ret))))))))⟩
theorem pf53_is : pfs 53 = some pf53 := by kernel_rfl
def pf54 : PF := ⟨39,[.t 7],.seq (.reg [⟨some 7,none,.mov (.c (.v (.int .i64 0))),0,[]⟩]) (.seq (.reg [⟨some 9,none,.mov (.t 0),0,[]⟩,⟨some 10,none,.mov (.t 1),0,[]⟩,⟨some 11,none,
 .bin .sub (.t 9) (.t 10),0,[]⟩,⟨some 8,none,.mov (.t 11),0,[]⟩]) (.seq (.seq (.reg [⟨some 12,none,.mov (.t 8),0,[]⟩,⟨some 13,none,.load false 1 (.t 2),0,[]⟩,⟨some 14,
 none,.lenS (.t 13),0,[]⟩,⟨some 15,none,.bin .geq (.t 12) (.t 14),0,[]⟩]) (.cond (.t 15) (.seq (.reg [⟨some 16,none,.load false 1 (.t 3),0,[]⟩,⟨some 17,none,.mov (.t 0),
 0,[]⟩,⟨some 18,none,.load false 1 (.t 2),0,[]⟩,⟨some 19,none,.lenS (.t 18),0,[]⟩,⟨some 20,none,.bin .sub (.t 17) (.t 19),0,[]⟩,⟨some 21,none,.call (.c (.fn 55 []))
  [.t 16,.t 20],0,[]⟩,⟨some 7,none,.mov (.t 21),0,[]⟩]) .ret) .skip)) (.seq (.seq (.reg [⟨some 22,none,.load false 1 (.t 4),0,[]⟩,⟨some 23,none,.mov (.t 1),0,[]⟩,
 ⟨some 24,none,.look (.v (.map none)) false (KK.sc false) (.t 22) (.t 23),0,[]⟩,⟨some 25,none,.eqm false (.t 24) (.c (.v (.map none))),0,[]⟩]) (.cond (.t 25)
  (.reg [⟨some 26,none,.load false 1 (.t 4),0,[]⟩,⟨some 27,none,.mov (.t 1),0,[]⟩,⟨some 28,none,.mkmap,0,[]⟩,⟨none,none,.mapup (KK.sc false) (.t 26) (.t 27) (.t 28),0,[]⟩
 ]) .skip)) (.seq (.dreg [9,0] [⟨some 29,none,.load false 1 (.t 3),0,[]⟩,⟨some 30,none,.load false 1 (.t 2),1,[]⟩,⟨some 31,none,.mov (.t 8),2,[]⟩,⟨some 32,none,
 .iaddr 1 (.t 30) (.t 31),3,[2,1]⟩,⟨some 33,none,.load false 1 (.t 32),4,[3,2,1]⟩,⟨some 34,none,.mov (.t 1),5,[]⟩,⟨some 35,none,.load false 1 (.t 4),6,[]⟩,⟨some 36,none,
 .mov (.t 1),7,[]⟩,⟨some 37,none,.look (.v (.map none)) false (KK.sc false) (.t 35) (.t 36),8,[7,6]⟩,⟨some 38,none,.call (.c (.fn 47 [])) [.t 29,.t 33,.t 34,
 .c (.v (.int .i64 0)),.t 37],9,[8,7,6,5,4,3,2,1,0]⟩,⟨some 7,none,.mov (.t 38),10,[9,8,7,6,5,4,3,2,1,0]⟩]) .ret))))⟩
theorem pf54_is : pfs 54 = some pf54 := by kernel_rfl
def pf55 : PF := ⟨14,[.t 4],.seq (.reg [⟨some 4,none,.mov (.c (.v (.int .i64 0))),0,[]⟩]) (.seq (.seq (.reg [⟨some 5,none,.mov (.t 1),0,[]⟩,⟨some 6,none,.bin .gtr (.t 5)
  (.c (.v (.int .i64 65535))),0,[]⟩]) (.cond (.t 6) (.seq (.reg [⟨some 7,none,.mov (.t 0),0,[]⟩,⟨some 8,none,.nilck (.t 7),0,[]⟩,⟨some 9,none,.faddr 4 (.t 8),0,[]⟩,⟨none,
 none,.store 1 (.t 9) (.c (.v (.bool true))),0,[]⟩]) (.seq (.reg [⟨some 4,none,.mov (.c (.v (.int .i64 0))),0,[]⟩]) .ret)) .skip)) (.seq (.reg [⟨some 10,none,.mov (.t 0),
 0,[]⟩,⟨some 11,none,.mov (.t 1),0,[]⟩,⟨some 12,none,.build [.v (.int .i64 0),.v (.int .i64 0),.v (.string (ByteArray.mk #[])),.sl [] .nil,.sl [] .nil] [(0,1,
 .c (.v (.int .i64 0))),(1,1,.t 11)],0,[]⟩,⟨some 13,none,.call (.c (.fn 73 [])) [.t 10,.t 12],0,[]⟩,⟨some 4,none,.mov (.t 13),0,[]⟩]) .ret))⟩
theorem pf55_is : pfs 55 = some pf55 := by kernel_rfl
def pf67 : PF := ⟨19,[.t 4],.seq (.reg [⟨some 4,none,.mov (.c (.v (.int .i64 0))),0,[]⟩]) (.seq (.seq (.reg [⟨some 6,none,.mov (.t 0),0,[]⟩,⟨some 7,none,.lenS (.t 6),0,[]⟩,⟨some 8,none,
 .mov (.c (.v (.int .i64 0))),0,[]⟩]) (.block 0 (.loop (.seq (.reg [⟨some 9,none,.bin .lss (.t 8) (.t 7),0,[]⟩]) (.seq (.cond (.t 9) .skip (.exit 0))
  (.seq (.block 1 (.seq (.reg [⟨some 10,none,.mov (.t 8),0,[]⟩,⟨some 5,none,.mov (.t 10),0,[]⟩]) (.seq (.reg [⟨some 11,none,.mov (.t 1),0,[]⟩,⟨some 12,none,.mov (.t 0),0,
 []⟩,⟨some 13,none,.mov (.t 5),0,[]⟩,⟨some 14,none,.iaddr 1 (.t 12) (.t 13),0,[]⟩,⟨some 15,none,.load false 1 (.t 14),0,[]⟩,⟨some 16,none,.call (.t 11) [.t 15],0,[]⟩])
  (.cond (.t 16) (.seq (.reg [⟨some 17,none,.mov (.t 5),0,[]⟩,⟨some 4,none,.mov (.t 17),0,[]⟩]) .ret) .skip)))) (.reg [⟨some 18,none,.bin .add (.t 8)
  (.c (.v (.int .i64 1))),0,[]⟩,⟨some 8,none,.mov (.t 18),0,[]⟩]))))))) (.seq (.reg [⟨some 4,none,.mov (.c (.v (.int .i64 (-1)))),0,[]⟩]) .ret))⟩
theorem pf67_is : pfs 67 = some pf67 := by kernel_rfl
def pf68 : PF := ⟨11,[.t 6],.seq (.reg [⟨some 6,none,.mov (.c (.sl [] .nil)),0,[]⟩]) (.seq (.reg [⟨some 7,none,.mov (.t 0),0,[]⟩,⟨some 8,none,.mov (.t 1),0,[]⟩,⟨some 9,none,.mov (.t 2),
 0,[]⟩,⟨some 10,none,.call (.c (.fn 84 [])) [.t 7,.t 8,.t 9],0,[]⟩,⟨some 6,none,.mov (.t 10),0,[]⟩]) .ret)⟩
theorem pf68_is : pfs 68 = some pf68 := by kernel_rfl
def pf69 : PF := ⟨8,[],.reg [⟨some 3,none,.load false 1 (.t 1),0,[]⟩,⟨some 4,none,.bsl (.v (.int .u8 0)) 1 [(0,1,.c (.v (.int .u8 32)))],0,[]⟩,⟨some 5,none,.app 1 none (.t 3) (.t 4),0,[]
 ⟩,⟨some 6,none,.mov (.t 0),0,[]⟩,⟨some 7,none,.call (.c (.fn 68 [])) [.t 5,.t 6,.c (.v (.int .i64 10))],0,[]⟩,⟨none,none,.store 1 (.t 1) (.t 7),0,[]⟩]⟩
theorem pf69_is : pfs 69 = some pf69 := by kernel_rfl
def pf73 : PF := ⟨98,[.t 4],.seq (.reg [⟨some 3,none,.box (.t 1),0,[]⟩,⟨some 4,none,.mov (.c (.v (.int .i64 0))),0,[]⟩]) (.seq (.reg [⟨some 11,none,.load true 5 (.t 3),0,[]⟩,⟨some 12,
 none,.call (.c (.fn 37 [])) [.t 11],0,[]⟩,⟨some 5,none,.mov (.t 12),0,[]⟩]) (.seq (.seq (.reg [⟨some 14,none,.mov (.t 0),0,[]⟩,⟨some 15,none,.nilck (.t 14),0,[]⟩,
 ⟨some 16,none,.faddr 1 (.t 15),0,[]⟩,⟨some 17,none,.load false 1 (.t 16),0,[]⟩,⟨some 18,none,.mov (.t 5),0,[]⟩,⟨some 19,none,.look (.v (.int .i64 0)) true (KK.sc true)
  (.t 17) (.t 18),0,[]⟩,⟨some 13,none,.mov (.t 19),0,[]⟩,⟨some 20,none,.ext (.t 13) 0,0,[]⟩,⟨some 21,none,.ext (.t 13) 1,0,[]⟩,⟨some 6,none,.mov (.t 20),0,[]⟩,⟨some 7,
 none,.mov (.t 21),0,[]⟩]) (.seq (.reg [⟨some 22,none,.mov (.t 7),0,[]⟩]) (.cond (.t 22) (.seq (.reg [⟨some 23,none,.mov (.t 6),0,[]⟩,⟨some 4,none,.mov (.t 23),0,[]⟩])
  .ret) .skip))) (.seq (.seq (.reg [⟨some 24,none,.mov (.t 0),0,[]⟩,⟨some 25,none,.nilck (.t 24),0,[]⟩,⟨some 26,none,.faddr 0 (.t 25),0,[]⟩,⟨some 27,none,
 .load false 1 (.t 26),0,[]⟩,⟨some 28,none,.lenS (.t 27),0,[]⟩,⟨some 29,none,.bin .geq (.t 28) (.c (.v (.int .i64 65536))),0,[]⟩]) (.cond (.t 29) (.seq (.reg [⟨some 30,
 none,.mov (.t 0),0,[]⟩,⟨some 31,none,.nilck (.t 30),0,[]⟩,⟨some 32,none,.faddr 3 (.t 31),0,[]⟩,⟨none,none,.store 1 (.t 32) (.c (.v (.bool true))),0,[]⟩])
  (.seq (.reg [⟨some 4,none,.mov (.c (.v (.int .i64 0))),0,[]⟩]) .ret)) .skip)) (.seq (.reg [⟨some 8,none,.mov (.c (.v (.int .i64 0))),0,[]⟩])
  (.seq (.seq (.reg [⟨some 33,none,.faddr 0 (.t 3),0,[]⟩,⟨some 34,none,.load false 1 (.t 33),0,[]⟩,⟨some 35,none,.bin .eql (.t 34) (.c (.v (.int .i64 0))),0,[]⟩])
  (.cond (.t 35) (.reg [⟨some 36,none,.faddr 1 (.t 3),0,[]⟩,⟨some 37,none,.load false 1 (.t 36),0,[]⟩,⟨some 38,none,.bin .add (.t 37) (.c (.v (.int .i64 1))),0,[]⟩,
 ⟨some 8,none,.mov (.t 38),0,[]⟩]) .skip)) (.seq (.seq (.reg [⟨some 39,none,.faddr 4 (.t 3),0,[]⟩,⟨some 40,none,.load false 1 (.t 39),0,[]⟩,⟨some 41,none,.lenS (.t 40),0,
 []⟩,⟨some 42,none,.mov (.c (.v (.int .i64 0))),0,[]⟩]) (.block 0 (.loop (.seq (.reg [⟨some 43,none,.bin .lss (.t 42) (.t 41),0,[]⟩]) (.seq (.cond (.t 43) .skip (.exit 0)
 ) (.seq (.block 1 (.seq (.reg [⟨some 44,none,.mov (.t 42),0,[]⟩,⟨some 45,none,.iaddr 1 (.t 40) (.t 42),0,[]⟩,⟨some 46,none,.load false 1 (.t 45),0,[]⟩,⟨some 9,none,
 .mov (.t 44),0,[]⟩,⟨some 10,none,.mov (.t 46),0,[]⟩]) (.dreg [13,0] [⟨some 47,none,.mov (.t 8),0,[]⟩,⟨some 48,none,.mov (.t 0),1,[]⟩,⟨some 49,none,.nilck (.t 48),2,[1]⟩,
 ⟨some 50,none,.faddr 2 (.t 49),3,[2,1]⟩,⟨some 51,none,.load false 1 (.t 50),4,[3,2,1]⟩,⟨some 52,none,.mov (.t 10),5,[]⟩,⟨some 53,none,.iaddr 1 (.t 51) (.t 52),6,[5,4,3,
 2,1]⟩,⟨some 54,none,.load false 1 (.t 53),7,[6,5,4,3,2,1]⟩,⟨some 55,none,.faddr 0 (.t 3),8,[]⟩,⟨some 56,none,.load false 1 (.t 55),9,[8]⟩,⟨some 57,none,.mov (.t 9),10,[]
 ⟩,⟨some 58,none,.call (.c (.fn 78 [])) [.t 56,.t 57],11,[10,9,8]⟩,⟨some 59,none,.bin .sub (.t 54) (.t 58),12,[11,10,9,8,7,6,5,4,3,2,1]⟩,⟨some 60,none,.max (.t 47)
  (.t 59),13,[12,11,10,9,8,7,6,5,4,3,2,1,0]⟩,⟨some 8,none,.mov (.t 60),14,[13,12,11,10,9,8,7,6,5,4,3,2,1,0]⟩]))) (.reg [⟨some 61,none,.bin .add (.t 42)
  (.c (.v (.int .i64 1))),0,[]⟩,⟨some 42,none,.mov (.t 61),0,[]⟩]))))))) (.seq (.dreg [10] [⟨some 62,none,.mov (.t 0),0,[]⟩,⟨some 63,none,.nilck (.t 62),1,[0]⟩,⟨some 64,
 none,.faddr 1 (.t 63),2,[1,0]⟩,⟨some 65,none,.load false 1 (.t 64),3,[2,1,0]⟩,⟨some 66,none,.mov (.t 5),4,[]⟩,⟨some 67,none,.mov (.t 0),5,[]⟩,⟨some 68,none,
 .nilck (.t 67),6,[5]⟩,⟨some 69,none,.faddr 0 (.t 68),7,[6,5]⟩,⟨some 70,none,.load false 1 (.t 69),8,[7,6,5]⟩,⟨some 71,none,.lenS (.t 70),9,[8,7,6,5]⟩,⟨none,none,
 .mapup (KK.sc true) (.t 65) (.t 66) (.t 71),10,[9,8,7,6,5,4,3,2,1,0]⟩]) (.seq (.dreg [19,0,0] [⟨some 72,none,.mov (.t 0),0,[]⟩,⟨some 73,none,.mov (.t 0),1,[]⟩,⟨some 74,
 none,.mov (.t 0),2,[]⟩,⟨some 75,none,.nilck (.t 74),3,[2]⟩,⟨some 76,none,.faddr 0 (.t 75),4,[3,2]⟩,⟨some 77,none,.load false 1 (.t 76),5,[4,3,2]⟩,⟨some 78,none,
 .load true 5 (.t 3),6,[]⟩,⟨some 79,none,.bsl (.agg [.v (.int .i64 0),.v (.int .i64 0),.v (.string (ByteArray.mk #[])),.sl [] .nil,.sl [] .nil]) 1 [(0,5,.t 78)],7,[6]⟩,
 ⟨some 80,none,.app 5 none (.t 77) (.t 79),8,[7,6,5,4,3,2]⟩,⟨some 81,none,.mov (.t 0),9,[]⟩,⟨some 82,none,.nilck (.t 81),10,[9]⟩,⟨some 83,none,.faddr 2 (.t 82),11,[10,9]⟩
 ,⟨some 84,none,.load false 1 (.t 83),12,[11,10,9]⟩,⟨some 85,none,.mov (.t 8),13,[]⟩,⟨some 86,none,.bsl (.v (.int .i64 0)) 1 [(0,1,.t 85)],14,[13]⟩,⟨some 87,none,
 .app 1 none (.t 84) (.t 86),15,[8,7,6,5,4,3,2,14,13,12,11,10,9]⟩,⟨some 88,none,.nilck (.t 72),16,[15,14,13,12,11,10,9,8,7,6,5,4,3,2,0]⟩,⟨some 89,none,.faddr 0 (.t 88),
 17,[16,15,14,13,12,11,10,9,8,7,6,5,4,3,2,0]⟩,⟨none,none,.store 1 (.t 89) (.t 80),18,[17,16,15,14,13,12,11,10,9,8,7,6,5,4,3,2,0]⟩,⟨some 90,none,.nilck (.t 73),19,[18,17,
 16,15,14,13,12,11,10,9,8,7,6,5,4,3,2,0,1]⟩,⟨some 91,none,.faddr 2 (.t 90),20,[19,18,17,16,15,14,13,12,11,10,9,8,7,6,5,4,3,2,0,1]⟩,⟨none,none,.store 1 (.t 91) (.t 87),21,
 [20,19,18,17,16,15,14,13,12,11,10,9,8,7,6,5,4,3,2,0,1]⟩]) (.seq (.reg [⟨some 92,none,.mov (.t 0),0,[]⟩,⟨some 93,none,.nilck (.t 92),0,[]⟩,⟨some 94,none,.faddr 0 (.t 93),
 0,[]⟩,⟨some 95,none,.load false 1 (.t 94),0,[]⟩,⟨some 96,none,.lenS (.t 95),0,[]⟩,⟨some 97,none,.bin .sub (.t 96) (.c (.v (.int .i64 1))),0,[]⟩,⟨some 4,none,.mov (.t 97)
 ,0,[]⟩]) .ret)))))))))⟩
theorem pf73_is : pfs 73 = some pf73 := by kernel_rfl
def pf75 : PF := ⟨23,[.t 7],.seq (.reg [⟨some 7,none,.mov (.c (.v (.int .i64 0))),0,[]⟩]) (.seq (.seq (.reg [⟨some 8,none,.mov (.t 0),0,[]⟩,⟨some 9,none,.load false 1 (.t 2),0,[]⟩,
 ⟨some 10,none,.bin .add (.t 8) (.t 9),0,[]⟩,⟨some 11,none,.load false 1 (.t 3),0,[]⟩,⟨some 12,none,.mov (.t 1),0,[]⟩,⟨some 13,none,.bin .add (.t 11) (.t 12),0,[]⟩,
 ⟨some 14,none,.bin .lss (.t 10) (.t 13),0,[]⟩]) (.cond (.t 14) (.seq (.reg [⟨some 15,none,.load false 1 (.t 4),0,[]⟩,⟨some 16,none,.nilck (.t 15),0,[]⟩,⟨some 17,none,
 .faddr 4 (.t 16),0,[]⟩,⟨none,none,.store 1 (.t 17) (.c (.v (.bool true))),0,[]⟩]) (.seq (.reg [⟨some 7,none,.mov (.c (.v (.int .i64 0))),0,[]⟩]) .ret)) .skip))
  (.seq (.reg [⟨some 18,none,.load false 1 (.t 4),0,[]⟩,⟨some 19,none,.mov (.t 0),0,[]⟩,⟨some 20,none,.load false 1 (.t 2),0,[]⟩,⟨some 21,none,.bin .add (.t 19) (.t 20),
 0,[]⟩,⟨some 22,none,.call (.c (.fn 55 [])) [.t 18,.t 21],0,[]⟩,⟨some 7,none,.mov (.t 22),0,[]⟩]) .ret))⟩
theorem pf75_is : pfs 75 = some pf75 := by kernel_rfl
def pf78 : PF := ⟨27,[.t 4],.seq (.reg [⟨some 4,none,.mov (.c (.v (.int .i64 0))),0,[]⟩]) (.seq (.block 0 (.seq (.reg [⟨some 6,none,.mov (.t 1),0,[]⟩,⟨some 7,none,.bin .eql (.t 6)
  (.c (.v (.int .i64 1))),0,[]⟩,⟨some 8,none,.mov (.t 7),0,[]⟩,⟨some 9,some (8,true),.mov (.t 0),0,[]⟩,⟨some 10,some (8,true),.bin .eql (.t 9) (.c (.v (.int .i64 5))),0,
 []⟩,⟨some 11,some (8,true),.mov (.t 10),0,[]⟩,⟨some 12,some (11,false),.mov (.t 0),0,[]⟩,⟨some 13,some (11,false),.bin .eql (.t 12) (.c (.v (.int .i64 6))),0,[]⟩,
 ⟨some 14,some (8,true),.pick (.t 11) (.c (.v (.bool true))) (.t 13),0,[]⟩,⟨some 15,some (8,true),.mov (.t 14),0,[]⟩,⟨some 16,some (15,false),.mov (.t 0),0,[]⟩,⟨some 17,
 some (15,false),.bin .eql (.t 16) (.c (.v (.int .i64 7))),0,[]⟩,⟨some 18,some (8,true),.pick (.t 15) (.c (.v (.bool true))) (.t 17),0,[]⟩,⟨some 19,none,.pick (.t 8)
  (.t 18) (.c (.v (.bool false))),0,[]⟩,⟨some 5,none,.mov (.t 19),0,[]⟩]) (.cond (.t 5) (.seq (.reg [⟨some 4,none,.mov (.c (.v (.int .i64 1))),0,[]⟩]) .ret)
  (.seq (.reg [⟨some 21,none,.mov (.t 1),0,[]⟩,⟨some 22,none,.bin .eql (.t 21) (.c (.v (.int .i64 2))),0,[]⟩,⟨some 23,none,.mov (.t 22),0,[]⟩,⟨some 24,some (23,true),
 .mov (.t 0),0,[]⟩,⟨some 25,some (23,true),.bin .eql (.t 24) (.c (.v (.int .i64 11))),0,[]⟩,⟨some 26,none,.pick (.t 23) (.t 25) (.c (.v (.bool false))),0,[]⟩,⟨some 20,
 none,.mov (.t 26),0,[]⟩]) (.cond (.t 20) (.seq (.reg [⟨some 4,none,.mov (.c (.v (.int .i64 1))),0,[]⟩]) .ret) .skip))))) (.seq (.reg [⟨some 4,none,
 .mov (.c (.v (.int .i64 0))),0,[]⟩]) .ret))⟩
theorem pf78_is : pfs 78 = some pf78 := by kernel_rfl
def pf84 : PF := ⟨21,[.t 6],.seq (.reg [⟨some 6,none,.mov (.c (.sl [] .nil)),0,[]⟩]) (.seq (.reg [⟨some 8,none,.mov (.t 1),0,[]⟩,⟨some 9,none,.conv .u64 (.t 8),0,[]⟩,⟨some 7,none,
 .mov (.t 9),0,[]⟩]) (.seq (.seq (.reg [⟨some 10,none,.mov (.t 1),0,[]⟩,⟨some 11,none,.bin .lss (.t 10) (.c (.v (.int .i64 0))),0,[]⟩]) (.cond (.t 11)
  (.seq (.reg [⟨some 12,none,.mov (.t 0),0,[]⟩,⟨some 13,none,.bsl (.v (.int .u8 0)) 1 [(0,1,.c (.v (.int .u8 45)))],0,[]⟩,⟨some 14,none,.app 1 none (.t 12) (.t 13),0,[]⟩,
 ⟨some 0,none,.mov (.t 14),0,[]⟩]) (.reg [⟨some 15,none,.mov (.t 7),0,[]⟩,⟨some 16,none,.un .neg (.t 15),0,[]⟩,⟨some 7,none,.mov (.t 16),0,[]⟩])) .skip))
  (.seq (.reg [⟨some 17,none,.mov (.t 0),0,[]⟩,⟨some 18,none,.mov (.t 7),0,[]⟩,⟨some 19,none,.mov (.t 2),0,[]⟩,⟨some 20,none,.call (.c (.fn 98 [])) [.t 17,.t 18,.t 19],0,
 []⟩,⟨some 6,none,.mov (.t 20),0,[]⟩]) .ret)))⟩
theorem pf84_is : pfs 84 = some pf84 := by kernel_rfl
def pf98 : PF := ⟨36,[.t 6],.seq (.reg [⟨some 6,none,.mov (.c (.sl [] .nil)),0,[]⟩]) (.seq (.seq (.reg [⟨some 9,none,.mov (.t 2),0,[]⟩,⟨some 10,none,.bin .eql (.t 9)
  (.c (.v (.int .i64 10))),0,[]⟩]) (.cond (.t 10) (.seq (.seq (.reg [⟨some 11,none,.mov (.t 1),0,[]⟩,⟨some 12,none,.bin .lss (.t 11) (.c (.v (.int .u64 100))),0,[]⟩])
  (.cond (.t 12) (.seq (.reg [⟨some 13,none,.mov (.t 0),0,[]⟩,⟨some 14,none,.mov (.t 1),0,[]⟩,⟨some 15,none,.conv .i64 (.t 14),0,[]⟩,⟨some 16,none,.call (.c (.fn 102 []))
  [.t 15],0,[]⟩,⟨some 17,none,.app 1 none (.t 13) (.t 16),0,[]⟩,⟨some 6,none,.mov (.t 17),0,[]⟩]) .ret) .skip)) (.seq (.reg [⟨some 7,none,.alloc [.v (.int .u8 0),
 .v (.int .u8 0),.v (.int .u8 0),.v (.int .u8 0),.v (.int .u8 0),.v (.int .u8 0),.v (.int .u8 0),.v (.int .u8 0),.v (.int .u8 0),.v (.int .u8 0),.v (.int .u8 0),
 .v (.int .u8 0),.v (.int .u8 0),.v (.int .u8 0),.v (.int .u8 0),.v (.int .u8 0),.v (.int .u8 0),.v (.int .u8 0),.v (.int .u8 0),.v (.int .u8 0),.v (.int .u8 0),
 .v (.int .u8 0),.v (.int .u8 0),.v (.int .u8 0)],0,[]⟩]) (.seq (.reg [⟨some 18,none,.mov (.t 1),0,[]⟩,⟨some 19,none,.call (.c (.fn 103 [])) [.t 18],0,[]⟩,⟨some 8,none,
 .mov (.t 19),0,[]⟩]) (.seq (.reg [⟨some 20,none,.mov (.t 8),0,[]⟩,⟨some 21,none,.slcA 24 1 false (.t 7) (some (.t 20)),0,[]⟩,⟨some 22,none,.mov (.t 1),0,[]⟩,⟨some 23,
 none,.call (.c (.fn 104 [])) [.t 21,.t 22],0,[]⟩]) (.seq (.reg [⟨some 24,none,.mov (.t 0),0,[]⟩,⟨some 25,none,.mov (.t 8),0,[]⟩,⟨some 26,none,.slcA 24 1 false (.t 7)
  (some (.t 25)),0,[]⟩,⟨some 27,none,.app 1 none (.t 24) (.t 26),0,[]⟩,⟨some 6,none,.mov (.t 27),0,[]⟩]) .ret))))) .skip)) (.seq (.reg [⟨some 29,none,.mov (.t 0),0,[]⟩,
 ⟨some 30,none,.mov (.t 1),0,[]⟩,⟨some 31,none,.mov (.t 2),0,[]⟩,⟨some 32,none,.call (.c (.fn 105 [])) [.t 29,.t 30,.t 31,.c (.v (.bool false)),.c (.v (.bool true))],0,[]
 ⟩,⟨some 28,none,.mov (.t 32),0,[]⟩,⟨some 33,none,.ext (.t 28) 0,0,[]⟩,⟨some 34,none,.ext (.t 28) 1,0,[]⟩,⟨some 0,none,.mov (.t 33),0,[]⟩]) (.seq (.reg [⟨some 35,none,
 .mov (.t 0),0,[]⟩,⟨some 6,none,.mov (.t 35),0,[]⟩]) .ret)))⟩
theorem pf98_is : pfs 98 = some pf98 := by kernel_rfl
def pf102 : PF := ⟨15,[.t 2],.seq (.reg [⟨some 2,none,.mov (.c (.v (.string (ByteArray.mk #[])))),0,[]⟩]) (.seq (.seq (.reg [⟨some 3,none,.mov (.t 0),0,[]⟩,⟨some 4,none,.bin .lss (.t 3)
  (.c (.v (.int .i64 10))),0,[]⟩]) (.cond (.t 4) (.seq (.reg [⟨some 5,none,.mov (.t 0),0,[]⟩,⟨some 6,none,.mov (.t 0),0,[]⟩,⟨some 7,none,.bin .add (.t 6)
  (.c (.v (.int .i64 1))),0,[]⟩,⟨some 8,none,.strsl (.c (.v (.string (ByteArray.mk #[48,49,50,51,52,53,54,55,56,57,97,98,99,100,101,102,103,104,105,106,107,108,109,110,
 111,112,113,114,115,116,117,118,119,120,121,122])))) (some (.t 5)) (some (.t 7)),0,[]⟩,⟨some 2,none,.mov (.t 8),0,[]⟩]) .ret) .skip)) (.seq (.reg [⟨some 9,none,
 .mov (.t 0),0,[]⟩,⟨some 10,none,.bin .mul (.t 9) (.c (.v (.int .i64 2))),0,[]⟩,⟨some 11,none,.mov (.t 0),0,[]⟩,⟨some 12,none,.bin .mul (.t 11) (.c (.v (.int .i64 2))),0,
 []⟩,⟨some 13,none,.bin .add (.t 12) (.c (.v (.int .i64 2))),0,[]⟩,⟨some 14,none,.strsl (.c (.v (.string (ByteArray.mk #[48,48,48,49,48,50,48,51,48,52,48,53,48,54,48,55,
 48,56,48,57,49,48,49,49,49,50,49,51,49,52,49,53,49,54,49,55,49,56,49,57,50,48,50,49,50,50,50,51,50,52,50,53,50,54,50,55,50,56,50,57,51,48,51,49,51,50,51,51,51,52,51,53,
 51,54,51,55,51,56,51,57,52,48,52,49,52,50,52,51,52,52,52,53,52,54,52,55,52,56,52,57,53,48,53,49,53,50,53,51,53,52,53,53,53,54,53,55,53,56,53,57,54,48,54,49,54,50,54,51,
 54,52,54,53,54,54,54,55,54,56,54,57,55,48,55,49,55,50,55,51,55,52,55,53,55,54,55,55,55,56,55,57,56,48,56,49,56,50,56,51,56,52,56,53,56,54,56,55,56,56,56,57,57,48,57,49,
 57,50,57,51,57,52,57,53,57,54,57,55,57,56,57,57])))) (some (.t 10)) (some (.t 13)),0,[]⟩,⟨some 2,none,.mov (.t 14),0,[]⟩]) .ret))⟩
theorem pf102_is : pfs 102 = some pf102 := by kernel_rfl
end Go.Proofs.Eng
