/- The prepared code of the functions. No conditions. -/
import Derived.Test.YtnipefcppecalaaGreatDoorIT
set_option linter.all false
set_option linter.deprecated false
set_option linter.unnecessarySimpa false
set_option linter.unusedVariables false
set_option linter.unusedSimpArgs false
set_option linter.defProp false
namespace Go.Proofs.Eng
open Go Go.Proofs
def sharedF : List Nat := [2000008, 31, 62, 63, 64, 108, 21, 23, 24, 92, 93, 95, 96, 97, 98, 119, 45, 46, 50, 91, 33, 65, 66, 26, 27, 28, 54]
def rawF : List Nat := [22, 52, 30, 14, 37, 72, 73, 74, 75, 76, 77, 78]
def md (f : Nat) : Md := if rawF.contains f then .raw else if sharedF.contains f then .shared else .pure
def bf : Bf := ⟨false, fun g => rawF.contains g || sharedF.contains g, itF⟩
noncomputable def pfs (f : Nat) : Option PF := if f = 52 then some ⟨0, [], .ora emitO⟩ else if f = 30 then some ⟨0, [], .ora repO⟩ else if f = 41 then some ⟨0, [], .ora itoaO⟩ else if f = 19 then none else if f = 11 then none else if f = 7 then prepFQ Tryz.prog bf 7 else if f = 76 then prepF Tryz.prog { bf with b := true } 76 else prepF Tryz.prog bf f
theorem hasq7 : (prepFQ Tryz.prog bf 7).all (fun p => p.body.hasQ) = true := by kernel_rfl
theorem pfsOK : PfsOK Tryz.prog pfs := fun f pf h => by
 unfold pfs at h
 split at h
 ·rename_i hf
  subst hf
  simp only [Option.some.injEq] at h; subst h
  exact .inr (.inl ⟨_, rfl, emit_ok⟩)
 split at h
 ·rename_i hf
  subst hf
  simp only [Option.some.injEq] at h; subst h
  exact .inr (.inl ⟨_, rfl, rep_ok⟩)
 split at h
 ·rename_i hf
  subst hf
  simp only [Option.some.injEq] at h; subst h
  exact .inr (.inl ⟨_, rfl, itoa_ok⟩)
 split at h
 ·cases h
 split at h
 ·cases h
 split at h
 ·rename_i hf
  subst hf
  have hq := hasq7
  rw [h] at hq
  exact .inr (.inr ⟨bf, it_all, h, hq⟩)
 split at h
 ·rename_i hf
  subst hf
  exact .inl ⟨_, h⟩
 ·exact .inl ⟨_, h⟩
theorem hm : Tryz.prog.follows .mixedOrders = true := by kernel_rfl
set_option maxRecDepth 100000
def pf3 : PF := ⟨32,[.t 2],.seq (.reg [⟨some 1,none,.box (.t 0),0,[]⟩,⟨some 2,none,.mov (.c (.v (.bool false))),0,[]⟩]) (.seq (.seq (.reg [⟨some 7,none,.load true 6 (.t 1),0,[]⟩,
 ⟨some 8,none,.call (.c (.fn 5 [])) [.t 7],0,[]⟩,⟨some 9,none,.un .not (.t 8),0,[]⟩]) (.cond (.t 9) (.seq (.reg [⟨some 10,none,.call (.c (.fn 6 [])) [],0,[]⟩,⟨some 2,
 none,.mov (.t 10),0,[]⟩]) .ret) .skip)) (.seq (.reg [⟨some 12,none,.load true 6 (.t 1),0,[]⟩,⟨some 13,none,.call (.c (.fn 7 [])) [.t 12],0,[]⟩,⟨some 11,none,.mov (.t 13)
 ,0,[]⟩,⟨some 14,none,.ext (.t 11) 0,0,[]⟩,⟨some 15,none,.ext (.t 11) 1,0,[]⟩,⟨some 3,none,.alloc [.sl [] .nil,.sl [] .nil,.sl [] .nil],0,[]⟩,⟨none,none,.store 3 (.t 3)
  (.t 14),0,[]⟩,⟨some 4,none,.mov (.t 15),0,[]⟩]) (.seq (.reg [⟨some 17,none,.load true 6 (.t 1),0,[]⟩,⟨some 18,none,.call (.c (.fn 8 [])) [.t 17],0,[]⟩,⟨some 16,none,
 .mov (.t 18),0,[]⟩,⟨some 19,none,.ext (.t 16) 0,0,[]⟩,⟨some 20,none,.ext (.t 16) 1,0,[]⟩,⟨some 5,none,.alloc [.sl [] .nil,.sl [] .nil,.sl [] .nil],0,[]⟩,⟨none,none,
 .store 3 (.t 5) (.t 19),0,[]⟩,⟨some 6,none,.mov (.t 20),0,[]⟩]) (.seq (.reg [⟨some 21,none,.call (.c (.fn 6 [])) [],0,[]⟩,⟨some 22,none,.mov (.t 21),0,[]⟩,⟨some 23,
 some (22,true),.load true 3 (.t 3),0,[]⟩,⟨some 24,some (22,true),.load true 3 (.t 5),0,[]⟩,⟨some 25,some (22,true),.call (.c (.fn 9 [])) [.t 23,.t 24],0,[]⟩,⟨some 26,
 none,.pick (.t 22) (.t 25) (.c (.v (.bool false))),0,[]⟩,⟨some 27,none,.mov (.t 26),0,[]⟩,⟨some 28,some (27,true),.mov (.t 4),0,[]⟩,⟨some 29,some (27,true),.mov (.t 6),
 0,[]⟩,⟨some 30,some (27,true),.bin .eql (.t 28) (.t 29),0,[]⟩,⟨some 31,none,.pick (.t 27) (.t 30) (.c (.v (.bool false))),0,[]⟩,⟨some 2,none,.mov (.t 31),0,[]⟩]) .ret)))
 )⟩
theorem pf3_is : pfs 3 = some pf3 := by kernel_rfl
def pf5 : PF := ⟨46,[.t 2],.seq (.reg [⟨some 1,none,.box (.t 0),0,[]⟩,⟨some 2,none,.mov (.c (.v (.bool false))),0,[]⟩]) (.seq (.reg [⟨some 10,none,.faddr 1 (.t 1),0,[]⟩,⟨some 11,none,
 .load true 5 (.t 10),0,[]⟩,⟨some 12,none,.call (.c (.fn 18 [])) [.t 11,.c (.v (.int .i64 60)),.c (.v (.int .i64 60))],0,[]⟩,⟨some 9,none,.mov (.t 12),0,[]⟩,⟨some 13,
 none,.ext (.t 9) 0,0,[]⟩,⟨some 14,none,.ext (.t 9) 1,0,[]⟩,⟨some 3,none,.mov (.t 13),0,[]⟩,⟨some 4,none,.mov (.t 14),0,[]⟩]) (.seq (.seq (.reg [⟨some 15,none,
 .faddr 0 (.t 1),0,[]⟩,⟨some 16,none,.load false 1 (.t 15),0,[]⟩,⟨some 17,none,.lenS (.t 16),0,[]⟩,⟨some 18,none,.mov (.c (.v (.int .i64 0))),0,[]⟩])
  (.block 0 (.loop (.seq (.reg [⟨some 19,none,.bin .lss (.t 18) (.t 17),0,[]⟩]) (.seq (.cond (.t 19) .skip (.exit 0)) (.seq (.block 1 (.seq (.reg [⟨some 20,none,
 .iaddr 6 (.t 16) (.t 18),0,[]⟩,⟨some 21,none,.load true 6 (.t 20),0,[]⟩,⟨some 6,none,.alloc [.v (.string (ByteArray.mk #[])),.v (.int .i64 0),.v (.int .i64 0),
 .v (.string (ByteArray.mk #[])),.sl [] .nil,.sl [] .nil],0,[]⟩,⟨none,none,.store 6 (.t 6) (.t 21),0,[]⟩]) (.seq (.reg [⟨some 23,none,.faddr 1 (.t 6),0,[]⟩,⟨some 24,none,
 .load true 5 (.t 23),0,[]⟩,⟨some 25,none,.call (.c (.fn 18 [])) [.t 24,.c (.v (.int .i64 60)),.c (.v (.int .i64 60))],0,[]⟩,⟨some 22,none,.mov (.t 25),0,[]⟩,⟨some 26,
 none,.ext (.t 22) 0,0,[]⟩,⟨some 27,none,.ext (.t 22) 1,0,[]⟩,⟨some 7,none,.mov (.t 26),0,[]⟩,⟨some 8,none,.mov (.t 27),0,[]⟩]) (.reg [⟨some 28,none,.mov (.t 4),0,[]⟩,
 ⟨some 29,none,.mov (.t 28),0,[]⟩,⟨some 30,some (29,true),.mov (.t 8),0,[]⟩,⟨some 31,none,.pick (.t 29) (.t 30) (.c (.v (.bool false))),0,[]⟩,⟨some 32,none,.mov (.t 31),
 0,[]⟩,⟨some 33,some (32,true),.faddr 0 (.t 6),0,[]⟩,⟨some 34,some (32,true),.load false 1 (.t 33),0,[]⟩,⟨some 35,some (32,true),.lenT (.t 34),0,[]⟩,⟨some 36,some (32,
 true),.bin .leq (.t 35) (.c (.v (.int .i64 80))),0,[]⟩,⟨some 37,none,.pick (.t 32) (.t 36) (.c (.v (.bool false))),0,[]⟩,⟨some 4,none,.mov (.t 37),0,[]⟩]))))
  (.reg [⟨some 38,none,.bin .add (.t 18) (.c (.v (.int .i64 1))),0,[]⟩,⟨some 18,none,.mov (.t 38),0,[]⟩]))))))) (.seq (.reg [⟨some 39,none,.mov (.t 4),0,[]⟩,⟨some 40,
 none,.mov (.t 39),0,[]⟩,⟨some 41,some (40,true),.faddr 0 (.t 1),0,[]⟩,⟨some 42,some (40,true),.load false 1 (.t 41),0,[]⟩,⟨some 43,some (40,true),.lenS (.t 42),0,[]⟩,
 ⟨some 44,some (40,true),.bin .leq (.t 43) (.c (.v (.int .i64 6))),0,[]⟩,⟨some 45,none,.pick (.t 40) (.t 44) (.c (.v (.bool false))),0,[]⟩,⟨some 2,none,.mov (.t 45),0,[]⟩
 ]) .ret)))⟩
theorem pf5_is : pfs 5 = some pf5 := by kernel_rfl
def pf7 : PF := ⟨69,[.c 2 true 3,.t 3],.seq (.reg [⟨some 1,none,.box (.t 0),0,[]⟩,⟨some 2,none,.alloc [.sl [] .nil,.sl [] .nil,.sl [] .nil],0,[]⟩,⟨some 3,none,.mov (.c (.v (.int .i64 0)
 )),0,[]⟩]) (.seq (.seq (.reg [⟨some 10,none,.load true 6 (.t 1),0,[]⟩,⟨some 11,none,.call (.c (.fn 20 [])) [.t 10],0,[]⟩,⟨some 4,none,.mov (.t 11),0,[]⟩])
  (.seq (.reg [⟨some 12,none,.mov (.t 4),0,[]⟩,⟨some 13,none,.bin .neq (.t 12) (.c (.v (.int .i64 0))),0,[]⟩]) (.cond (.t 13) (.seq (.reg [⟨some 14,none,.build [.sl []
  .nil,.sl [] .nil,.sl [] .nil] [],0,[]⟩,⟨some 15,none,.mov (.t 4),0,[]⟩,⟨none,none,.store 3 (.t 2) (.t 14),0,[]⟩,⟨some 3,none,.mov (.t 15),0,[]⟩]) .ret) .skip)))
  (.seq (.reg [⟨some 16,none,.faddr 0 (.t 1),0,[]⟩,⟨some 17,none,.load false 1 (.t 16),0,[]⟩,⟨some 18,none,.build [.sl [] .nil,.sl [] .nil,.sl [] .nil] [(0,1,.t 17)],0,[]
 ⟩,⟨some 19,none,.box (.t 18),0,[]⟩,⟨some 5,none,.alloc [.v (.pointer none)],0,[]⟩,⟨none,none,.store 1 (.t 5) (.t 19),0,[]⟩]) (.seq (.reg [⟨some 6,none,.alloc [.sl []
  .nil,.sl [] .nil,.sl [] .nil],0,[]⟩]) (.seq (.reg [⟨some 20,none,.load false 1 (.t 5),0,[]⟩,⟨some 21,none,.faddr 1 (.t 1),0,[]⟩,⟨some 22,none,.load true 5 (.t 21),0,[]⟩
 ,⟨some 23,none,.call (.c (.fn 21 [])) [.t 20,.t 22],0,[]⟩]) (.seq (.seq (.reg [⟨some 24,none,.faddr 0 (.t 1),0,[]⟩,⟨some 25,none,.load false 1 (.t 24),0,[]⟩,⟨some 26,
 none,.lenS (.t 25),0,[]⟩,⟨some 27,none,.mov (.c (.v (.int .i64 0))),0,[]⟩]) (.block 0 (.loop (.seq (.reg [⟨some 28,none,.bin .lss (.t 27) (.t 26),0,[]⟩])
  (.seq (.cond (.t 28) .skip (.exit 0)) (.seq (.block 1 (.seq (.reg [⟨some 29,none,.iaddr 6 (.t 25) (.t 27),0,[]⟩,⟨some 30,none,.load true 6 (.t 29),0,[]⟩,⟨some 8,none,
 .alloc [.v (.string (ByteArray.mk #[])),.v (.int .i64 0),.v (.int .i64 0),.v (.string (ByteArray.mk #[])),.sl [] .nil,.sl [] .nil],0,[]⟩,⟨none,none,.store 6 (.t 8)
  (.t 30),0,[]⟩]) (.seq (.reg [⟨some 31,none,.faddr 1 (.t 6),0,[]⟩,⟨some 32,none,.load false 1 (.t 31),0,[]⟩,⟨some 33,none,.faddr 0 (.t 8),0,[]⟩,⟨some 34,none,
 .load false 1 (.t 33),0,[]⟩,⟨some 35,none,.bsl (.v (.string (ByteArray.mk #[]))) 1 [(0,1,.t 34)],0,[]⟩,⟨some 36,none,.app 1 none (.t 32) (.t 35),0,[]⟩,⟨some 37,none,
 .faddr 1 (.t 6),0,[]⟩,⟨none,none,.store 1 (.t 37) (.t 36),0,[]⟩]) (.dreg [6007,0,0] [⟨some 38,none,.faddr 2 (.t 6),0,[]⟩,⟨some 39,none,.load false 1 (.t 38),1,[0]⟩,
 ⟨some 40,none,.load false 1 (.t 5),2,[]⟩,⟨some 41,none,.faddr 1 (.t 8),3,[]⟩,⟨some 42,none,.load true 5 (.t 41),4,[3]⟩,⟨some 43,none,.call (.c (.fn 21 [])) [.t 40,.t 42]
 ,5,[4,3,2]⟩,⟨some 44,none,.bsl (.v (.int .i64 0)) 1 [(0,1,.t 43)],6,[5,4,3,2]⟩,⟨some 45,none,.app 1 none (.t 39) (.t 44),7,[6,5,4,3,2,1,0]⟩,⟨some 46,none,.faddr 2 (.t 6)
 ,8,[7,6,5,4,3,2,1,0]⟩,⟨none,none,.store 1 (.t 46) (.t 45),9,[8,7,6,5,4,3,2,1,0]⟩])))) (.reg [⟨some 47,none,.bin .add (.t 27) (.c (.v (.int .i64 1))),0,[]⟩,⟨some 27,none,
 .mov (.t 47),0,[]⟩]))))))) (.seq (.seq (.reg [⟨some 48,none,.load false 1 (.t 5),0,[]⟩,⟨some 49,none,.call (.c (.fn 22 [])) [.t 48],0,[]⟩])
  (.block 2 (.rangeq itF (.t 49) [50] (.reg [⟨some 9,none,.alloc [.v (.int .i64 0),.v (.int .i64 0),.v (.string (ByteArray.mk #[])),.sl [] .nil,.sl [] .nil],0,[]⟩,⟨none,
 none,.store 5 (.t 9) (.t 50),0,[]⟩]) (.block 3 (.seq (.reg [⟨some 51,none,.load false 1 (.t 5),0,[]⟩,⟨some 52,none,.nilck (.t 51),0,[]⟩,⟨some 53,none,.faddr 2 (.t 52),0,
 []⟩,⟨none,none,.store 1 (.t 53) (.c (.sl [] .nil)),0,[]⟩]) (.seq (.reg [⟨some 54,none,.load false 1 (.t 5),0,[]⟩,⟨some 55,none,.load true 5 (.t 9),0,[]⟩,⟨some 56,none,
 .call (.c (.fn 23 [])) [.t 54,.t 55],0,[]⟩]) (.seq (.reg [⟨some 57,none,.load false 1 (.t 5),0,[]⟩,⟨some 58,none,.call (.c (.fn 24 [])) [.t 57,.c (.v (.int .i64 3)),
 .c (.v (.int .i64 0)),.c (.v (.int .i64 0)),.c (.v (.string (ByteArray.mk #[])))],0,[]⟩]) (.dreg [7,0,0] [⟨some 59,none,.faddr 0 (.t 6),0,[]⟩,⟨some 60,none,
 .load false 1 (.t 59),1,[0]⟩,⟨some 61,none,.load false 1 (.t 5),2,[]⟩,⟨some 62,none,.nilck (.t 61),3,[2]⟩,⟨some 63,none,.faddr 2 (.t 62),4,[3,2]⟩,⟨some 64,none,
 .load false 1 (.t 63),5,[4,3,2]⟩,⟨some 65,none,.bsl (.sl [] .nil) 1 [(0,1,.t 64)],6,[5,4,3,2]⟩,⟨some 66,none,.app 1 none (.t 60) (.t 65),7,[6,5,4,3,2,1,0]⟩,⟨some 67,
 none,.faddr 0 (.t 6),8,[7,6,5,4,3,2,1,0]⟩,⟨none,none,.store 1 (.t 67) (.t 66),9,[8,7,6,5,4,3,2,1,0]⟩])))))))) (.seq (.reg [⟨some 68,none,.load true 3 (.t 6),0,[]⟩,⟨none,
 none,.store 3 (.t 2) (.t 68),0,[]⟩,⟨some 3,none,.mov (.c (.v (.int .i64 0))),0,[]⟩]) .ret)))))))⟩
theorem pf7_is : pfs 7 = some pf7 := by kernel_rfl
def pf8 : PF := ⟨88,[.c 2 true 3,.t 3],.seq (.reg [⟨some 1,none,.box (.t 0),0,[]⟩,⟨some 2,none,.alloc [.sl [] .nil,.sl [] .nil,.sl [] .nil],0,[]⟩,⟨some 3,none,.mov (.c (.v (.int .i64 0)
 )),0,[]⟩]) (.seq (.seq (.reg [⟨some 9,none,.load true 6 (.t 1),0,[]⟩,⟨some 10,none,.call (.c (.fn 25 [])) [.t 9],0,[]⟩,⟨some 4,none,.mov (.t 10),0,[]⟩])
  (.seq (.reg [⟨some 11,none,.mov (.t 4),0,[]⟩,⟨some 12,none,.bin .neq (.t 11) (.c (.v (.int .i64 0))),0,[]⟩]) (.cond (.t 12) (.seq (.reg [⟨some 13,none,.build [.sl []
  .nil,.sl [] .nil,.sl [] .nil] [],0,[]⟩,⟨some 14,none,.mov (.t 4),0,[]⟩,⟨none,none,.store 3 (.t 2) (.t 13),0,[]⟩,⟨some 3,none,.mov (.t 14),0,[]⟩]) .ret) .skip)))
  (.seq (.reg [⟨some 15,none,.faddr 0 (.t 1),0,[]⟩,⟨some 16,none,.load false 1 (.t 15),0,[]⟩,⟨some 17,none,.build [.sl [] .nil,.sl [] .nil,.sl [] .nil] [(0,1,.t 16)],0,[]
 ⟩,⟨some 18,none,.box (.t 17),0,[]⟩,⟨some 5,none,.mov (.t 18),0,[]⟩]) (.seq (.reg [⟨some 19,none,.build [.sl [] .nil,.sl [] .nil,.sl [] .nil] [],0,[]⟩,⟨some 6,none,
 .alloc [.sl [] .nil,.sl [] .nil,.sl [] .nil],0,[]⟩,⟨none,none,.store 3 (.t 6) (.t 19),0,[]⟩]) (.seq (.reg [⟨some 20,none,.mov (.t 5),0,[]⟩,⟨some 21,none,.faddr 1 (.t 1),
 0,[]⟩,⟨some 22,none,.load true 5 (.t 21),0,[]⟩,⟨some 23,none,.call (.c (.fn 26 [])) [.t 20,.t 22],0,[]⟩]) (.seq (.seq (.reg [⟨some 7,none,.mov (.c (.v (.int .i64 0))),0,
 []⟩]) (.block 0 (.loop (.seq (.seq (.reg [⟨some 24,none,.mov (.t 7),0,[]⟩,⟨some 25,none,.faddr 0 (.t 1),0,[]⟩,⟨some 26,none,.load false 1 (.t 25),0,[]⟩,⟨some 27,none,
 .lenS (.t 26),0,[]⟩,⟨some 28,none,.bin .lss (.t 24) (.t 27),0,[]⟩]) (.cond (.t 28) .skip (.exit 0))) (.seq (.block 1 (.seq (.dreg [9,0,0] [⟨some 31,none,.faddr 1 (.t 6),
 0,[]⟩,⟨some 32,none,.load false 1 (.t 31),1,[0]⟩,⟨some 33,none,.faddr 0 (.t 1),2,[]⟩,⟨some 34,none,.load false 1 (.t 33),3,[2]⟩,⟨some 35,none,.mov (.t 7),4,[]⟩,⟨some 36,
 none,.iaddr 6 (.t 34) (.t 35),5,[4,3,2]⟩,⟨some 37,none,.faddr 0 (.t 36),6,[5,4,3,2]⟩,⟨some 38,none,.load false 1 (.t 37),7,[6,5,4,3,2]⟩,⟨some 39,none,
 .bsl (.v (.string (ByteArray.mk #[]))) 1 [(0,1,.t 38)],8,[7,6,5,4,3,2]⟩,⟨some 40,none,.app 1 none (.t 32) (.t 39),9,[8,7,6,5,4,3,2,1,0]⟩,⟨some 41,none,.faddr 1 (.t 6),
 10,[9,8,7,6,5,4,3,2,1,0]⟩,⟨none,none,.store 1 (.t 41) (.t 40),11,[10,9,8,7,6,5,4,3,2,1,0]⟩]) (.dreg [10011,0,0] [⟨some 42,none,.faddr 2 (.t 6),0,[]⟩,⟨some 43,none,
 .load false 1 (.t 42),1,[0]⟩,⟨some 44,none,.mov (.t 5),2,[]⟩,⟨some 45,none,.faddr 0 (.t 1),3,[]⟩,⟨some 46,none,.load false 1 (.t 45),4,[3]⟩,⟨some 47,none,.mov (.t 7),5,
 []⟩,⟨some 48,none,.iaddr 6 (.t 46) (.t 47),6,[5,4,3]⟩,⟨some 49,none,.faddr 1 (.t 48),7,[6,5,4,3]⟩,⟨some 50,none,.load true 5 (.t 49),8,[7,6,5,4,3]⟩,⟨some 51,none,
 .call (.c (.fn 26 [])) [.t 44,.t 50],9,[8,7,6,5,4,3,2]⟩,⟨some 52,none,.bsl (.v (.int .i64 0)) 1 [(0,1,.t 51)],10,[9,8,7,6,5,4,3,2]⟩,⟨some 53,none,.app 1 none (.t 43)
  (.t 52),11,[10,9,8,7,6,5,4,3,2,1,0]⟩,⟨some 54,none,.faddr 2 (.t 6),12,[11,10,9,8,7,6,5,4,3,2,1,0]⟩,⟨none,none,.store 1 (.t 54) (.t 53),13,[12,11,10,9,8,7,6,5,4,3,2,1,0]
 ⟩]))) (.reg [⟨some 29,none,.mov (.t 7),0,[]⟩,⟨some 30,none,.bin .add (.t 29) (.c (.v (.int .i64 1))),0,[]⟩,⟨some 7,none,.mov (.t 30),0,[]⟩]))))))
  (.seq (.seq (.reg [⟨some 8,none,.mov (.c (.v (.int .i64 0))),0,[]⟩]) (.block 2 (.loop (.seq (.seq (.reg [⟨some 55,none,.mov (.t 8),0,[]⟩,⟨some 56,none,.mov (.t 5),0,[]⟩
 ,⟨some 57,none,.nilck (.t 56),0,[]⟩,⟨some 58,none,.faddr 1 (.t 57),0,[]⟩,⟨some 59,none,.load false 1 (.t 58),0,[]⟩,⟨some 60,none,.lenS (.t 59),0,[]⟩,⟨some 61,none,
 .bin .lss (.t 55) (.t 60),0,[]⟩]) (.cond (.t 61) .skip (.exit 2))) (.seq (.block 3 (.seq (.reg [⟨some 64,none,.mov (.t 5),0,[]⟩,⟨some 65,none,.nilck (.t 64),0,[]⟩,
 ⟨some 66,none,.faddr 2 (.t 65),0,[]⟩,⟨none,none,.store 1 (.t 66) (.c (.sl [] .nil)),0,[]⟩]) (.seq (.reg [⟨some 67,none,.mov (.t 5),0,[]⟩,⟨some 68,none,.mov (.t 5),0,[]⟩,
 ⟨some 69,none,.nilck (.t 68),0,[]⟩,⟨some 70,none,.faddr 1 (.t 69),0,[]⟩,⟨some 71,none,.load false 1 (.t 70),0,[]⟩,⟨some 72,none,.mov (.t 8),0,[]⟩,⟨some 73,none,
 .iaddr 5 (.t 71) (.t 72),0,[]⟩,⟨some 74,none,.load true 5 (.t 73),0,[]⟩,⟨some 75,none,.call (.c (.fn 27 [])) [.t 67,.t 74],0,[]⟩]) (.seq (.reg [⟨some 76,none,.mov (.t 5)
 ,0,[]⟩,⟨some 77,none,.call (.c (.fn 28 [])) [.t 76,.c (.v (.int .i64 3)),.c (.v (.int .i64 0)),.c (.v (.int .i64 0)),.c (.v (.string (ByteArray.mk #[])))],0,[]⟩])
  (.dreg [7,0,0] [⟨some 78,none,.faddr 0 (.t 6),0,[]⟩,⟨some 79,none,.load false 1 (.t 78),1,[0]⟩,⟨some 80,none,.mov (.t 5),2,[]⟩,⟨some 81,none,.nilck (.t 80),3,[2]⟩,
 ⟨some 82,none,.faddr 2 (.t 81),4,[3,2]⟩,⟨some 83,none,.load false 1 (.t 82),5,[4,3,2]⟩,⟨some 84,none,.bsl (.sl [] .nil) 1 [(0,1,.t 83)],6,[5,4,3,2]⟩,⟨some 85,none,
 .app 1 none (.t 79) (.t 84),7,[6,5,4,3,2,1,0]⟩,⟨some 86,none,.faddr 0 (.t 6),8,[7,6,5,4,3,2,1,0]⟩,⟨none,none,.store 1 (.t 86) (.t 85),9,[8,7,6,5,4,3,2,1,0]⟩])))))
  (.reg [⟨some 62,none,.mov (.t 8),0,[]⟩,⟨some 63,none,.bin .add (.t 62) (.c (.v (.int .i64 1))),0,[]⟩,⟨some 8,none,.mov (.t 63),0,[]⟩])))))) (.seq (.reg [⟨some 87,none,
 .load true 3 (.t 6),0,[]⟩,⟨none,none,.store 3 (.t 2) (.t 87),0,[]⟩,⟨some 3,none,.mov (.c (.v (.int .i64 0))),0,[]⟩]) .ret)))))))⟩
theorem pf8_is : pfs 8 = some pf8 := by kernel_rfl
def pf9 : PF := ⟨117,[.t 4],.seq (.reg [⟨some 2,none,.box (.t 0),0,[]⟩,⟨some 3,none,.box (.t 1),0,[]⟩,⟨some 4,none,.mov (.c (.v (.bool false))),0,[]⟩]) (.seq (.seq (.reg [⟨some 9,none,
 .faddr 0 (.t 2),0,[]⟩,⟨some 10,none,.load false 1 (.t 9),0,[]⟩,⟨some 11,none,.lenS (.t 10),0,[]⟩,⟨some 12,none,.faddr 0 (.t 3),0,[]⟩,⟨some 13,none,.load false 1 (.t 12),
 0,[]⟩,⟨some 14,none,.lenS (.t 13),0,[]⟩,⟨some 15,none,.bin .neq (.t 11) (.t 14),0,[]⟩,⟨some 16,none,.mov (.t 15),0,[]⟩,⟨some 17,some (16,false),.faddr 1 (.t 2),0,[]⟩,
 ⟨some 18,some (16,false),.load false 1 (.t 17),0,[]⟩,⟨some 19,some (16,false),.lenS (.t 18),0,[]⟩,⟨some 20,some (16,false),.faddr 1 (.t 3),0,[]⟩,⟨some 21,some (16,false)
 ,.load false 1 (.t 20),0,[]⟩,⟨some 22,some (16,false),.lenS (.t 21),0,[]⟩,⟨some 23,some (16,false),.bin .neq (.t 19) (.t 22),0,[]⟩,⟨some 24,none,.pick (.t 16)
  (.c (.v (.bool true))) (.t 23),0,[]⟩,⟨some 25,none,.mov (.t 24),0,[]⟩,⟨some 26,some (25,false),.faddr 2 (.t 2),0,[]⟩,⟨some 27,some (25,false),.load false 1 (.t 26),0,[]
 ⟩,⟨some 28,some (25,false),.lenS (.t 27),0,[]⟩,⟨some 29,some (25,false),.faddr 2 (.t 3),0,[]⟩,⟨some 30,some (25,false),.load false 1 (.t 29),0,[]⟩,⟨some 31,some (25,
 false),.lenS (.t 30),0,[]⟩,⟨some 32,some (25,false),.bin .neq (.t 28) (.t 31),0,[]⟩,⟨some 33,none,.pick (.t 25) (.c (.v (.bool true))) (.t 32),0,[]⟩]) (.cond (.t 33)
  (.seq (.reg [⟨some 4,none,.mov (.c (.v (.bool false))),0,[]⟩]) .ret) .skip)) (.seq (.seq (.reg [⟨some 5,none,.mov (.c (.v (.int .i64 0))),0,[]⟩])
  (.block 0 (.loop (.seq (.seq (.reg [⟨some 34,none,.mov (.t 5),0,[]⟩,⟨some 35,none,.faddr 0 (.t 2),0,[]⟩,⟨some 36,none,.load false 1 (.t 35),0,[]⟩,⟨some 37,none,
 .lenS (.t 36),0,[]⟩,⟨some 38,none,.bin .lss (.t 34) (.t 37),0,[]⟩]) (.cond (.t 38) .skip (.exit 0))) (.seq (.block 1 (.seq (.seq (.dreg [12] [⟨some 41,none,
 .faddr 0 (.t 2),0,[]⟩,⟨some 42,none,.load false 1 (.t 41),1,[0]⟩,⟨some 43,none,.mov (.t 5),2,[]⟩,⟨some 44,none,.iaddr 1 (.t 42) (.t 43),3,[2,1,0]⟩,⟨some 45,none,
 .load false 1 (.t 44),4,[3,2,1,0]⟩,⟨some 46,none,.lenS (.t 45),5,[4,3,2,1,0]⟩,⟨some 47,none,.faddr 0 (.t 3),6,[]⟩,⟨some 48,none,.load false 1 (.t 47),7,[6]⟩,⟨some 49,
 none,.mov (.t 5),8,[]⟩,⟨some 50,none,.iaddr 1 (.t 48) (.t 49),9,[8,7,6]⟩,⟨some 51,none,.load false 1 (.t 50),10,[9,8,7,6]⟩,⟨some 52,none,.lenS (.t 51),11,[10,9,8,7,6]⟩,
 ⟨some 53,none,.bin .neq (.t 46) (.t 52),12,[11,10,9,8,7,6,5,4,3,2,1,0]⟩]) (.cond (.t 53) (.seq (.reg [⟨some 4,none,.mov (.c (.v (.bool false))),0,[]⟩]) .ret) .skip))
  (.seq (.reg [⟨some 6,none,.mov (.c (.v (.int .i64 0))),0,[]⟩]) (.block 2 (.loop (.seq (.seq (.reg [⟨some 54,none,.mov (.t 6),0,[]⟩,⟨some 55,none,.faddr 0 (.t 2),0,[]⟩,
 ⟨some 56,none,.load false 1 (.t 55),0,[]⟩,⟨some 57,none,.mov (.t 5),0,[]⟩,⟨some 58,none,.iaddr 1 (.t 56) (.t 57),0,[]⟩,⟨some 59,none,.load false 1 (.t 58),0,[]⟩,
 ⟨some 60,none,.lenS (.t 59),0,[]⟩,⟨some 61,none,.bin .lss (.t 54) (.t 60),0,[]⟩]) (.cond (.t 61) .skip (.exit 2))) (.seq (.block 3 (.seq (.dreg [16] [⟨some 64,none,
 .faddr 0 (.t 2),0,[]⟩,⟨some 65,none,.load false 1 (.t 64),1,[0]⟩,⟨some 66,none,.mov (.t 5),2,[]⟩,⟨some 67,none,.iaddr 1 (.t 65) (.t 66),3,[2,1,0]⟩,⟨some 68,none,
 .load false 1 (.t 67),4,[3,2,1,0]⟩,⟨some 69,none,.mov (.t 6),5,[]⟩,⟨some 70,none,.iaddr 4 (.t 68) (.t 69),6,[5,4,3,2,1,0]⟩,⟨some 71,none,.load true 4 (.t 70),7,[6,5,4,3,
 2,1,0]⟩,⟨some 72,none,.faddr 0 (.t 3),8,[]⟩,⟨some 73,none,.load false 1 (.t 72),9,[8]⟩,⟨some 74,none,.mov (.t 5),10,[]⟩,⟨some 75,none,.iaddr 1 (.t 73) (.t 74),11,[10,9,
 8]⟩,⟨some 76,none,.load false 1 (.t 75),12,[11,10,9,8]⟩,⟨some 77,none,.mov (.t 6),13,[]⟩,⟨some 78,none,.iaddr 4 (.t 76) (.t 77),14,[13,12,11,10,9,8]⟩,⟨some 79,none,
 .load true 4 (.t 78),15,[14,13,12,11,10,9,8]⟩,⟨some 80,none,.eqg true [false,false,false,true] (.t 71) (.t 79),16,[15,14,13,12,11,10,9,8,7,6,5,4,3,2,1,0]⟩])
  (.cond (.t 80) (.seq (.reg [⟨some 4,none,.mov (.c (.v (.bool false))),0,[]⟩]) .ret) .skip))) (.reg [⟨some 62,none,.mov (.t 6),0,[]⟩,⟨some 63,none,.bin .add (.t 62)
  (.c (.v (.int .i64 1))),0,[]⟩,⟨some 6,none,.mov (.t 63),0,[]⟩])))))))) (.reg [⟨some 39,none,.mov (.t 5),0,[]⟩,⟨some 40,none,.bin .add (.t 39) (.c (.v (.int .i64 1))),0,
 []⟩,⟨some 5,none,.mov (.t 40),0,[]⟩])))))) (.seq (.seq (.reg [⟨some 7,none,.mov (.c (.v (.int .i64 0))),0,[]⟩]) (.block 4 (.loop (.seq (.seq (.reg [⟨some 81,none,
 .mov (.t 7),0,[]⟩,⟨some 82,none,.faddr 1 (.t 2),0,[]⟩,⟨some 83,none,.load false 1 (.t 82),0,[]⟩,⟨some 84,none,.lenS (.t 83),0,[]⟩,⟨some 85,none,.bin .lss (.t 81) (.t 84)
 ,0,[]⟩]) (.cond (.t 85) .skip (.exit 4))) (.seq (.block 5 (.seq (.dreg [10] [⟨some 88,none,.faddr 1 (.t 2),0,[]⟩,⟨some 89,none,.load false 1 (.t 88),1,[0]⟩,⟨some 90,
 none,.mov (.t 7),2,[]⟩,⟨some 91,none,.iaddr 1 (.t 89) (.t 90),3,[2,1,0]⟩,⟨some 92,none,.load false 1 (.t 91),4,[3,2,1,0]⟩,⟨some 93,none,.faddr 1 (.t 3),5,[]⟩,⟨some 94,
 none,.load false 1 (.t 93),6,[5]⟩,⟨some 95,none,.mov (.t 7),7,[]⟩,⟨some 96,none,.iaddr 1 (.t 94) (.t 95),8,[7,6,5]⟩,⟨some 97,none,.load false 1 (.t 96),9,[8,7,6,5]⟩,
 ⟨some 98,none,.bin .neq (.t 92) (.t 97),10,[9,8,7,6,5,4,3,2,1,0]⟩]) (.cond (.t 98) (.seq (.reg [⟨some 4,none,.mov (.c (.v (.bool false))),0,[]⟩]) .ret) .skip)))
  (.reg [⟨some 86,none,.mov (.t 7),0,[]⟩,⟨some 87,none,.bin .add (.t 86) (.c (.v (.int .i64 1))),0,[]⟩,⟨some 7,none,.mov (.t 87),0,[]⟩])))))) (.seq (.seq (.reg [⟨some 8,
 none,.mov (.c (.v (.int .i64 0))),0,[]⟩]) (.block 6 (.loop (.seq (.seq (.reg [⟨some 99,none,.mov (.t 8),0,[]⟩,⟨some 100,none,.faddr 2 (.t 2),0,[]⟩,⟨some 101,none,
 .load false 1 (.t 100),0,[]⟩,⟨some 102,none,.lenS (.t 101),0,[]⟩,⟨some 103,none,.bin .lss (.t 99) (.t 102),0,[]⟩]) (.cond (.t 103) .skip (.exit 6)))
  (.seq (.block 7 (.seq (.dreg [10] [⟨some 106,none,.faddr 2 (.t 2),0,[]⟩,⟨some 107,none,.load false 1 (.t 106),1,[0]⟩,⟨some 108,none,.mov (.t 8),2,[]⟩,⟨some 109,none,
 .iaddr 1 (.t 107) (.t 108),3,[2,1,0]⟩,⟨some 110,none,.load false 1 (.t 109),4,[3,2,1,0]⟩,⟨some 111,none,.faddr 2 (.t 3),5,[]⟩,⟨some 112,none,.load false 1 (.t 111),6,[5]
 ⟩,⟨some 113,none,.mov (.t 8),7,[]⟩,⟨some 114,none,.iaddr 1 (.t 112) (.t 113),8,[7,6,5]⟩,⟨some 115,none,.load false 1 (.t 114),9,[8,7,6,5]⟩,⟨some 116,none,
 .bin .neq (.t 110) (.t 115),10,[9,8,7,6,5,4,3,2,1,0]⟩]) (.cond (.t 116) (.seq (.reg [⟨some 4,none,.mov (.c (.v (.bool false))),0,[]⟩]) .ret) .skip))) (.reg [⟨some 104,
 none,.mov (.t 8),0,[]⟩,⟨some 105,none,.bin .add (.t 104) (.c (.v (.int .i64 1))),0,[]⟩,⟨some 8,none,.mov (.t 105),0,[]⟩])))))) (.seq (.reg [⟨some 4,none,
 .mov (.c (.v (.bool true))),0,[]⟩]) .ret)))))⟩
theorem pf9_is : pfs 9 = some pf9 := by kernel_rfl
def pf18 : PF := ⟨52,[.t 6,.t 7],.seq (.reg [⟨some 3,none,.box (.t 0),0,[]⟩,⟨some 6,none,.mov (.c (.v (.int .i64 0))),0,[]⟩,⟨some 7,none,.mov (.c (.v (.bool false))),0,[]⟩])
  (.seq (.seq (.reg [⟨some 12,none,.mov (.t 1),0,[]⟩,⟨some 13,none,.bin .leq (.t 12) (.c (.v (.int .i64 0))),0,[]⟩,⟨some 14,none,.mov (.t 13),0,[]⟩,⟨some 15,some (14,
 false),.mov (.t 2),0,[]⟩,⟨some 16,some (14,false),.bin .leq (.t 15) (.c (.v (.int .i64 0))),0,[]⟩,⟨some 17,none,.pick (.t 14) (.c (.v (.bool true))) (.t 16),0,[]⟩,
 ⟨some 18,none,.mov (.t 17),0,[]⟩,⟨some 19,some (18,false),.faddr 2 (.t 3),0,[]⟩,⟨some 20,some (18,false),.load false 1 (.t 19),0,[]⟩,⟨some 21,some (18,false),
 .lenT (.t 20),0,[]⟩,⟨some 22,some (18,false),.bin .gtr (.t 21) (.c (.v (.int .i64 80))),0,[]⟩,⟨some 23,none,.pick (.t 18) (.c (.v (.bool true))) (.t 22),0,[]⟩,⟨some 24,
 none,.mov (.t 23),0,[]⟩,⟨some 25,some (24,false),.faddr 3 (.t 3),0,[]⟩,⟨some 26,some (24,false),.load false 1 (.t 25),0,[]⟩,⟨some 27,some (24,false),.lenS (.t 26),0,[]⟩,
 ⟨some 28,some (24,false),.bin .gtr (.t 27) (.c (.v (.int .i64 40))),0,[]⟩,⟨some 29,none,.pick (.t 24) (.c (.v (.bool true))) (.t 28),0,[]⟩]) (.cond (.t 29)
  (.seq (.reg [⟨some 6,none,.mov (.c (.v (.int .i64 0))),0,[]⟩,⟨some 7,none,.mov (.c (.v (.bool false))),0,[]⟩]) .ret) .skip)) (.seq (.reg [⟨some 30,none,.mov (.t 1),0,[]
 ⟩,⟨some 31,none,.bin .sub (.t 30) (.c (.v (.int .i64 1))),0,[]⟩,⟨some 1,none,.mov (.t 31),0,[]⟩]) (.seq (.seq (.reg [⟨some 32,none,.faddr 4 (.t 3),0,[]⟩,⟨some 33,none,
 .load false 1 (.t 32),0,[]⟩,⟨some 34,none,.lenS (.t 33),0,[]⟩,⟨some 35,none,.mov (.c (.v (.int .i64 0))),0,[]⟩]) (.block 0 (.loop (.seq (.reg [⟨some 36,none,
 .bin .lss (.t 35) (.t 34),0,[]⟩]) (.seq (.cond (.t 36) .skip (.exit 0)) (.seq (.block 1 (.seq (.reg [⟨some 37,none,.iaddr 5 (.t 33) (.t 35),0,[]⟩,⟨some 38,none,
 .load true 5 (.t 37),0,[]⟩,⟨some 9,none,.alloc [.v (.int .i64 0),.v (.int .i64 0),.v (.string (ByteArray.mk #[])),.sl [] .nil,.sl [] .nil],0,[]⟩,⟨none,none,
 .store 5 (.t 9) (.t 38),0,[]⟩]) (.seq (.reg [⟨some 40,none,.load true 5 (.t 9),0,[]⟩,⟨some 41,none,.mov (.t 1),0,[]⟩,⟨some 42,none,.mov (.t 2),0,[]⟩,⟨some 43,none,
 .bin .sub (.t 42) (.c (.v (.int .i64 1))),0,[]⟩,⟨some 44,none,.call (.c (.fn 18 [])) [.t 40,.t 41,.t 43],0,[]⟩,⟨some 39,none,.mov (.t 44),0,[]⟩,⟨some 45,none,
 .ext (.t 39) 0,0,[]⟩,⟨some 46,none,.ext (.t 39) 1,0,[]⟩,⟨some 10,none,.mov (.t 45),0,[]⟩,⟨some 11,none,.mov (.t 46),0,[]⟩]) (.seq (.seq (.reg [⟨some 47,none,.mov (.t 11)
 ,0,[]⟩,⟨some 48,none,.un .not (.t 47),0,[]⟩]) (.cond (.t 48) (.seq (.reg [⟨some 6,none,.mov (.c (.v (.int .i64 0))),0,[]⟩,⟨some 7,none,.mov (.c (.v (.bool false))),0,[]⟩
 ]) .ret) .skip)) (.reg [⟨some 49,none,.mov (.t 10),0,[]⟩,⟨some 1,none,.mov (.t 49),0,[]⟩]))))) (.reg [⟨some 50,none,.bin .add (.t 35) (.c (.v (.int .i64 1))),0,[]⟩,
 ⟨some 35,none,.mov (.t 50),0,[]⟩]))))))) (.seq (.reg [⟨some 51,none,.mov (.t 1),0,[]⟩,⟨some 6,none,.mov (.t 51),0,[]⟩,⟨some 7,none,.mov (.c (.v (.bool true))),0,[]⟩])
  .ret))))⟩
theorem pf18_is : pfs 18 = some pf18 := by kernel_rfl
def pf20 : PF := ⟨5,[.t 2],.seq (.reg [⟨some 1,none,.box (.t 0),0,[]⟩,⟨some 2,none,.mov (.c (.v (.int .i64 0))),0,[]⟩]) (.seq (.reg [⟨some 3,none,.mkfn 46 [.t 1],0,[]⟩,⟨some 4,none,
 .call (.c (.fn 45 [])) [.t 3],0,[]⟩,⟨some 2,none,.mov (.t 4),0,[]⟩]) .ret)⟩
theorem pf20_is : pfs 20 = some pf20 := by kernel_rfl
def pf21 : PF := ⟨22,[.t 4],.seq (.reg [⟨some 3,none,.box (.t 1),0,[]⟩,⟨some 4,none,.mov (.c (.v (.int .i64 0))),0,[]⟩]) (.seq (.dreg [7] [⟨some 5,none,.mov (.t 0),0,[]⟩,⟨some 6,none,
 .nilck (.t 5),1,[0]⟩,⟨some 7,none,.faddr 1 (.t 6),2,[1,0]⟩,⟨some 8,none,.load false 1 (.t 7),3,[2,1,0]⟩,⟨some 9,none,.load true 5 (.t 3),4,[]⟩,⟨some 10,none,.lenS (.t 8)
 ,5,[3,2,1,0]⟩,⟨some 11,none,.bsl (.agg [.v (.int .i64 0),.v (.int .i64 0),.v (.string (ByteArray.mk #[])),.sl [] .nil,.sl [] .nil]) 1 [(0,5,.c (.agg [.v (.int .i64 0),
 .v (.int .i64 0),.v (.string (ByteArray.mk #[])),.sl [] .nil,.sl [] .nil]))],6,[]⟩,⟨some 12,none,.appl 5 (.t 8) (.t 11) (.t 10) (.t 9) (.t 13),7,[]⟩,⟨some 14,none,
 .faddr 0 (.t 5),0,[]⟩,⟨some 15,none,.faddr 1 (.t 14),0,[]⟩,⟨none,none,.store 1 (.t 15) (.t 12),0,[]⟩,⟨some 13,none,.mov (.c .unk),0,[]⟩]) (.seq (.reg [⟨some 16,none,
 .mov (.t 0),0,[]⟩,⟨some 17,none,.nilck (.t 16),0,[]⟩,⟨some 18,none,.faddr 1 (.t 17),0,[]⟩,⟨some 19,none,.load false 1 (.t 18),0,[]⟩,⟨some 20,none,.lenS (.t 19),0,[]⟩,
 ⟨some 21,none,.bin .sub (.t 20) (.c (.v (.int .i64 1))),0,[]⟩,⟨some 4,none,.mov (.t 21),0,[]⟩]) .ret))⟩
theorem pf21_is : pfs 21 = some pf21 := by kernel_rfl
def pf22 : PF := ⟨4,[.t 2],.seq (.reg [⟨some 1,none,.box (.t 0),0,[]⟩,⟨some 2,none,.mov (.c (.v .nilFunc)),0,[]⟩]) (.seq (.reg [⟨some 3,none,.mkfn 51 [.t 1],0,[]⟩,⟨some 2,none,
 .mov (.t 3),0,[]⟩]) .ret)⟩
theorem pf22_is : pfs 22 = some pf22 := by kernel_rfl
def pf23 : PF := ⟨11,[],.seq (.reg [⟨some 3,none,.box (.t 1),0,[]⟩]) (.dreg [5006] [⟨some 4,none,.mov (.t 0),0,[]⟩,⟨some 6,none,.faddr 0 (.t 3),2,[]⟩,⟨some 7,none,.load false 1 (.t 6),3,
 [2]⟩,⟨some 9,none,.load true 5 (.t 3),5,[]⟩,⟨some 5,none,.call (.c (.fn 52 [])) [.t 4],1,[0]⟩,⟨some 8,none,.idxA 12 1 false (.t 5) (.t 7),4,[3,2,1,0]⟩,⟨some 10,none,
 .call (.t 8) [.t 9],6,[5,4,3,2,1,0]⟩])⟩
theorem pf23_is : pfs 23 = some pf23 := by kernel_rfl
def pf24 : PF := ⟨24,[],.reg [⟨some 10,none,.mov (.t 0),0,[]⟩,⟨some 11,none,.mov (.t 0),0,[]⟩,⟨some 12,none,.nilck (.t 11),0,[]⟩,⟨some 13,none,.faddr 2 (.t 12),0,[]⟩,⟨some 14,none,
 .load false 1 (.t 13),0,[]⟩,⟨some 15,none,.mov (.t 1),0,[]⟩,⟨some 16,none,.mov (.t 2),0,[]⟩,⟨some 17,none,.mov (.t 3),0,[]⟩,⟨some 18,none,.mov (.t 4),0,[]⟩,⟨some 19,
 none,.build [.v (.int .i64 0),.v (.int .i64 0),.v (.int .i64 0),.v (.string (ByteArray.mk #[]))] [(0,1,.t 15),(1,1,.t 16),(2,1,.t 17),(3,1,.t 18)],0,[]⟩,⟨some 20,none,
 .bsl (.agg [.v (.int .i64 0),.v (.int .i64 0),.v (.int .i64 0),.v (.string (ByteArray.mk #[]))]) 1 [(0,4,.t 19)],0,[]⟩,⟨some 21,none,.app 4 none (.t 14) (.t 20),0,[]⟩,
 ⟨some 22,none,.nilck (.t 10),0,[]⟩,⟨some 23,none,.faddr 2 (.t 22),0,[]⟩,⟨none,none,.store 1 (.t 23) (.t 21),0,[]⟩]⟩
theorem pf24_is : pfs 24 = some pf24 := by kernel_rfl
def pf25 : PF := ⟨58,[.t 2],.seq (.reg [⟨some 1,none,.box (.t 0),0,[]⟩,⟨some 2,none,.mov (.c (.v (.int .i64 0))),0,[]⟩]) (.seq (.seq (.reg [⟨some 6,none,.faddr 0 (.t 1),0,[]⟩,⟨some 7,
 none,.load false 1 (.t 6),0,[]⟩,⟨some 8,none,.lenS (.t 7),0,[]⟩,⟨some 9,none,.bin .gtr (.t 8) (.c (.v (.int .i64 1000))),0,[]⟩]) (.cond (.t 9) (.seq (.reg [⟨some 2,none,
 .mov (.c (.v (.int .i64 6))),0,[]⟩]) .ret) .skip)) (.seq (.seq (.reg [⟨some 3,none,.mov (.c (.v (.int .i64 0))),0,[]⟩]) (.block 0 (.loop (.seq (.seq (.reg [⟨some 10,
 none,.mov (.t 3),0,[]⟩,⟨some 11,none,.faddr 0 (.t 1),0,[]⟩,⟨some 12,none,.load false 1 (.t 11),0,[]⟩,⟨some 13,none,.lenS (.t 12),0,[]⟩,⟨some 14,none,.bin .lss (.t 10)
  (.t 13),0,[]⟩]) (.cond (.t 14) .skip (.exit 0))) (.seq (.block 1 (.seq (.seq (.reg [⟨some 17,none,.faddr 0 (.t 1),0,[]⟩,⟨some 18,none,.load false 1 (.t 17),0,[]⟩,
 ⟨some 19,none,.mov (.t 3),0,[]⟩,⟨some 20,none,.iaddr 6 (.t 18) (.t 19),0,[]⟩,⟨some 21,none,.faddr 0 (.t 20),0,[]⟩,⟨some 22,none,.load false 1 (.t 21),0,[]⟩,⟨some 23,
 none,.call (.c (.fn 39 [])) [.t 22],0,[]⟩,⟨some 24,none,.un .not (.t 23),0,[]⟩]) (.cond (.t 24) (.seq (.reg [⟨some 2,none,.mov (.c (.v (.int .i64 29))),0,[]⟩]) .ret)
  .skip)) (.seq (.seq (.reg [⟨some 4,none,.mov (.c (.v (.int .i64 0))),0,[]⟩]) (.block 2 (.loop (.seq (.seq (.reg [⟨some 25,none,.mov (.t 4),0,[]⟩,⟨some 26,none,
 .mov (.t 3),0,[]⟩,⟨some 27,none,.bin .lss (.t 25) (.t 26),0,[]⟩]) (.cond (.t 27) .skip (.exit 2))) (.seq (.block 3 (.seq (.dreg [12] [⟨some 30,none,.faddr 0 (.t 1),0,[]⟩
 ,⟨some 31,none,.load false 1 (.t 30),1,[0]⟩,⟨some 32,none,.mov (.t 4),2,[]⟩,⟨some 33,none,.iaddr 6 (.t 31) (.t 32),3,[2,1,0]⟩,⟨some 34,none,.faddr 0 (.t 33),4,[3,2,1,0]⟩
 ,⟨some 35,none,.load false 1 (.t 34),5,[4,3,2,1,0]⟩,⟨some 36,none,.faddr 0 (.t 1),6,[]⟩,⟨some 37,none,.load false 1 (.t 36),7,[6]⟩,⟨some 38,none,.mov (.t 3),8,[]⟩,
 ⟨some 39,none,.iaddr 6 (.t 37) (.t 38),9,[8,7,6]⟩,⟨some 40,none,.faddr 0 (.t 39),10,[9,8,7,6]⟩,⟨some 41,none,.load false 1 (.t 40),11,[10,9,8,7,6]⟩,⟨some 42,none,
 .bin .eql (.t 35) (.t 41),12,[11,10,9,8,7,6,5,4,3,2,1,0]⟩]) (.cond (.t 42) (.seq (.reg [⟨some 2,none,.mov (.c (.v (.int .i64 8))),0,[]⟩]) .ret) .skip))) (.reg [⟨some 28,
 none,.mov (.t 4),0,[]⟩,⟨some 29,none,.bin .add (.t 28) (.c (.v (.int .i64 1))),0,[]⟩,⟨some 4,none,.mov (.t 29),0,[]⟩])))))) (.seq (.dreg [7,0] [⟨some 43,none,
 .load true 6 (.t 1),0,[]⟩,⟨some 44,none,.faddr 0 (.t 1),1,[]⟩,⟨some 45,none,.load false 1 (.t 44),2,[1]⟩,⟨some 46,none,.mov (.t 3),3,[]⟩,⟨some 47,none,.iaddr 6 (.t 45)
  (.t 46),4,[3,2,1]⟩,⟨some 48,none,.faddr 1 (.t 47),5,[4,3,2,1]⟩,⟨some 49,none,.load true 5 (.t 48),6,[5,4,3,2,1]⟩,⟨some 50,none,.call (.c (.fn 53 [])) [.t 43,.t 49],7,
 [6,5,4,3,2,1,0]⟩,⟨some 5,none,.mov (.t 50),8,[7,6,5,4,3,2,1,0]⟩]) (.seq (.reg [⟨some 51,none,.mov (.t 5),0,[]⟩,⟨some 52,none,.bin .neq (.t 51) (.c (.v (.int .i64 0))),0,
 []⟩]) (.cond (.t 52) (.seq (.reg [⟨some 53,none,.mov (.t 5),0,[]⟩,⟨some 2,none,.mov (.t 53),0,[]⟩]) .ret) .skip)))))) (.reg [⟨some 15,none,.mov (.t 3),0,[]⟩,⟨some 16,
 none,.bin .add (.t 15) (.c (.v (.int .i64 1))),0,[]⟩,⟨some 3,none,.mov (.t 16),0,[]⟩])))))) (.seq (.reg [⟨some 54,none,.load true 6 (.t 1),0,[]⟩,⟨some 55,none,
 .faddr 1 (.t 1),0,[]⟩,⟨some 56,none,.load true 5 (.t 55),0,[]⟩,⟨some 57,none,.call (.c (.fn 53 [])) [.t 54,.t 56],0,[]⟩,⟨some 2,none,.mov (.t 57),0,[]⟩]) .ret)))⟩
theorem pf25_is : pfs 25 = some pf25 := by kernel_rfl
def pf26 : PF := ⟨22,[.t 4],.seq (.reg [⟨some 3,none,.box (.t 1),0,[]⟩,⟨some 4,none,.mov (.c (.v (.int .i64 0))),0,[]⟩]) (.seq (.dreg [7] [⟨some 5,none,.mov (.t 0),0,[]⟩,⟨some 6,none,
 .nilck (.t 5),1,[0]⟩,⟨some 7,none,.faddr 1 (.t 6),2,[1,0]⟩,⟨some 8,none,.load false 1 (.t 7),3,[2,1,0]⟩,⟨some 9,none,.load true 5 (.t 3),4,[]⟩,⟨some 10,none,.lenS (.t 8)
 ,5,[3,2,1,0]⟩,⟨some 11,none,.bsl (.agg [.v (.int .i64 0),.v (.int .i64 0),.v (.string (ByteArray.mk #[])),.sl [] .nil,.sl [] .nil]) 1 [(0,5,.c (.agg [.v (.int .i64 0),
 .v (.int .i64 0),.v (.string (ByteArray.mk #[])),.sl [] .nil,.sl [] .nil]))],6,[]⟩,⟨some 12,none,.appl 5 (.t 8) (.t 11) (.t 10) (.t 9) (.t 13),7,[]⟩,⟨some 14,none,
 .faddr 0 (.t 5),0,[]⟩,⟨some 15,none,.faddr 1 (.t 14),0,[]⟩,⟨none,none,.store 1 (.t 15) (.t 12),0,[]⟩,⟨some 13,none,.mov (.c .unk),0,[]⟩]) (.seq (.reg [⟨some 16,none,
 .mov (.t 0),0,[]⟩,⟨some 17,none,.nilck (.t 16),0,[]⟩,⟨some 18,none,.faddr 1 (.t 17),0,[]⟩,⟨some 19,none,.load false 1 (.t 18),0,[]⟩,⟨some 20,none,.lenS (.t 19),0,[]⟩,
 ⟨some 21,none,.bin .sub (.t 20) (.c (.v (.int .i64 1))),0,[]⟩,⟨some 4,none,.mov (.t 21),0,[]⟩]) .ret))⟩
theorem pf26_is : pfs 26 = some pf26 := by kernel_rfl
def pf27 : PF := ⟨159,[],.seq (.reg [⟨some 3,none,.box (.t 1),0,[]⟩]) (.seq (.reg [⟨some 6,none,.faddr 0 (.t 3),0,[]⟩,⟨some 7,none,.load false 1 (.t 6),0,[]⟩])
  (.block 0 (.seq (.reg [⟨some 9,none,.bin .eql (.t 7) (.c (.v (.int .i64 0))),0,[]⟩,⟨some 8,none,.mov (.t 9),0,[]⟩]) (.cond (.t 8) (.reg [⟨some 10,none,.mov (.t 0),0,[]⟩
 ,⟨some 11,none,.faddr 1 (.t 3),0,[]⟩,⟨some 12,none,.load false 1 (.t 11),0,[]⟩,⟨some 13,none,.call (.c (.fn 28 [])) [.t 10,.c (.v (.int .i64 0)),.t 12,
 .c (.v (.int .i64 0)),.c (.v (.string (ByteArray.mk #[])))],0,[]⟩]) (.seq (.reg [⟨some 15,none,.bin .eql (.t 7) (.c (.v (.int .i64 1))),0,[]⟩,⟨some 14,none,.mov (.t 15),
 0,[]⟩]) (.cond (.t 14) (.reg [⟨some 16,none,.mov (.t 0),0,[]⟩,⟨some 17,none,.mov (.t 0),0,[]⟩,⟨some 18,none,.faddr 4 (.t 3),0,[]⟩,⟨some 19,none,.load false 1 (.t 18),0,
 []⟩,⟨some 20,none,.iaddr 5 (.t 19) (.c (.v (.int .i64 0))),0,[]⟩,⟨some 21,none,.load true 5 (.t 20),0,[]⟩,⟨some 22,none,.call (.c (.fn 26 [])) [.t 17,.t 21],0,[]⟩,
 ⟨some 23,none,.call (.c (.fn 28 [])) [.t 16,.c (.v (.int .i64 1)),.t 22,.c (.v (.int .i64 0)),.c (.v (.string (ByteArray.mk #[])))],0,[]⟩]) (.seq (.reg [⟨some 25,none,
 .bin .eql (.t 7) (.c (.v (.int .i64 2))),0,[]⟩,⟨some 24,none,.mov (.t 25),0,[]⟩]) (.cond (.t 24) (.seq (.reg [⟨some 26,none,.mov (.t 0),0,[]⟩,⟨some 27,none,
 .faddr 4 (.t 3),0,[]⟩,⟨some 28,none,.load false 1 (.t 27),0,[]⟩,⟨some 29,none,.call (.c (.fn 54 [])) [.t 26,.t 28],0,[]⟩]) (.reg [⟨some 30,none,.mov (.t 0),0,[]⟩,
 ⟨some 31,none,.call (.c (.fn 28 [])) [.t 30,.c (.v (.int .i64 2)),.c (.v (.int .i64 0)),.c (.v (.int .i64 0)),.c (.v (.string (ByteArray.mk #[])))],0,[]⟩]))
  (.seq (.reg [⟨some 33,none,.bin .eql (.t 7) (.c (.v (.int .i64 3))),0,[]⟩,⟨some 32,none,.mov (.t 33),0,[]⟩]) (.cond (.t 32) (.seq (.reg [⟨some 34,none,.mov (.t 0),0,[]⟩
 ,⟨some 35,none,.faddr 4 (.t 3),0,[]⟩,⟨some 36,none,.load false 1 (.t 35),0,[]⟩,⟨some 37,none,.call (.c (.fn 54 [])) [.t 34,.t 36],0,[]⟩]) (.reg [⟨some 38,none,
 .mov (.t 0),0,[]⟩,⟨some 39,none,.faddr 1 (.t 3),0,[]⟩,⟨some 40,none,.load false 1 (.t 39),0,[]⟩,⟨some 41,none,.faddr 4 (.t 3),0,[]⟩,⟨some 42,none,.load false 1 (.t 41),
 0,[]⟩,⟨some 43,none,.lenS (.t 42),0,[]⟩,⟨some 44,none,.faddr 2 (.t 3),0,[]⟩,⟨some 45,none,.load false 1 (.t 44),0,[]⟩,⟨some 46,none,.call (.c (.fn 28 [])) [.t 38,
 .c (.v (.int .i64 4)),.t 40,.t 43,.t 45],0,[]⟩])) (.seq (.reg [⟨some 48,none,.bin .eql (.t 7) (.c (.v (.int .i64 4))),0,[]⟩,⟨some 47,none,.mov (.t 48),0,[]⟩])
  (.cond (.t 47) (.seq (.reg [⟨some 49,none,.mov (.t 0),0,[]⟩,⟨some 50,none,.faddr 4 (.t 3),0,[]⟩,⟨some 51,none,.load false 1 (.t 50),0,[]⟩,⟨some 52,none,.iaddr 5 (.t 51)
  (.c (.v (.int .i64 0))),0,[]⟩,⟨some 53,none,.load true 5 (.t 52),0,[]⟩,⟨some 54,none,.call (.c (.fn 27 [])) [.t 49,.t 53],0,[]⟩]) (.seq (.reg [⟨some 55,none,.mov (.t 0)
 ,0,[]⟩,⟨some 56,none,.faddr 3 (.t 3),0,[]⟩,⟨some 57,none,.load false 1 (.t 56),0,[]⟩,⟨some 58,none,.lenS (.t 57),0,[]⟩,⟨some 59,none,.call (.c (.fn 28 [])) [.t 55,
 .c (.v (.int .i64 5)),.t 58,.c (.v (.int .i64 0)),.c (.v (.string (ByteArray.mk #[])))],0,[]⟩]) (.seq (.reg [⟨some 4,none,.mov (.c (.v (.int .i64 0))),0,[]⟩])
  (.block 1 (.loop (.seq (.seq (.reg [⟨some 60,none,.mov (.t 4),0,[]⟩,⟨some 61,none,.faddr 3 (.t 3),0,[]⟩,⟨some 62,none,.load false 1 (.t 61),0,[]⟩,⟨some 63,none,
 .lenS (.t 62),0,[]⟩,⟨some 64,none,.bin .lss (.t 60) (.t 63),0,[]⟩]) (.cond (.t 64) .skip (.exit 1))) (.seq (.block 2 (.dreg [14014] [⟨some 67,none,.mov (.t 0),0,[]⟩,
 ⟨some 68,none,.mov (.t 0),1,[]⟩,⟨some 69,none,.faddr 4 (.t 3),2,[]⟩,⟨some 70,none,.load false 1 (.t 69),3,[2]⟩,⟨some 71,none,.mov (.t 4),4,[]⟩,⟨some 72,none,
 .bin .add (.t 71) (.c (.v (.int .i64 1))),5,[4]⟩,⟨some 73,none,.iaddr 5 (.t 70) (.t 72),6,[5,4,3,2]⟩,⟨some 74,none,.load true 5 (.t 73),7,[6,5,4,3,2]⟩,⟨some 76,none,
 .faddr 3 (.t 3),9,[]⟩,⟨some 77,none,.load false 1 (.t 76),10,[9]⟩,⟨some 78,none,.mov (.t 4),11,[]⟩,⟨some 79,none,.iaddr 1 (.t 77) (.t 78),12,[11,10,9]⟩,⟨some 80,none,
 .load false 1 (.t 79),13,[12,11,10,9]⟩,⟨some 75,none,.call (.c (.fn 26 [])) [.t 68,.t 74],8,[7,6,5,4,3,2,1]⟩,⟨some 81,none,.call (.c (.fn 28 [])) [.t 67,
 .c (.v (.int .i64 6)),.t 75,.t 80,.c (.v (.string (ByteArray.mk #[])))],14,[13,12,11,10,9,8,7,6,5,4,3,2,1,0]⟩])) (.reg [⟨some 65,none,.mov (.t 4),0,[]⟩,⟨some 66,none,
 .bin .add (.t 65) (.c (.v (.int .i64 1))),0,[]⟩,⟨some 4,none,.mov (.t 66),0,[]⟩])))))))) (.seq (.reg [⟨some 83,none,.bin .eql (.t 7) (.c (.v (.int .i64 5))),0,[]⟩,
 ⟨some 82,none,.mov (.t 83),0,[]⟩]) (.cond (.t 82) (.seq (.reg [⟨some 5,none,.mov (.c (.v (.int .i64 0))),0,[]⟩]) (.seq (.block 3 (.loop (.seq (.seq (.dreg [6,0,10,0]
  [⟨some 84,none,.mov (.t 5),0,[]⟩,⟨some 85,none,.mov (.t 0),1,[]⟩,⟨some 86,none,.nilck (.t 85),2,[1]⟩,⟨some 87,none,.faddr 0 (.t 86),3,[2,1]⟩,⟨some 88,none,
 .load false 1 (.t 87),4,[3,2,1]⟩,⟨some 89,none,.lenS (.t 88),5,[4,3,2,1]⟩,⟨some 90,none,.bin .lss (.t 84) (.t 89),6,[5,4,3,2,1,0]⟩,⟨some 91,none,.mov (.t 90),7,[6,5,4,3,
 2,1,0]⟩,⟨some 92,some (91,true),.mov (.t 0),8,[7,6,5,4,3,2,1,0]⟩,⟨some 93,some (91,true),.nilck (.t 92),9,[8,7,6,5,4,3,2,1,0]⟩,⟨some 94,some (91,true),.faddr 0 (.t 93),
 10,[9,8,7,6,5,4,3,2,1,0]⟩,⟨some 95,some (91,true),.load false 1 (.t 94),11,[10,9,8,7,6,5,4,3,2,1,0]⟩,⟨some 96,some (91,true),.mov (.t 5),12,[7,6,5,4,3,2,1,0]⟩,⟨some 97,
 some (91,true),.iaddr 6 (.t 95) (.t 96),13,[12,11,10,9,8,7,6,5,4,3,2,1,0]⟩,⟨some 98,some (91,true),.faddr 0 (.t 97),14,[13,12,11,10,9,8,7,6,5,4,3,2,1,0]⟩,⟨some 99,
 some (91,true),.load false 1 (.t 98),15,[14,13,12,11,10,9,8,7,6,5,4,3,2,1,0]⟩,⟨some 100,some (91,true),.faddr 2 (.t 3),16,[7,6,5,4,3,2,1,0]⟩,⟨some 101,some (91,true),
 .load false 1 (.t 100),17,[16,7,6,5,4,3,2,1,0]⟩,⟨some 102,some (91,true),.bin .neq (.t 99) (.t 101),18,[17,16,15,14,13,12,11,10,9,8,7,6,5,4,3,2,1,0]⟩,⟨some 103,none,
 .pick (.t 91) (.t 102) (.c (.v (.bool false))),19,[18,17,16,15,14,13,12,11,10,9,8,7,6,5,4,3,2,1,0]⟩]) (.cond (.t 103) .skip (.exit 3))) (.block 4 (.reg [⟨some 104,none,
 .mov (.t 5),0,[]⟩,⟨some 105,none,.bin .add (.t 104) (.c (.v (.int .i64 1))),0,[]⟩,⟨some 5,none,.mov (.t 105),0,[]⟩]))))) (.reg [⟨some 106,none,.mov (.t 0),0,[]⟩,
 ⟨some 107,none,.mov (.t 5),0,[]⟩,⟨some 108,none,.call (.c (.fn 28 [])) [.t 106,.c (.v (.int .i64 7)),.t 107,.c (.v (.int .i64 0)),.c (.v (.string (ByteArray.mk #[])))],
 0,[]⟩]))) (.seq (.reg [⟨some 110,none,.bin .eql (.t 7) (.c (.v (.int .i64 6))),0,[]⟩,⟨some 109,none,.mov (.t 110),0,[]⟩]) (.cond (.t 109) (.reg [⟨some 111,none,
 .mov (.t 0),0,[]⟩,⟨some 112,none,.call (.c (.fn 28 [])) [.t 111,.c (.v (.int .i64 8)),.c (.v (.int .i64 0)),.c (.v (.int .i64 0)),.c (.v (.string (ByteArray.mk #[])))],
 0,[]⟩]) (.seq (.reg [⟨some 114,none,.bin .eql (.t 7) (.c (.v (.int .i64 7))),0,[]⟩,⟨some 113,none,.mov (.t 114),0,[]⟩]) (.cond (.t 113) (.seq (.reg [⟨some 115,none,
 .mov (.t 0),0,[]⟩,⟨some 116,none,.faddr 4 (.t 3),0,[]⟩,⟨some 117,none,.load false 1 (.t 116),0,[]⟩,⟨some 118,none,.iaddr 5 (.t 117) (.c (.v (.int .i64 0))),0,[]⟩,
 ⟨some 119,none,.load true 5 (.t 118),0,[]⟩,⟨some 120,none,.call (.c (.fn 27 [])) [.t 115,.t 119],0,[]⟩]) (.seq (.reg [⟨some 121,none,.mov (.t 0),0,[]⟩,⟨some 122,none,
 .call (.c (.fn 28 [])) [.t 121,.c (.v (.int .i64 9)),.c (.v (.int .i64 0)),.c (.v (.int .i64 0)),.c (.v (.string (ByteArray.mk #[])))],0,[]⟩]) (.seq (.reg [⟨some 123,
 none,.mov (.t 0),0,[]⟩,⟨some 124,none,.faddr 4 (.t 3),0,[]⟩,⟨some 125,none,.load false 1 (.t 124),0,[]⟩,⟨some 126,none,.iaddr 5 (.t 125) (.c (.v (.int .i64 1))),0,[]⟩,
 ⟨some 127,none,.load true 5 (.t 126),0,[]⟩,⟨some 128,none,.call (.c (.fn 27 [])) [.t 123,.t 127],0,[]⟩]) (.reg [⟨some 129,none,.mov (.t 0),0,[]⟩,⟨some 130,none,
 .call (.c (.fn 28 [])) [.t 129,.c (.v (.int .i64 10)),.c (.v (.int .i64 0)),.c (.v (.int .i64 0)),.c (.v (.string (ByteArray.mk #[])))],0,[]⟩]))))
  (.seq (.reg [⟨some 132,none,.bin .eql (.t 7) (.c (.v (.int .i64 8))),0,[]⟩,⟨some 131,none,.mov (.t 132),0,[]⟩]) (.cond (.t 131) (.seq (.reg [⟨some 133,none,.mov (.t 0),
 0,[]⟩,⟨some 134,none,.faddr 4 (.t 3),0,[]⟩,⟨some 135,none,.load false 1 (.t 134),0,[]⟩,⟨some 136,none,.call (.c (.fn 54 [])) [.t 133,.t 135],0,[]⟩]) (.reg [⟨some 137,
 none,.mov (.t 0),0,[]⟩,⟨some 138,none,.call (.c (.fn 28 [])) [.t 137,.c (.v (.int .i64 11)),.c (.v (.int .i64 0)),.c (.v (.int .i64 0)),.c (.v (.string (ByteArray.mk #[]
 )))],0,[]⟩])) (.seq (.reg [⟨some 140,none,.bin .eql (.t 7) (.c (.v (.int .i64 9))),0,[]⟩,⟨some 139,none,.mov (.t 140),0,[]⟩]) (.cond (.t 139) (.seq (.reg [⟨some 141,
 none,.mov (.t 0),0,[]⟩,⟨some 142,none,.faddr 4 (.t 3),0,[]⟩,⟨some 143,none,.load false 1 (.t 142),0,[]⟩,⟨some 144,none,.call (.c (.fn 54 [])) [.t 141,.t 143],0,[]⟩])
  (.reg [⟨some 145,none,.mov (.t 0),0,[]⟩,⟨some 146,none,.call (.c (.fn 28 [])) [.t 145,.c (.v (.int .i64 12)),.c (.v (.int .i64 0)),.c (.v (.int .i64 0)),
 .c (.v (.string (ByteArray.mk #[])))],0,[]⟩])) (.seq (.reg [⟨some 148,none,.bin .eql (.t 7) (.c (.v (.int .i64 10))),0,[]⟩,⟨some 147,none,.mov (.t 148),0,[]⟩])
  (.cond (.t 147) (.seq (.reg [⟨some 149,none,.mov (.t 0),0,[]⟩,⟨some 150,none,.faddr 4 (.t 3),0,[]⟩,⟨some 151,none,.load false 1 (.t 150),0,[]⟩,⟨some 152,none,
 .call (.c (.fn 54 [])) [.t 149,.t 151],0,[]⟩]) (.reg [⟨some 153,none,.mov (.t 0),0,[]⟩,⟨some 154,none,.call (.c (.fn 28 [])) [.t 153,.c (.v (.int .i64 13)),
 .c (.v (.int .i64 0)),.c (.v (.int .i64 0)),.c (.v (.string (ByteArray.mk #[])))],0,[]⟩])) (.seq (.reg [⟨some 156,none,.bin .eql (.t 7) (.c (.v (.int .i64 11))),0,[]⟩,
 ⟨some 155,none,.mov (.t 156),0,[]⟩]) (.cond (.t 155) (.reg [⟨some 157,none,.mov (.t 0),0,[]⟩,⟨some 158,none,.call (.c (.fn 28 [])) [.t 157,.c (.v (.int .i64 14)),
 .c (.v (.int .i64 0)),.c (.v (.int .i64 0)),.c (.v (.string (ByteArray.mk #[])))],0,[]⟩]) .skip))))))))))))))))))))))))))⟩
theorem pf27_is : pfs 27 = some pf27 := by kernel_rfl
def pf28 : PF := ⟨24,[],.reg [⟨some 10,none,.mov (.t 0),0,[]⟩,⟨some 11,none,.mov (.t 0),0,[]⟩,⟨some 12,none,.nilck (.t 11),0,[]⟩,⟨some 13,none,.faddr 2 (.t 12),0,[]⟩,⟨some 14,none,
 .load false 1 (.t 13),0,[]⟩,⟨some 15,none,.mov (.t 1),0,[]⟩,⟨some 16,none,.mov (.t 2),0,[]⟩,⟨some 17,none,.mov (.t 3),0,[]⟩,⟨some 18,none,.mov (.t 4),0,[]⟩,⟨some 19,
 none,.build [.v (.int .i64 0),.v (.int .i64 0),.v (.int .i64 0),.v (.string (ByteArray.mk #[]))] [(0,1,.t 15),(1,1,.t 16),(2,1,.t 17),(3,1,.t 18)],0,[]⟩,⟨some 20,none,
 .bsl (.agg [.v (.int .i64 0),.v (.int .i64 0),.v (.int .i64 0),.v (.string (ByteArray.mk #[]))]) 1 [(0,4,.t 19)],0,[]⟩,⟨some 21,none,.app 4 none (.t 14) (.t 20),0,[]⟩,
 ⟨some 22,none,.nilck (.t 10),0,[]⟩,⟨some 23,none,.faddr 2 (.t 22),0,[]⟩,⟨none,none,.store 1 (.t 23) (.t 21),0,[]⟩]⟩
theorem pf28_is : pfs 28 = some pf28 := by kernel_rfl
def pf35 : PF := ⟨21,[.t 2],.seq (.reg [⟨some 1,none,.box (.t 0),0,[]⟩,⟨some 2,none,.mov (.c (.v (.int .i64 0))),0,[]⟩]) (.seq (.reg [⟨some 3,none,.mov (.c (.v (.int .i64 1))),0,[]⟩])
  (.seq (.seq (.reg [⟨some 4,none,.mov (.c (.v (.int .i64 0))),0,[]⟩]) (.block 0 (.loop (.seq (.seq (.reg [⟨some 5,none,.mov (.t 4),0,[]⟩,⟨some 6,none,.faddr 4 (.t 1),0,
 []⟩,⟨some 7,none,.load false 1 (.t 6),0,[]⟩,⟨some 8,none,.lenS (.t 7),0,[]⟩,⟨some 9,none,.bin .lss (.t 5) (.t 8),0,[]⟩]) (.cond (.t 9) .skip (.exit 0)))
  (.seq (.block 1 (.reg [⟨some 12,none,.mov (.t 3),0,[]⟩,⟨some 13,none,.faddr 4 (.t 1),0,[]⟩,⟨some 14,none,.load false 1 (.t 13),0,[]⟩,⟨some 15,none,.mov (.t 4),0,[]⟩,
 ⟨some 16,none,.iaddr 5 (.t 14) (.t 15),0,[]⟩,⟨some 17,none,.load true 5 (.t 16),0,[]⟩,⟨some 18,none,.call (.c (.fn 35 [])) [.t 17],0,[]⟩,⟨some 19,none,.bin .add (.t 12)
  (.t 18),0,[]⟩,⟨some 3,none,.mov (.t 19),0,[]⟩])) (.reg [⟨some 10,none,.mov (.t 4),0,[]⟩,⟨some 11,none,.bin .add (.t 10) (.c (.v (.int .i64 1))),0,[]⟩,⟨some 4,none,
 .mov (.t 11),0,[]⟩])))))) (.seq (.reg [⟨some 20,none,.mov (.t 3),0,[]⟩,⟨some 2,none,.mov (.t 20),0,[]⟩]) .ret)))⟩
theorem pf35_is : pfs 35 = some pf35 := by kernel_rfl
def pf38 : PF := ⟨102,[.t 2],.seq (.reg [⟨some 1,none,.box (.t 0),0,[]⟩,⟨some 2,none,.mov (.c (.v (.bool false))),0,[]⟩]) (.seq (.reg [⟨some 9,none,.load true 5 (.t 1),0,[]⟩,⟨some 10,
 none,.call (.c (.fn 79 [])) [.t 9],0,[]⟩,⟨some 8,none,.mov (.t 10),0,[]⟩,⟨some 11,none,.ext (.t 8) 0,0,[]⟩,⟨some 12,none,.ext (.t 8) 1,0,[]⟩,⟨some 13,none,.ext (.t 8) 2,
 0,[]⟩,⟨some 3,none,.mov (.t 11),0,[]⟩,⟨some 4,none,.mov (.t 12),0,[]⟩,⟨some 5,none,.mov (.t 13),0,[]⟩]) (.seq (.seq (.reg [⟨some 14,none,.mov (.t 5),0,[]⟩,⟨some 15,none,
 .un .not (.t 14),0,[]⟩,⟨some 16,none,.mov (.t 15),0,[]⟩,⟨some 17,some (16,false),.faddr 4 (.t 1),0,[]⟩,⟨some 18,some (16,false),.load false 1 (.t 17),0,[]⟩,⟨some 19,
 some (16,false),.lenS (.t 18),0,[]⟩,⟨some 20,some (16,false),.mov (.t 3),0,[]⟩,⟨some 21,some (16,false),.bin .lss (.t 19) (.t 20),0,[]⟩,⟨some 22,none,.pick (.t 16)
  (.c (.v (.bool true))) (.t 21),0,[]⟩,⟨some 23,none,.mov (.t 22),0,[]⟩,⟨some 24,some (23,false),.faddr 4 (.t 1),0,[]⟩,⟨some 25,some (23,false),.load false 1 (.t 24),0,[]
 ⟩,⟨some 26,some (23,false),.lenS (.t 25),0,[]⟩,⟨some 27,some (23,false),.mov (.t 4),0,[]⟩,⟨some 28,some (23,false),.bin .gtr (.t 26) (.t 27),0,[]⟩,⟨some 29,none,
 .pick (.t 23) (.c (.v (.bool true))) (.t 28),0,[]⟩,⟨some 30,none,.mov (.t 29),0,[]⟩,⟨some 31,some (30,false),.faddr 3 (.t 1),0,[]⟩,⟨some 32,some (30,false),
 .load false 1 (.t 31),0,[]⟩,⟨some 33,some (30,false),.lenS (.t 32),0,[]⟩,⟨some 34,some (30,false),.bin .gtr (.t 33) (.c (.v (.int .i64 32))),0,[]⟩,⟨some 35,none,
 .pick (.t 30) (.c (.v (.bool true))) (.t 34),0,[]⟩]) (.cond (.t 35) (.seq (.reg [⟨some 2,none,.mov (.c (.v (.bool false))),0,[]⟩]) .ret) .skip))
  (.seq (.seq (.reg [⟨some 6,none,.mov (.c (.v (.int .i64 0))),0,[]⟩]) (.block 0 (.loop (.seq (.seq (.reg [⟨some 36,none,.mov (.t 6),0,[]⟩,⟨some 37,none,.faddr 3 (.t 1),
 0,[]⟩,⟨some 38,none,.load false 1 (.t 37),0,[]⟩,⟨some 39,none,.lenS (.t 38),0,[]⟩,⟨some 40,none,.bin .lss (.t 36) (.t 39),0,[]⟩]) (.cond (.t 40) .skip (.exit 0)))
  (.seq (.block 1 (.seq (.reg [⟨some 43,none,.faddr 3 (.t 1),0,[]⟩,⟨some 44,none,.load false 1 (.t 43),0,[]⟩,⟨some 45,none,.mov (.t 6),0,[]⟩,⟨some 46,none,
 .iaddr 1 (.t 44) (.t 45),0,[]⟩,⟨some 47,none,.load false 1 (.t 46),0,[]⟩,⟨some 48,none,.bin .lss (.t 47) (.c (.v (.int .i64 0))),0,[]⟩,⟨some 49,none,.mov (.t 48),0,[]⟩,
 ⟨some 50,some (49,false),.faddr 3 (.t 1),0,[]⟩,⟨some 51,some (49,false),.load false 1 (.t 50),0,[]⟩,⟨some 52,some (49,false),.mov (.t 6),0,[]⟩,⟨some 53,some (49,false),
 .iaddr 1 (.t 51) (.t 52),0,[]⟩,⟨some 54,some (49,false),.load false 1 (.t 53),0,[]⟩,⟨some 55,some (49,false),.bin .gtr (.t 54) (.c (.v (.int .i64 64))),0,[]⟩,⟨some 56,
 none,.pick (.t 49) (.c (.v (.bool true))) (.t 55),0,[]⟩]) (.cond (.t 56) (.seq (.reg [⟨some 2,none,.mov (.c (.v (.bool false))),0,[]⟩]) .ret) .skip))) (.reg [⟨some 41,
 none,.mov (.t 6),0,[]⟩,⟨some 42,none,.bin .add (.t 41) (.c (.v (.int .i64 1))),0,[]⟩,⟨some 6,none,.mov (.t 42),0,[]⟩])))))) (.seq (.reg [⟨some 57,none,.faddr 0 (.t 1),0,
 []⟩,⟨some 58,none,.load false 1 (.t 57),0,[]⟩,⟨some 59,none,.bin .eql (.t 58) (.c (.v (.int .i64 3))),0,[]⟩,⟨some 60,none,.mov (.t 59),0,[]⟩,⟨some 61,some (60,false),
 .faddr 0 (.t 1),0,[]⟩,⟨some 62,some (60,false),.load false 1 (.t 61),0,[]⟩,⟨some 63,some (60,false),.bin .eql (.t 62) (.c (.v (.int .i64 5))),0,[]⟩,⟨some 64,none,
 .pick (.t 60) (.c (.v (.bool true))) (.t 63),0,[]⟩,⟨some 7,none,.mov (.t 64),0,[]⟩]) (.seq (.seq (.reg [⟨some 65,none,.mov (.t 7),0,[]⟩,⟨some 66,none,.un .not (.t 65),0,
 []⟩,⟨some 67,none,.mov (.t 66),0,[]⟩,⟨some 68,some (67,true),.faddr 2 (.t 1),0,[]⟩,⟨some 69,some (67,true),.load false 1 (.t 68),0,[]⟩,⟨some 70,some (67,true),
 .bin .neq (.t 69) (.c (.v (.string (ByteArray.mk #[])))),0,[]⟩,⟨some 71,none,.pick (.t 67) (.t 70) (.c (.v (.bool false))),0,[]⟩,⟨some 72,none,.mov (.t 71),0,[]⟩,
 ⟨some 73,some (72,false),.faddr 0 (.t 1),0,[]⟩,⟨some 74,some (72,false),.load false 1 (.t 73),0,[]⟩,⟨some 75,some (72,false),.bin .neq (.t 74) (.c (.v (.int .i64 4))),0,
 []⟩,⟨some 76,some (72,false),.mov (.t 75),0,[]⟩,⟨some 77,some (76,true),.faddr 3 (.t 1),0,[]⟩,⟨some 78,some (76,true),.load false 1 (.t 77),0,[]⟩,⟨some 79,some (76,true)
 ,.lenS (.t 78),0,[]⟩,⟨some 80,some (76,true),.bin .gtr (.t 79) (.c (.v (.int .i64 0))),0,[]⟩,⟨some 81,some (72,false),.pick (.t 76) (.t 80) (.c (.v (.bool false))),0,[]⟩
 ,⟨some 82,none,.pick (.t 72) (.c (.v (.bool true))) (.t 81),0,[]⟩,⟨some 83,none,.mov (.t 82),0,[]⟩,⟨some 84,some (83,false),.faddr 1 (.t 1),0,[]⟩,⟨some 85,some (83,
 false),.load false 1 (.t 84),0,[]⟩,⟨some 86,some (83,false),.bin .lss (.t 85) (.c (.v (.int .i64 0))),0,[]⟩,⟨some 87,none,.pick (.t 83) (.c (.v (.bool true))) (.t 86),0,
 []⟩]) (.cond (.t 87) (.seq (.reg [⟨some 2,none,.mov (.c (.v (.bool false))),0,[]⟩]) .ret) .skip)) (.seq (.seq (.reg [⟨some 88,none,.faddr 0 (.t 1),0,[]⟩,⟨some 89,none,
 .load false 1 (.t 88),0,[]⟩,⟨some 90,none,.bin .eql (.t 89) (.c (.v (.int .i64 3))),0,[]⟩]) (.cond (.t 90) (.seq (.reg [⟨some 91,none,.faddr 1 (.t 1),0,[]⟩,⟨some 92,
 none,.load false 1 (.t 91),0,[]⟩,⟨some 93,none,.bin .lss (.t 92) (.c (.v (.int .i64 32))),0,[]⟩,⟨some 2,none,.mov (.t 93),0,[]⟩]) .ret) .skip)) (.seq (.reg [⟨some 94,
 none,.faddr 0 (.t 1),0,[]⟩,⟨some 95,none,.load false 1 (.t 94),0,[]⟩,⟨some 96,none,.bin .eql (.t 95) (.c (.v (.int .i64 0))),0,[]⟩,⟨some 97,none,.mov (.t 96),0,[]⟩,
 ⟨some 98,some (97,false),.faddr 1 (.t 1),0,[]⟩,⟨some 99,some (97,false),.load false 1 (.t 98),0,[]⟩,⟨some 100,some (97,false),.bin .eql (.t 99) (.c (.v (.int .i64 0))),
 0,[]⟩,⟨some 101,none,.pick (.t 97) (.c (.v (.bool true))) (.t 100),0,[]⟩,⟨some 2,none,.mov (.t 101),0,[]⟩]) .ret)))))))⟩
theorem pf38_is : pfs 38 = some pf38 := by kernel_rfl
def pf39 : PF := ⟨45,[.t 2],.seq (.reg [⟨some 2,none,.mov (.c (.v (.bool false))),0,[]⟩]) (.seq (.seq (.reg [⟨some 6,none,.mov (.t 0),0,[]⟩,⟨some 7,none,.bin .eql (.t 6)
  (.c (.v (.string (ByteArray.mk #[])))),0,[]⟩,⟨some 8,none,.mov (.t 7),0,[]⟩,⟨some 9,some (8,false),.mov (.t 0),0,[]⟩,⟨some 10,some (8,false),.lenT (.t 9),0,[]⟩,
 ⟨some 11,some (8,false),.bin .gtr (.t 10) (.c (.v (.int .i64 64))),0,[]⟩,⟨some 12,none,.pick (.t 8) (.c (.v (.bool true))) (.t 11),0,[]⟩]) (.cond (.t 12)
  (.seq (.reg [⟨some 2,none,.mov (.c (.v (.bool false))),0,[]⟩]) .ret) .skip)) (.seq (.reg [⟨some 3,none,.mov (.c (.v (.bool true))),0,[]⟩]) (.seq (.seq (.reg [⟨some 4,
 none,.mov (.c (.v (.int .i64 0))),0,[]⟩]) (.block 0 (.loop (.seq (.seq (.reg [⟨some 13,none,.mov (.t 4),0,[]⟩,⟨some 14,none,.mov (.t 0),0,[]⟩,⟨some 15,none,.lenT (.t 14)
 ,0,[]⟩,⟨some 16,none,.bin .lss (.t 13) (.t 15),0,[]⟩]) (.cond (.t 16) .skip (.exit 0))) (.seq (.block 1 (.seq (.reg [⟨some 19,none,.mov (.t 0),0,[]⟩,⟨some 20,none,
 .mov (.t 4),0,[]⟩,⟨some 21,none,.idxS (.t 19) (.t 20),0,[]⟩,⟨some 5,none,.mov (.t 21),0,[]⟩]) (.seq (.seq (.reg [⟨some 22,none,.mov (.t 3),0,[]⟩]) (.cond (.t 22)
  (.seq (.seq (.reg [⟨some 23,none,.mov (.t 5),0,[]⟩,⟨some 24,none,.call (.c (.fn 80 [])) [.t 23],0,[]⟩,⟨some 25,none,.un .not (.t 24),0,[]⟩]) (.cond (.t 25)
  (.seq (.reg [⟨some 2,none,.mov (.c (.v (.bool false))),0,[]⟩]) .ret) .skip)) (.seq (.reg [⟨some 3,none,.mov (.c (.v (.bool false))),0,[]⟩]) (.exit 1))) .skip))
  (.seq (.seq (.reg [⟨some 26,none,.mov (.t 5),0,[]⟩,⟨some 27,none,.bin .eql (.t 26) (.c (.v (.int .u8 46))),0,[]⟩]) (.cond (.t 27) (.seq (.reg [⟨some 3,none,
 .mov (.c (.v (.bool true))),0,[]⟩]) (.exit 1)) .skip)) (.seq (.reg [⟨some 28,none,.mov (.t 5),0,[]⟩,⟨some 29,none,.call (.c (.fn 80 [])) [.t 28],0,[]⟩,⟨some 30,none,
 .un .not (.t 29),0,[]⟩,⟨some 31,none,.mov (.t 30),0,[]⟩,⟨some 32,some (31,true),.mov (.t 5),0,[]⟩,⟨some 33,some (31,true),.bin .neq (.t 32) (.c (.v (.int .u8 39))),0,[]⟩
 ,⟨some 34,none,.pick (.t 31) (.t 33) (.c (.v (.bool false))),0,[]⟩,⟨some 35,none,.mov (.t 34),0,[]⟩,⟨some 36,some (35,true),.mov (.t 5),0,[]⟩,⟨some 37,some (35,true),
 .bin .lss (.t 36) (.c (.v (.int .u8 48))),0,[]⟩,⟨some 38,some (35,true),.mov (.t 37),0,[]⟩,⟨some 39,some (38,false),.mov (.t 5),0,[]⟩,⟨some 40,some (38,false),
 .bin .gtr (.t 39) (.c (.v (.int .u8 57))),0,[]⟩,⟨some 41,some (35,true),.pick (.t 38) (.c (.v (.bool true))) (.t 40),0,[]⟩,⟨some 42,none,.pick (.t 35) (.t 41)
  (.c (.v (.bool false))),0,[]⟩]) (.cond (.t 42) (.seq (.reg [⟨some 2,none,.mov (.c (.v (.bool false))),0,[]⟩]) .ret) .skip)))))) (.reg [⟨some 17,none,.mov (.t 4),0,[]⟩,
 ⟨some 18,none,.bin .add (.t 17) (.c (.v (.int .i64 1))),0,[]⟩,⟨some 4,none,.mov (.t 18),0,[]⟩])))))) (.seq (.reg [⟨some 43,none,.mov (.t 3),0,[]⟩,⟨some 44,none,
 .un .not (.t 43),0,[]⟩,⟨some 2,none,.mov (.t 44),0,[]⟩]) .ret))))⟩
theorem pf39_is : pfs 39 = some pf39 := by kernel_rfl
def pf42 : PF := ⟨19,[.t 4],.seq (.reg [⟨some 4,none,.mov (.c (.v (.int .i64 0))),0,[]⟩]) (.seq (.seq (.reg [⟨some 6,none,.mov (.t 0),0,[]⟩,⟨some 7,none,.lenS (.t 6),0,[]⟩,⟨some 8,none,
 .mov (.c (.v (.int .i64 0))),0,[]⟩]) (.block 0 (.loop (.seq (.reg [⟨some 9,none,.bin .lss (.t 8) (.t 7),0,[]⟩]) (.seq (.cond (.t 9) .skip (.exit 0))
  (.seq (.block 1 (.seq (.reg [⟨some 10,none,.mov (.t 8),0,[]⟩,⟨some 5,none,.mov (.t 10),0,[]⟩]) (.seq (.reg [⟨some 11,none,.mov (.t 1),0,[]⟩,⟨some 12,none,.mov (.t 0),0,
 []⟩,⟨some 13,none,.mov (.t 5),0,[]⟩,⟨some 14,none,.iaddr 1 (.t 12) (.t 13),0,[]⟩,⟨some 15,none,.load false 1 (.t 14),0,[]⟩,⟨some 16,none,.bin .eql (.t 11) (.t 15),0,[]⟩]
 ) (.cond (.t 16) (.seq (.reg [⟨some 17,none,.mov (.t 5),0,[]⟩,⟨some 4,none,.mov (.t 17),0,[]⟩]) .ret) .skip)))) (.reg [⟨some 18,none,.bin .add (.t 8)
  (.c (.v (.int .i64 1))),0,[]⟩,⟨some 8,none,.mov (.t 18),0,[]⟩]))))))) (.seq (.reg [⟨some 4,none,.mov (.c (.v (.int .i64 (-1)))),0,[]⟩]) .ret))⟩
theorem pf42_is : pfs 42 = some pf42 := by kernel_rfl
def pf43 : PF := ⟨41,[.t 2],.seq (.reg [⟨some 1,none,.box (.t 0),0,[]⟩,⟨some 2,none,.mov (.c (.v (.string (ByteArray.mk #[])))),0,[]⟩]) (.seq (.dreg [3,0,0] [⟨some 7,none,
 .call (.c (.fn 83 [])) [],0,[]⟩,⟨some 8,none,.faddr 0 (.t 1),1,[]⟩,⟨some 9,none,.load false 1 (.t 8),2,[1]⟩,⟨some 10,none,.idxA 15 1 false (.t 7) (.t 9),3,[2,1,0]⟩,
 ⟨some 11,none,.bin .add (.c (.v (.string (ByteArray.mk #[32,32])))) (.t 10),4,[3,2,1,0]⟩,⟨some 3,none,.mov (.t 11),5,[4,3,2,1,0]⟩]) (.seq (.reg [⟨some 13,none,
 .faddr 0 (.t 1),0,[]⟩,⟨some 14,none,.load false 1 (.t 13),0,[]⟩,⟨some 15,none,.call (.c (.fn 84 [])) [.t 14],0,[]⟩,⟨some 12,none,.mov (.t 15),0,[]⟩,⟨some 16,none,
 .ext (.t 12) 0,0,[]⟩,⟨some 17,none,.ext (.t 12) 1,0,[]⟩,⟨some 18,none,.ext (.t 12) 2,0,[]⟩,⟨some 4,none,.mov (.t 16),0,[]⟩,⟨some 5,none,.mov (.t 17),0,[]⟩,⟨some 6,none,
 .mov (.t 18),0,[]⟩]) (.seq (.seq (.reg [⟨some 19,none,.mov (.t 4),0,[]⟩]) (.cond (.t 19) (.reg [⟨some 20,none,.mov (.t 3),0,[]⟩,⟨some 21,none,.faddr 1 (.t 1),0,[]⟩,
 ⟨some 22,none,.load false 1 (.t 21),0,[]⟩,⟨some 23,none,.call (.c (.fn 41 [])) [.t 22],0,[]⟩,⟨some 24,none,.bin .add (.c (.v (.string (ByteArray.mk #[32])))) (.t 23),0,
 []⟩,⟨some 25,none,.bin .add (.t 20) (.t 24),0,[]⟩,⟨some 3,none,.mov (.t 25),0,[]⟩]) .skip)) (.seq (.seq (.reg [⟨some 26,none,.mov (.t 5),0,[]⟩]) (.cond (.t 26)
  (.reg [⟨some 27,none,.mov (.t 3),0,[]⟩,⟨some 28,none,.faddr 2 (.t 1),0,[]⟩,⟨some 29,none,.load false 1 (.t 28),0,[]⟩,⟨some 30,none,.call (.c (.fn 41 [])) [.t 29],0,[]⟩,
 ⟨some 31,none,.bin .add (.c (.v (.string (ByteArray.mk #[32])))) (.t 30),0,[]⟩,⟨some 32,none,.bin .add (.t 27) (.t 31),0,[]⟩,⟨some 3,none,.mov (.t 32),0,[]⟩]) .skip))
  (.seq (.seq (.reg [⟨some 33,none,.mov (.t 6),0,[]⟩]) (.cond (.t 33) (.reg [⟨some 34,none,.mov (.t 3),0,[]⟩,⟨some 35,none,.faddr 3 (.t 1),0,[]⟩,⟨some 36,none,
 .load false 1 (.t 35),0,[]⟩,⟨some 37,none,.bin .add (.c (.v (.string (ByteArray.mk #[32])))) (.t 36),0,[]⟩,⟨some 38,none,.bin .add (.t 34) (.t 37),0,[]⟩,⟨some 3,none,
 .mov (.t 38),0,[]⟩]) .skip)) (.seq (.reg [⟨some 39,none,.mov (.t 3),0,[]⟩,⟨some 40,none,.bin .add (.t 39) (.c (.v (.string (ByteArray.mk #[10])))),0,[]⟩,⟨some 2,none,
 .mov (.t 40),0,[]⟩]) .ret))))))⟩
theorem pf43_is : pfs 43 = some pf43 := by kernel_rfl
def pf45 : PF := ⟨6,[.c 2 false 1],.seq (.reg [⟨some 2,none,.alloc [.v (.int .i64 0)],0,[]⟩]) (.seq (.reg [⟨some 3,none,.mkfn 85 [.t 2],0,[]⟩,⟨none,none,.dfr (.t 3) [],0,[]⟩])
 (.seq (.reg [⟨some 4,none,.mov (.t 0),0,[]⟩,⟨some 5,none,.call (.t 4) [],0,[]⟩]) (.seq (.reg [⟨none,none,.store 1 (.t 2) (.c (.v (.int .i64 0))),0,[]⟩]) .ret)))⟩
theorem pf45_is : pfs 45 = some pf45 := by kernel_rfl
def pf46 : PF := ⟨60,[],.seq (.reg [⟨some 7,none,.faddr 0 (.t 0),0,[]⟩,⟨some 8,none,.load false 1 (.t 7),0,[]⟩,⟨some 9,none,.lenS (.t 8),0,[]⟩,⟨some 10,none,.bin .leq (.t 9)
  (.c (.v (.int .i64 1000))),0,[]⟩,⟨some 11,none,.call (.c (.fn 47 [])) [.t 10,.c (.v (.int .i64 6))],0,[]⟩]) (.seq (.reg [⟨some 12,none,.call (.c (.fn 48 [])) [],0,[]⟩,
 ⟨some 13,none,.mkmap,0,[]⟩,⟨some 14,none,.build [.v .nilFunc,.v .nilFunc,.v .nilFunc,.v .nilFunc,.v .nilFunc,.v .nilFunc,.v .nilFunc,.v .nilFunc,.v .nilFunc,.v .nilFunc,
 .v .nilFunc,.v .nilFunc,.v (.map none)] [(0,12,.t 12),(12,1,.t 13)],0,[]⟩,⟨some 15,none,.box (.t 14),0,[]⟩,⟨some 1,none,.mov (.t 15),0,[]⟩]) (.seq (.seq (.reg [⟨some 16,
 none,.faddr 0 (.t 0),0,[]⟩,⟨some 17,none,.load false 1 (.t 16),0,[]⟩,⟨some 18,none,.lenS (.t 17),0,[]⟩,⟨some 19,none,.mov (.c (.v (.int .i64 0))),0,[]⟩])
  (.block 0 (.loop (.seq (.reg [⟨some 20,none,.bin .lss (.t 19) (.t 18),0,[]⟩]) (.seq (.cond (.t 20) .skip (.exit 0)) (.seq (.block 1 (.seq (.reg [⟨some 21,none,
 .iaddr 6 (.t 17) (.t 19),0,[]⟩,⟨some 22,none,.load true 6 (.t 21),0,[]⟩,⟨some 3,none,.alloc [.v (.string (ByteArray.mk #[])),.v (.int .i64 0),.v (.int .i64 0),
 .v (.string (ByteArray.mk #[])),.sl [] .nil,.sl [] .nil],0,[]⟩,⟨none,none,.store 6 (.t 3) (.t 22),0,[]⟩]) (.dreg [6] [⟨some 23,none,.mov (.t 1),0,[]⟩,⟨some 24,none,
 .nilck (.t 23),1,[0]⟩,⟨some 25,none,.faddr 12 (.t 24),2,[1,0]⟩,⟨some 26,none,.load false 1 (.t 25),3,[2,1,0]⟩,⟨some 27,none,.faddr 0 (.t 3),4,[]⟩,⟨some 28,none,
 .load false 1 (.t 27),5,[4]⟩,⟨none,none,.mapup (KK.sc true) (.t 26) (.t 28) (.c (.v (.bool true))),6,[5,4,3,2,1,0]⟩]))) (.reg [⟨some 29,none,.bin .add (.t 19)
  (.c (.v (.int .i64 1))),0,[]⟩,⟨some 19,none,.mov (.t 29),0,[]⟩]))))))) (.seq (.reg [⟨some 30,none,.mkmap,0,[]⟩,⟨some 4,none,.mov (.t 30),0,[]⟩])
  (.seq (.seq (.reg [⟨some 31,none,.faddr 0 (.t 0),0,[]⟩,⟨some 32,none,.load false 1 (.t 31),0,[]⟩,⟨some 33,none,.lenS (.t 32),0,[]⟩,⟨some 34,none,
 .mov (.c (.v (.int .i64 0))),0,[]⟩]) (.block 2 (.loop (.seq (.reg [⟨some 35,none,.bin .lss (.t 34) (.t 33),0,[]⟩]) (.seq (.cond (.t 35) .skip (.exit 2))
  (.seq (.block 3 (.seq (.reg [⟨some 36,none,.iaddr 6 (.t 32) (.t 34),0,[]⟩,⟨some 37,none,.load true 6 (.t 36),0,[]⟩,⟨some 6,none,.alloc [.v (.string (ByteArray.mk #[])),
 .v (.int .i64 0),.v (.int .i64 0),.v (.string (ByteArray.mk #[])),.sl [] .nil,.sl [] .nil],0,[]⟩,⟨none,none,.store 6 (.t 6) (.t 37),0,[]⟩]) (.seq (.reg [⟨some 38,none,
 .faddr 0 (.t 6),0,[]⟩,⟨some 39,none,.load false 1 (.t 38),0,[]⟩,⟨some 40,none,.call (.c (.fn 49 [])) [.t 39],0,[]⟩,⟨some 41,none,.call (.c (.fn 47 [])) [.t 40,
 .c (.v (.int .i64 29))],0,[]⟩]) (.seq (.reg [⟨some 42,none,.mov (.t 4),0,[]⟩,⟨some 43,none,.faddr 0 (.t 6),0,[]⟩,⟨some 44,none,.load false 1 (.t 43),0,[]⟩,⟨some 45,none,
 .look (.v (.bool false)) false (KK.sc true) (.t 42) (.t 44),0,[]⟩,⟨some 46,none,.un .not (.t 45),0,[]⟩,⟨some 47,none,.call (.c (.fn 47 [])) [.t 46,.c (.v (.int .i64 8))]
 ,0,[]⟩]) (.seq (.reg [⟨some 48,none,.mov (.t 4),0,[]⟩,⟨some 49,none,.faddr 0 (.t 6),0,[]⟩,⟨some 50,none,.load false 1 (.t 49),0,[]⟩,⟨none,none,.mapup (KK.sc true)
  (.t 48) (.t 50) (.c (.v (.bool true))),0,[]⟩]) (.reg [⟨some 51,none,.mov (.t 1),0,[]⟩,⟨some 52,none,.faddr 1 (.t 6),0,[]⟩,⟨some 53,none,.load true 5 (.t 52),0,[]⟩,
 ⟨some 54,none,.call (.c (.fn 50 [])) [.t 51,.t 53],0,[]⟩])))))) (.reg [⟨some 55,none,.bin .add (.t 34) (.c (.v (.int .i64 1))),0,[]⟩,⟨some 34,none,.mov (.t 55),0,[]⟩])))
 )))) (.reg [⟨some 56,none,.mov (.t 1),0,[]⟩,⟨some 57,none,.faddr 1 (.t 0),0,[]⟩,⟨some 58,none,.load true 5 (.t 57),0,[]⟩,⟨some 59,none,.call (.c (.fn 50 [])) [.t 56,
 .t 58],0,[]⟩])))))⟩
theorem pf46_is : pfs 46 = some pf46 := by kernel_rfl
def pf47 : PF := ⟨9,[],.seq (.reg [⟨some 4,none,.mov (.t 0),0,[]⟩,⟨some 5,none,.un .not (.t 4),0,[]⟩]) (.cond (.t 5) (.reg [⟨some 6,none,.mov (.t 1),0,[]⟩,⟨some 7,none,
 .build [.v (.int .i64 0)] [(0,1,.t 6)],0,[]⟩,⟨some 8,none,.mkif 162 (.t 7),0,[]⟩,⟨none,none,.panic (.t 8),0,[]⟩]) .skip)⟩
theorem pf47_is : pfs 47 = some pf47 := by kernel_rfl
def pf48 : PF := ⟨23,[.c 0 true 12],.seq (.reg [⟨some 0,none,.alloc [.v .nilFunc,.v .nilFunc,.v .nilFunc,.v .nilFunc,.v .nilFunc,.v .nilFunc,.v .nilFunc,.v .nilFunc,.v .nilFunc,
 .v .nilFunc,.v .nilFunc,.v .nilFunc],0,[]⟩]) (.seq (.reg [⟨some 1,none,.mov (.c (.fn 86 [])),0,[]⟩]) (.seq (.reg [⟨some 2,none,.mov (.t 1),0,[]⟩,⟨some 3,none,
 .call (.t 2) [.c (.v (.int .i64 0))],0,[]⟩,⟨some 4,none,.mov (.t 1),0,[]⟩,⟨some 5,none,.call (.t 4) [.c (.v (.int .i64 1))],0,[]⟩,⟨some 6,none,.mov (.t 1),0,[]⟩,⟨some 7,
 none,.call (.t 6) [.c (.v (.int .i64 2))],0,[]⟩,⟨some 8,none,.mov (.t 1),0,[]⟩,⟨some 9,none,.call (.t 8) [.c (.v (.int .i64 0))],0,[]⟩,⟨some 10,none,.mov (.t 1),0,[]⟩,
 ⟨some 11,none,.call (.t 10) [.c (.v (.int .i64 0))],0,[]⟩,⟨some 12,none,.mov (.t 1),0,[]⟩,⟨some 13,none,.call (.t 12) [.c (.v (.int .i64 2))],0,[]⟩,⟨some 14,none,
 .mov (.t 1),0,[]⟩,⟨some 15,none,.call (.t 14) [.c (.v (.int .i64 2))],0,[]⟩,⟨some 16,none,.mov (.t 1),0,[]⟩,⟨some 17,none,.call (.t 16) [.c (.v (.int .i64 1))],0,[]⟩,
 ⟨some 18,none,.mov (.t 1),0,[]⟩,⟨some 19,none,.call (.t 18) [.c (.v (.int .i64 1))],0,[]⟩,⟨some 20,none,.mov (.t 1),0,[]⟩,⟨some 21,none,.call (.t 20)
  [.c (.v (.int .i64 0))],0,[]⟩,⟨some 22,none,.build [.v .nilFunc,.v .nilFunc,.v .nilFunc,.v .nilFunc,.v .nilFunc,.v .nilFunc,.v .nilFunc,.v .nilFunc,.v .nilFunc,
 .v .nilFunc,.v .nilFunc,.v .nilFunc] [(0,1,.t 3),(1,1,.t 5),(2,1,.t 7),(3,1,.c (.fn 88 [])),(4,1,.c (.fn 89 [])),(5,1,.t 9),(6,1,.t 11),(7,1,.t 13),(8,1,.t 15),(9,1,
 .t 17),(10,1,.t 19),(11,1,.t 21)],0,[]⟩,⟨none,none,.store 12 (.t 0) (.t 22),0,[]⟩]) .ret))⟩
theorem pf48_is : pfs 48 = some pf48 := by kernel_rfl
def pf49 : PF := ⟨39,[.t 2],.seq (.reg [⟨some 2,none,.mov (.c (.v (.bool false))),0,[]⟩]) (.seq (.reg [⟨some 3,none,.mov (.c (.v (.bool true))),0,[]⟩]) (.seq (.seq (.reg [⟨some 6,none,
 .mov (.t 0),0,[]⟩,⟨some 7,none,.lenT (.t 6),0,[]⟩,⟨some 8,none,.mov (.c (.v (.int .i64 0))),0,[]⟩]) (.block 0 (.loop (.seq (.reg [⟨some 9,none,.bin .lss (.t 8) (.t 7),0,
 []⟩]) (.seq (.cond (.t 9) .skip (.exit 0)) (.seq (.block 1 (.seq (.reg [⟨some 10,none,.mov (.t 8),0,[]⟩,⟨some 4,none,.mov (.t 10),0,[]⟩]) (.seq (.reg [⟨some 11,none,
 .mov (.t 0),0,[]⟩,⟨some 12,none,.mov (.t 4),0,[]⟩,⟨some 13,none,.idxS (.t 11) (.t 12),0,[]⟩,⟨some 5,none,.mov (.t 13),0,[]⟩]) (.block 2 (.seq (.reg [⟨some 15,none,
 .mov (.t 5),0,[]⟩,⟨some 16,none,.call (.c (.fn 90 [])) [.t 15],0,[]⟩,⟨some 14,none,.mov (.t 16),0,[]⟩]) (.cond (.t 14) (.reg [⟨some 3,none,.mov (.c (.v (.bool false))),
 0,[]⟩]) (.seq (.reg [⟨some 18,none,.mov (.t 3),0,[]⟩,⟨some 17,none,.mov (.t 18),0,[]⟩]) (.cond (.t 17) (.seq (.reg [⟨some 2,none,.mov (.c (.v (.bool false))),0,[]⟩])
  .ret) (.seq (.reg [⟨some 20,none,.mov (.t 5),0,[]⟩,⟨some 21,none,.bin .eql (.t 20) (.c (.v (.int .u8 46))),0,[]⟩,⟨some 19,none,.mov (.t 21),0,[]⟩]) (.cond (.t 19)
  (.reg [⟨some 3,none,.mov (.c (.v (.bool true))),0,[]⟩]) (.seq (.reg [⟨some 23,none,.mov (.t 5),0,[]⟩,⟨some 24,none,.bin .lss (.t 23) (.c (.v (.int .u8 48))),0,[]⟩,
 ⟨some 25,none,.mov (.t 24),0,[]⟩,⟨some 26,some (25,false),.mov (.t 5),0,[]⟩,⟨some 27,some (25,false),.bin .gtr (.t 26) (.c (.v (.int .u8 57))),0,[]⟩,⟨some 28,none,
 .pick (.t 25) (.c (.v (.bool true))) (.t 27),0,[]⟩,⟨some 22,none,.mov (.t 28),0,[]⟩]) (.cond (.t 22) (.seq (.reg [⟨some 29,none,.mov (.t 5),0,[]⟩,⟨some 30,none,
 .bin .neq (.t 29) (.c (.v (.int .u8 39))),0,[]⟩]) (.cond (.t 30) (.seq (.reg [⟨some 2,none,.mov (.c (.v (.bool false))),0,[]⟩]) .ret) .skip)) .skip))))))))))))
  (.reg [⟨some 31,none,.bin .add (.t 8) (.c (.v (.int .i64 1))),0,[]⟩,⟨some 8,none,.mov (.t 31),0,[]⟩]))))))) (.seq (.reg [⟨some 32,none,.mov (.t 3),0,[]⟩,⟨some 33,none,
 .un .not (.t 32),0,[]⟩,⟨some 34,none,.mov (.t 33),0,[]⟩,⟨some 35,some (34,true),.mov (.t 0),0,[]⟩,⟨some 36,some (34,true),.lenT (.t 35),0,[]⟩,⟨some 37,some (34,true),
 .bin .leq (.t 36) (.c (.v (.int .i64 64))),0,[]⟩,⟨some 38,none,.pick (.t 34) (.t 37) (.c (.v (.bool false))),0,[]⟩,⟨some 2,none,.mov (.t 38),0,[]⟩]) .ret)))⟩
theorem pf49_is : pfs 49 = some pf49 := by kernel_rfl
def pf50 : PF := ⟨18,[],.seq (.reg [⟨some 3,none,.box (.t 1),0,[]⟩]) (.seq (.reg [⟨some 7,none,.mov (.t 0),0,[]⟩,⟨some 8,none,.load true 5 (.t 3),0,[]⟩,⟨some 9,none,.call (.c (.fn 91 [])
 ) [.t 7,.t 8,.c (.v (.int .i64 0))],0,[]⟩,⟨some 6,none,.mov (.t 9),0,[]⟩,⟨some 10,none,.ext (.t 6) 0,0,[]⟩,⟨some 11,none,.ext (.t 6) 1,0,[]⟩,⟨some 4,none,.mov (.t 10),0,
 []⟩,⟨some 5,none,.mov (.t 11),0,[]⟩]) (.seq (.reg [⟨some 12,none,.mov (.t 4),0,[]⟩,⟨some 13,none,.bin .leq (.t 12) (.c (.v (.int .i64 4096))),0,[]⟩,⟨some 14,none,
 .call (.c (.fn 47 [])) [.t 13,.c (.v (.int .i64 5))],0,[]⟩]) (.reg [⟨some 15,none,.mov (.t 5),0,[]⟩,⟨some 16,none,.bin .leq (.t 15) (.c (.v (.int .i64 200))),0,[]⟩,
 ⟨some 17,none,.call (.c (.fn 47 [])) [.t 16,.c (.v (.int .i64 7))],0,[]⟩])))⟩
theorem pf50_is : pfs 50 = some pf50 := by kernel_rfl
def pf53 : PF := ⟨18,[.t 4],.seq (.reg [⟨some 2,none,.box (.t 0),0,[]⟩,⟨some 3,none,.box (.t 1),0,[]⟩,⟨some 4,none,.mov (.c (.v (.int .i64 0))),0,[]⟩]) (.seq (.seq (.reg [⟨some 6,none,
 .load true 6 (.t 2),0,[]⟩,⟨some 7,none,.load true 5 (.t 3),0,[]⟩,⟨some 8,none,.call (.c (.fn 99 [])) [.t 6,.t 7,.c (.v (.int .i64 0))],0,[]⟩,⟨some 5,none,.mov (.t 8),0,
 []⟩]) (.seq (.reg [⟨some 9,none,.mov (.t 5),0,[]⟩,⟨some 10,none,.bin .neq (.t 9) (.c (.v (.int .i64 0))),0,[]⟩]) (.cond (.t 10) (.seq (.reg [⟨some 11,none,.mov (.t 5),0,
 []⟩,⟨some 4,none,.mov (.t 11),0,[]⟩]) .ret) .skip))) (.seq (.seq (.reg [⟨some 12,none,.load true 5 (.t 3),0,[]⟩,⟨some 13,none,.call (.c (.fn 35 [])) [.t 12],0,[]⟩,
 ⟨some 14,none,.bin .gtr (.t 13) (.c (.v (.int .i64 4096))),0,[]⟩]) (.cond (.t 14) (.seq (.reg [⟨some 4,none,.mov (.c (.v (.int .i64 5))),0,[]⟩]) .ret) .skip))
  (.seq (.seq (.reg [⟨some 15,none,.load true 5 (.t 3),0,[]⟩,⟨some 16,none,.call (.c (.fn 100 [])) [.t 15],0,[]⟩,⟨some 17,none,.bin .gtr (.t 16) (.c (.v (.int .i64 200)))
 ,0,[]⟩]) (.cond (.t 17) (.seq (.reg [⟨some 4,none,.mov (.c (.v (.int .i64 7))),0,[]⟩]) .ret) .skip)) (.seq (.reg [⟨some 4,none,.mov (.c (.v (.int .i64 0))),0,[]⟩]) .ret)
 )))⟩
theorem pf53_is : pfs 53 = some pf53 := by kernel_rfl
def pf54 : PF := ⟨17,[],.seq (.reg [⟨some 4,none,.mov (.c (.v (.int .i64 0))),0,[]⟩]) (.block 0 (.loop (.seq (.seq (.reg [⟨some 5,none,.mov (.t 4),0,[]⟩,⟨some 6,none,.mov (.t 1),0,[]⟩,
 ⟨some 7,none,.lenS (.t 6),0,[]⟩,⟨some 8,none,.bin .lss (.t 5) (.t 7),0,[]⟩]) (.cond (.t 8) .skip (.exit 0))) (.seq (.block 1 (.reg [⟨some 11,none,.mov (.t 0),0,[]⟩,
 ⟨some 12,none,.mov (.t 1),0,[]⟩,⟨some 13,none,.mov (.t 4),0,[]⟩,⟨some 14,none,.iaddr 5 (.t 12) (.t 13),0,[]⟩,⟨some 15,none,.load true 5 (.t 14),0,[]⟩,⟨some 16,none,
 .call (.c (.fn 27 [])) [.t 11,.t 15],0,[]⟩])) (.reg [⟨some 9,none,.mov (.t 4),0,[]⟩,⟨some 10,none,.bin .add (.t 9) (.c (.v (.int .i64 1))),0,[]⟩,⟨some 4,none,
 .mov (.t 10),0,[]⟩])))))⟩
theorem pf54_is : pfs 54 = some pf54 := by kernel_rfl
def pf55 : PF := ⟨9,[.t 4],.seq (.reg [⟨some 4,none,.mov (.c (.v (.bool false))),0,[]⟩]) (.seq (.reg [⟨some 5,none,.mov (.t 0),0,[]⟩,⟨some 6,none,.mov (.t 1),0,[]⟩,⟨some 7,none,
 .call (.c (.fn 101 [])) [.t 5,.t 6],0,[]⟩,⟨some 8,none,.bin .geq (.t 7) (.c (.v (.int .i64 0))),0,[]⟩,⟨some 4,none,.mov (.t 8),0,[]⟩]) .ret)⟩
theorem pf55_is : pfs 55 = some pf55 := by kernel_rfl
def pf68 : PF := ⟨29,[.c 4 true 5,.t 5],.seq (.reg [⟨some 2,none,.box (.t 0),0,[]⟩,⟨some 4,none,.alloc [.v (.int .i64 0),.v (.int .i64 0),.v (.string (ByteArray.mk #[])),.sl [] .nil,
 .sl [] .nil],0,[]⟩,⟨some 5,none,.mov (.c (.v (.bool false))),0,[]⟩]) (.seq (.seq (.reg [⟨some 6,none,.mov (.c (.v (.int .i64 0))),0,[]⟩])
  (.block 0 (.loop (.seq (.seq (.reg [⟨some 7,none,.mov (.t 6),0,[]⟩,⟨some 8,none,.faddr 0 (.t 2),0,[]⟩,⟨some 9,none,.load false 1 (.t 8),0,[]⟩,⟨some 10,none,.lenS (.t 9)
 ,0,[]⟩,⟨some 11,none,.bin .lss (.t 7) (.t 10),0,[]⟩]) (.cond (.t 11) .skip (.exit 0))) (.seq (.block 1 (.seq (.reg [⟨some 14,none,.faddr 0 (.t 2),0,[]⟩,⟨some 15,none,
 .load false 1 (.t 14),0,[]⟩,⟨some 16,none,.mov (.t 6),0,[]⟩,⟨some 17,none,.iaddr 6 (.t 15) (.t 16),0,[]⟩,⟨some 18,none,.faddr 0 (.t 17),0,[]⟩,⟨some 19,none,
 .load false 1 (.t 18),0,[]⟩,⟨some 20,none,.mov (.t 1),0,[]⟩,⟨some 21,none,.bin .eql (.t 19) (.t 20),0,[]⟩]) (.cond (.t 21) (.seq (.reg [⟨some 22,none,.faddr 0 (.t 2),0,
 []⟩,⟨some 23,none,.load false 1 (.t 22),0,[]⟩,⟨some 24,none,.mov (.t 6),0,[]⟩,⟨some 25,none,.iaddr 6 (.t 23) (.t 24),0,[]⟩,⟨some 26,none,.faddr 1 (.t 25),0,[]⟩,⟨some 27,
 none,.load true 5 (.t 26),0,[]⟩,⟨none,none,.store 5 (.t 4) (.t 27),0,[]⟩,⟨some 5,none,.mov (.c (.v (.bool true))),0,[]⟩]) .ret) .skip))) (.reg [⟨some 12,none,.mov (.t 6)
 ,0,[]⟩,⟨some 13,none,.bin .add (.t 12) (.c (.v (.int .i64 1))),0,[]⟩,⟨some 6,none,.mov (.t 13),0,[]⟩])))))) (.seq (.reg [⟨some 28,none,.build [.v (.int .i64 0),
 .v (.int .i64 0),.v (.string (ByteArray.mk #[])),.sl [] .nil,.sl [] .nil] [],0,[]⟩,⟨none,none,.store 5 (.t 4) (.t 28),0,[]⟩,⟨some 5,none,.mov (.c (.v (.bool false))),0,
 []⟩]) .ret))⟩
theorem pf68_is : pfs 68 = some pf68 := by kernel_rfl
def pf79 : PF := ⟨32,[.t 2,.t 3,.t 4],.seq (.reg [⟨some 1,none,.box (.t 0),0,[]⟩,⟨some 2,none,.mov (.c (.v (.int .i64 0))),0,[]⟩,⟨some 3,none,.mov (.c (.v (.int .i64 0))),0,[]⟩,⟨some 4,
 none,.mov (.c (.v (.bool false))),0,[]⟩]) (.seq (.seq (.reg [⟨some 5,none,.faddr 0 (.t 1),0,[]⟩,⟨some 6,none,.load false 1 (.t 5),0,[]⟩])
  (.block 0 (.seq (.seq (.reg [⟨some 8,none,.bin .eql (.t 6) (.c (.v (.int .i64 0))),0,[]⟩,⟨some 7,none,.mov (.t 8),0,[]⟩]) (.cond (.t 7) .skip (.seq (.reg [⟨some 9,none,
 .bin .eql (.t 6) (.c (.v (.int .i64 5))),0,[]⟩,⟨some 7,none,.mov (.t 9),0,[]⟩]) (.cond (.t 7) .skip (.seq (.reg [⟨some 10,none,.bin .eql (.t 6) (.c (.v (.int .i64 6))),
 0,[]⟩,⟨some 7,none,.mov (.t 10),0,[]⟩]) (.cond (.t 7) .skip (.reg [⟨some 11,none,.bin .eql (.t 6) (.c (.v (.int .i64 11))),0,[]⟩,⟨some 7,none,.mov (.t 11),0,[]⟩])))))))
  (.cond (.t 7) (.seq (.reg [⟨some 2,none,.mov (.c (.v (.int .i64 0))),0,[]⟩,⟨some 3,none,.mov (.c (.v (.int .i64 0))),0,[]⟩,⟨some 4,none,.mov (.c (.v (.bool true))),0,[]
 ⟩]) .ret) (.seq (.seq (.reg [⟨some 13,none,.bin .eql (.t 6) (.c (.v (.int .i64 1))),0,[]⟩,⟨some 12,none,.mov (.t 13),0,[]⟩]) (.cond (.t 12) .skip (.seq (.reg [⟨some 14,
 none,.bin .eql (.t 6) (.c (.v (.int .i64 9))),0,[]⟩,⟨some 12,none,.mov (.t 14),0,[]⟩]) (.cond (.t 12) .skip (.reg [⟨some 15,none,.bin .eql (.t 6) (.c (.v (.int .i64 10))
 ),0,[]⟩,⟨some 12,none,.mov (.t 15),0,[]⟩]))))) (.cond (.t 12) (.seq (.reg [⟨some 2,none,.mov (.c (.v (.int .i64 1))),0,[]⟩,⟨some 3,none,.mov (.c (.v (.int .i64 1))),0,[]
 ⟩,⟨some 4,none,.mov (.c (.v (.bool true))),0,[]⟩]) .ret) (.seq (.seq (.reg [⟨some 17,none,.bin .eql (.t 6) (.c (.v (.int .i64 2))),0,[]⟩,⟨some 16,none,.mov (.t 17),0,[]⟩
 ]) (.cond (.t 16) .skip (.seq (.reg [⟨some 18,none,.bin .eql (.t 6) (.c (.v (.int .i64 7))),0,[]⟩,⟨some 16,none,.mov (.t 18),0,[]⟩]) (.cond (.t 16)
  .skip (.reg [⟨some 19,none,.bin .eql (.t 6) (.c (.v (.int .i64 8))),0,[]⟩,⟨some 16,none,.mov (.t 19),0,[]⟩]))))) (.cond (.t 16) (.seq (.reg [⟨some 2,none,
 .mov (.c (.v (.int .i64 2))),0,[]⟩,⟨some 3,none,.mov (.c (.v (.int .i64 2))),0,[]⟩,⟨some 4,none,.mov (.c (.v (.bool true))),0,[]⟩]) .ret) (.seq (.reg [⟨some 21,none,
 .bin .eql (.t 6) (.c (.v (.int .i64 3))),0,[]⟩,⟨some 20,none,.mov (.t 21),0,[]⟩]) (.cond (.t 20) (.seq (.reg [⟨some 2,none,.mov (.c (.v (.int .i64 0))),0,[]⟩,⟨some 3,
 none,.mov (.c (.v (.int .i64 4096))),0,[]⟩,⟨some 4,none,.mov (.c (.v (.bool true))),0,[]⟩]) .ret) (.seq (.reg [⟨some 23,none,.bin .eql (.t 6) (.c (.v (.int .i64 4))),0,
 []⟩,⟨some 22,none,.mov (.t 23),0,[]⟩]) (.cond (.t 22) (.seq (.dreg [9,0] [⟨some 24,none,.faddr 3 (.t 1),0,[]⟩,⟨some 25,none,.load false 1 (.t 24),1,[0]⟩,⟨some 26,none,
 .lenS (.t 25),2,[1,0]⟩,⟨some 27,none,.bin .add (.t 26) (.c (.v (.int .i64 1))),3,[2,1,0]⟩,⟨some 28,none,.faddr 3 (.t 1),4,[]⟩,⟨some 29,none,.load false 1 (.t 28),5,[4]⟩,
 ⟨some 30,none,.lenS (.t 29),6,[5,4]⟩,⟨some 31,none,.bin .add (.t 30) (.c (.v (.int .i64 1))),7,[6,5,4]⟩,⟨some 2,none,.mov (.t 27),8,[3,2,1,0]⟩,⟨some 3,none,.mov (.t 31),
 9,[8,3,2,1,0,7,6,5,4]⟩,⟨some 4,none,.mov (.c (.v (.bool true))),10,[9,8,3,2,1,0,7,6,5,4]⟩]) .ret) .skip)))))))))))) (.seq (.reg [⟨some 2,none,.mov (.c (.v (.int .i64 0))
 ),0,[]⟩,⟨some 3,none,.mov (.c (.v (.int .i64 0))),0,[]⟩,⟨some 4,none,.mov (.c (.v (.bool false))),0,[]⟩]) .ret))⟩
theorem pf79_is : pfs 79 = some pf79 := by kernel_rfl
def pf80 : PF := ⟨21,[.t 2],.seq (.reg [⟨some 2,none,.mov (.c (.v (.bool false))),0,[]⟩]) (.seq (.reg [⟨some 3,none,.mov (.t 0),0,[]⟩,⟨some 4,none,.bin .geq (.t 3) (.c (.v (.int .u8 97))
 ),0,[]⟩,⟨some 5,none,.mov (.t 4),0,[]⟩,⟨some 6,some (5,true),.mov (.t 0),0,[]⟩,⟨some 7,some (5,true),.bin .leq (.t 6) (.c (.v (.int .u8 122))),0,[]⟩,⟨some 8,none,
 .pick (.t 5) (.t 7) (.c (.v (.bool false))),0,[]⟩,⟨some 9,none,.mov (.t 8),0,[]⟩,⟨some 10,some (9,false),.mov (.t 0),0,[]⟩,⟨some 11,some (9,false),.bin .geq (.t 10)
  (.c (.v (.int .u8 65))),0,[]⟩,⟨some 12,some (9,false),.mov (.t 11),0,[]⟩,⟨some 13,some (12,true),.mov (.t 0),0,[]⟩,⟨some 14,some (12,true),.bin .leq (.t 13)
  (.c (.v (.int .u8 90))),0,[]⟩,⟨some 15,some (9,false),.pick (.t 12) (.t 14) (.c (.v (.bool false))),0,[]⟩,⟨some 16,none,.pick (.t 9) (.c (.v (.bool true))) (.t 15),0,[]
 ⟩,⟨some 17,none,.mov (.t 16),0,[]⟩,⟨some 18,some (17,false),.mov (.t 0),0,[]⟩,⟨some 19,some (17,false),.bin .eql (.t 18) (.c (.v (.int .u8 95))),0,[]⟩,⟨some 20,none,
 .pick (.t 17) (.c (.v (.bool true))) (.t 19),0,[]⟩,⟨some 2,none,.mov (.t 20),0,[]⟩]) .ret)⟩
theorem pf80_is : pfs 80 = some pf80 := by kernel_rfl
def pf83 : PF := ⟨2,[.c 0 true 15],.seq (.reg [⟨some 0,none,.alloc [.v (.string (ByteArray.mk #[])),.v (.string (ByteArray.mk #[])),.v (.string (ByteArray.mk #[])),
 .v (.string (ByteArray.mk #[])),.v (.string (ByteArray.mk #[])),.v (.string (ByteArray.mk #[])),.v (.string (ByteArray.mk #[])),.v (.string (ByteArray.mk #[])),
 .v (.string (ByteArray.mk #[])),.v (.string (ByteArray.mk #[])),.v (.string (ByteArray.mk #[])),.v (.string (ByteArray.mk #[])),.v (.string (ByteArray.mk #[])),
 .v (.string (ByteArray.mk #[])),.v (.string (ByteArray.mk #[]))],0,[]⟩]) (.seq (.reg [⟨some 1,none,.build [.v (.string (ByteArray.mk #[])),.v (.string (ByteArray.mk #[])
 ),.v (.string (ByteArray.mk #[])),.v (.string (ByteArray.mk #[])),.v (.string (ByteArray.mk #[])),.v (.string (ByteArray.mk #[])),.v (.string (ByteArray.mk #[])),
 .v (.string (ByteArray.mk #[])),.v (.string (ByteArray.mk #[])),.v (.string (ByteArray.mk #[])),.v (.string (ByteArray.mk #[])),.v (.string (ByteArray.mk #[])),
 .v (.string (ByteArray.mk #[])),.v (.string (ByteArray.mk #[])),.v (.string (ByteArray.mk #[]))] [(0,1,.c (.v (.string (ByteArray.mk #[118,97,114])))),(1,1,
 .c (.v (.string (ByteArray.mk #[102,117,110])))),(2,1,.c (.v (.string (ByteArray.mk #[97,112,112,108,121])))),(3,1,.c (.v (.string (ByteArray.mk #[114,101,116,117,114,
 110])))),(4,1,.c (.v (.string (ByteArray.mk #[99,116,111,114])))),(5,1,.c (.v (.string (ByteArray.mk #[99,97,115,101])))),(6,1,.c (.v (.string (ByteArray.mk #[98,114,97,
 110,99,104])))),(7,1,.c (.v (.string (ByteArray.mk #[103,108,111,98,97,108])))),(8,1,.c (.v (.string (ByteArray.mk #[98,111,120])))),(9,1,
 .c (.v (.string (ByteArray.mk #[98,105,110,100])))),(10,1,.c (.v (.string (ByteArray.mk #[117,110,98,105,110,100])))),(11,1,.c (.v (.string (ByteArray.mk #[112,97,105,
 114])))),(12,1,.c (.v (.string (ByteArray.mk #[102,115,116])))),(13,1,.c (.v (.string (ByteArray.mk #[115,110,100])))),(14,1,.c (.v (.string (ByteArray.mk #[97,98,111,
 114,116]))))],0,[]⟩,⟨none,none,.store 15 (.t 0) (.t 1),0,[]⟩]) .ret)⟩
theorem pf83_is : pfs 83 = some pf83 := by kernel_rfl
def pf84 : PF := ⟨15,[.t 2,.t 3,.t 4],.seq (.reg [⟨some 2,none,.mov (.c (.v (.bool false))),0,[]⟩,⟨some 3,none,.mov (.c (.v (.bool false))),0,[]⟩,⟨some 4,none,.mov (.c (.v (.bool false))
 ),0,[]⟩]) (.seq (.seq (.reg [⟨some 5,none,.mov (.t 0),0,[]⟩]) (.block 0 (.seq (.seq (.reg [⟨some 7,none,.bin .eql (.t 5) (.c (.v (.int .i64 0))),0,[]⟩,⟨some 6,none,
 .mov (.t 7),0,[]⟩]) (.cond (.t 6) .skip (.seq (.reg [⟨some 8,none,.bin .eql (.t 5) (.c (.v (.int .i64 1))),0,[]⟩,⟨some 6,none,.mov (.t 8),0,[]⟩]) (.cond (.t 6)
  .skip (.seq (.reg [⟨some 9,none,.bin .eql (.t 5) (.c (.v (.int .i64 5))),0,[]⟩,⟨some 6,none,.mov (.t 9),0,[]⟩]) (.cond (.t 6) .skip (.reg [⟨some 10,none,
 .bin .eql (.t 5) (.c (.v (.int .i64 7))),0,[]⟩,⟨some 6,none,.mov (.t 10),0,[]⟩]))))))) (.cond (.t 6) (.seq (.reg [⟨some 2,none,.mov (.c (.v (.bool true))),0,[]⟩,⟨some 3,
 none,.mov (.c (.v (.bool false))),0,[]⟩,⟨some 4,none,.mov (.c (.v (.bool false))),0,[]⟩]) .ret) (.seq (.reg [⟨some 12,none,.bin .eql (.t 5) (.c (.v (.int .i64 6))),0,[]⟩
 ,⟨some 11,none,.mov (.t 12),0,[]⟩]) (.cond (.t 11) (.seq (.reg [⟨some 2,none,.mov (.c (.v (.bool true))),0,[]⟩,⟨some 3,none,.mov (.c (.v (.bool true))),0,[]⟩,⟨some 4,
 none,.mov (.c (.v (.bool false))),0,[]⟩]) .ret) (.seq (.reg [⟨some 14,none,.bin .eql (.t 5) (.c (.v (.int .i64 4))),0,[]⟩,⟨some 13,none,.mov (.t 14),0,[]⟩])
  (.cond (.t 13) (.seq (.reg [⟨some 2,none,.mov (.c (.v (.bool true))),0,[]⟩,⟨some 3,none,.mov (.c (.v (.bool true))),0,[]⟩,⟨some 4,none,.mov (.c (.v (.bool true))),0,[]⟩
 ]) .ret) .skip)))))))) (.seq (.reg [⟨some 2,none,.mov (.c (.v (.bool false))),0,[]⟩,⟨some 3,none,.mov (.c (.v (.bool false))),0,[]⟩,⟨some 4,none,
 .mov (.c (.v (.bool false))),0,[]⟩]) .ret))⟩
theorem pf84_is : pfs 84 = some pf84 := by kernel_rfl
def pf85 : PF := ⟨17,[],.seq (.reg [⟨some 4,none,.recov,0,[]⟩,⟨some 1,none,.mov (.t 4),0,[]⟩]) (.seq (.reg [⟨some 5,none,.mov (.t 1),0,[]⟩,⟨some 6,none,.eqi true (.t 5)
  (.c (.v .nilIface)),0,[]⟩]) (.cond (.t 6) (.seq (.reg [⟨some 8,none,.mov (.t 1),0,[]⟩,⟨some 9,none,.tass 162 true (.agg [.v (.int .i64 0)]) (.t 8),0,[]⟩,⟨some 7,none,
 .mov (.t 9),0,[]⟩,⟨some 10,none,.ext (.t 7) 0,0,[]⟩,⟨some 11,none,.ext (.t 7) 1,0,[]⟩,⟨some 2,none,.alloc [.v (.int .i64 0)],0,[]⟩,⟨none,none,.store 1 (.t 2) (.t 10),0,
 []⟩,⟨some 3,none,.mov (.t 11),0,[]⟩]) (.seq (.seq (.reg [⟨some 12,none,.mov (.t 3),0,[]⟩,⟨some 13,none,.un .not (.t 12),0,[]⟩]) (.cond (.t 13) (.reg [⟨some 14,none,
 .mov (.t 1),0,[]⟩,⟨none,none,.panic (.t 14),0,[]⟩]) .skip)) (.reg [⟨some 15,none,.faddr 0 (.t 2),0,[]⟩,⟨some 16,none,.load false 1 (.t 15),0,[]⟩,⟨none,none,
 .store 1 (.t 0) (.t 16),0,[]⟩]))) .skip))⟩
theorem pf85_is : pfs 85 = some pf85 := by kernel_rfl
def pf86 : PF := ⟨4,[.t 2],.seq (.reg [⟨some 1,none,.box (.t 0),0,[]⟩,⟨some 2,none,.mov (.c (.v .nilFunc)),0,[]⟩]) (.seq (.reg [⟨some 3,none,.mkfn 87 [.t 1],0,[]⟩,⟨some 2,none,
 .mov (.t 3),0,[]⟩]) .ret)⟩
theorem pf86_is : pfs 86 = some pf86 := by kernel_rfl
def pf87 : PF := ⟨15,[.t 3],.seq (.reg [⟨some 2,none,.box (.t 0),0,[]⟩,⟨some 3,none,.mov (.c (.v (.bool false))),0,[]⟩]) (.seq (.reg [⟨some 4,none,.faddr 4 (.t 2),0,[]⟩,⟨some 5,none,
 .load false 1 (.t 4),0,[]⟩,⟨some 6,none,.lenS (.t 5),0,[]⟩,⟨some 7,none,.load false 1 (.t 1),0,[]⟩,⟨some 8,none,.bin .eql (.t 6) (.t 7),0,[]⟩,⟨some 9,none,.mov (.t 8),0,
 []⟩,⟨some 10,some (9,true),.faddr 3 (.t 2),0,[]⟩,⟨some 11,some (9,true),.load false 1 (.t 10),0,[]⟩,⟨some 12,some (9,true),.lenS (.t 11),0,[]⟩,⟨some 13,some (9,true),
 .bin .eql (.t 12) (.c (.v (.int .i64 0))),0,[]⟩,⟨some 14,none,.pick (.t 9) (.t 13) (.c (.v (.bool false))),0,[]⟩,⟨some 3,none,.mov (.t 14),0,[]⟩]) .ret)⟩
theorem pf87_is : pfs 87 = some pf87 := by kernel_rfl
def pf88 : PF := ⟨18,[.t 2],.seq (.reg [⟨some 1,none,.box (.t 0),0,[]⟩,⟨some 2,none,.mov (.c (.v (.bool false))),0,[]⟩]) (.seq (.reg [⟨some 3,none,.faddr 3 (.t 1),0,[]⟩,⟨some 4,none,
 .load false 1 (.t 3),0,[]⟩,⟨some 5,none,.lenS (.t 4),0,[]⟩,⟨some 6,none,.bin .eql (.t 5) (.c (.v (.int .i64 0))),0,[]⟩,⟨some 7,none,.mov (.t 6),0,[]⟩,⟨some 8,some (7,
 true),.faddr 1 (.t 1),0,[]⟩,⟨some 9,some (7,true),.load false 1 (.t 8),0,[]⟩,⟨some 10,some (7,true),.bin .lss (.t 9) (.c (.v (.int .i64 32))),0,[]⟩,⟨some 11,none,
 .pick (.t 7) (.t 10) (.c (.v (.bool false))),0,[]⟩,⟨some 12,none,.mov (.t 11),0,[]⟩,⟨some 13,some (12,true),.faddr 4 (.t 1),0,[]⟩,⟨some 14,some (12,true),
 .load false 1 (.t 13),0,[]⟩,⟨some 15,some (12,true),.lenS (.t 14),0,[]⟩,⟨some 16,some (12,true),.bin .leq (.t 15) (.c (.v (.int .i64 4096))),0,[]⟩,⟨some 17,none,
 .pick (.t 12) (.t 16) (.c (.v (.bool false))),0,[]⟩,⟨some 2,none,.mov (.t 17),0,[]⟩]) .ret)⟩
theorem pf88_is : pfs 88 = some pf88 := by kernel_rfl
def pf89 : PF := ⟨23,[.t 2],.seq (.reg [⟨some 1,none,.box (.t 0),0,[]⟩,⟨some 2,none,.mov (.c (.v (.bool false))),0,[]⟩]) (.seq (.reg [⟨some 3,none,.faddr 3 (.t 1),0,[]⟩,⟨some 4,none,
 .load false 1 (.t 3),0,[]⟩,⟨some 5,none,.lenS (.t 4),0,[]⟩,⟨some 6,none,.bin .leq (.t 5) (.c (.v (.int .i64 32))),0,[]⟩,⟨some 7,none,.mov (.t 6),0,[]⟩,⟨some 8,some (7,
 true),.faddr 4 (.t 1),0,[]⟩,⟨some 9,some (7,true),.load false 1 (.t 8),0,[]⟩,⟨some 10,some (7,true),.lenS (.t 9),0,[]⟩,⟨some 11,some (7,true),.faddr 3 (.t 1),0,[]⟩,
 ⟨some 12,some (7,true),.load false 1 (.t 11),0,[]⟩,⟨some 13,some (7,true),.lenS (.t 12),0,[]⟩,⟨some 14,some (7,true),.bin .add (.t 13) (.c (.v (.int .i64 1))),0,[]⟩,
 ⟨some 15,some (7,true),.bin .eql (.t 10) (.t 14),0,[]⟩,⟨some 16,none,.pick (.t 7) (.t 15) (.c (.v (.bool false))),0,[]⟩,⟨some 17,none,.mov (.t 16),0,[]⟩,⟨some 18,
 some (17,true),.faddr 3 (.t 1),0,[]⟩,⟨some 19,some (17,true),.load false 1 (.t 18),0,[]⟩,⟨some 20,some (17,true),.call (.c (.fn 55 [])) [.t 19,.c (.fn 115 [])],0,[]⟩,
 ⟨some 21,some (17,true),.un .not (.t 20),0,[]⟩,⟨some 22,none,.pick (.t 17) (.t 21) (.c (.v (.bool false))),0,[]⟩,⟨some 2,none,.mov (.t 22),0,[]⟩]) .ret)⟩
theorem pf89_is : pfs 89 = some pf89 := by kernel_rfl
def pf90 : PF := ⟨21,[.t 2],.seq (.reg [⟨some 2,none,.mov (.c (.v (.bool false))),0,[]⟩]) (.seq (.reg [⟨some 3,none,.mov (.t 0),0,[]⟩,⟨some 4,none,.bin .geq (.t 3) (.c (.v (.int .u8 97))
 ),0,[]⟩,⟨some 5,none,.mov (.t 4),0,[]⟩,⟨some 6,some (5,true),.mov (.t 0),0,[]⟩,⟨some 7,some (5,true),.bin .leq (.t 6) (.c (.v (.int .u8 122))),0,[]⟩,⟨some 8,none,
 .pick (.t 5) (.t 7) (.c (.v (.bool false))),0,[]⟩,⟨some 9,none,.mov (.t 8),0,[]⟩,⟨some 10,some (9,false),.mov (.t 0),0,[]⟩,⟨some 11,some (9,false),.bin .geq (.t 10)
  (.c (.v (.int .u8 65))),0,[]⟩,⟨some 12,some (9,false),.mov (.t 11),0,[]⟩,⟨some 13,some (12,true),.mov (.t 0),0,[]⟩,⟨some 14,some (12,true),.bin .leq (.t 13)
  (.c (.v (.int .u8 90))),0,[]⟩,⟨some 15,some (9,false),.pick (.t 12) (.t 14) (.c (.v (.bool false))),0,[]⟩,⟨some 16,none,.pick (.t 9) (.c (.v (.bool true))) (.t 15),0,[]
 ⟩,⟨some 17,none,.mov (.t 16),0,[]⟩,⟨some 18,some (17,false),.mov (.t 0),0,[]⟩,⟨some 19,some (17,false),.bin .eql (.t 18) (.c (.v (.int .u8 95))),0,[]⟩,⟨some 20,none,
 .pick (.t 17) (.c (.v (.bool true))) (.t 19),0,[]⟩,⟨some 2,none,.mov (.t 20),0,[]⟩]) .ret)⟩
theorem pf90_is : pfs 90 = some pf90 := by kernel_rfl
def pf91 : PF := ⟨83,[.t 6,.t 7],.seq (.reg [⟨some 4,none,.box (.t 1),0,[]⟩,⟨some 6,none,.mov (.c (.v (.int .i64 0))),0,[]⟩,⟨some 7,none,.mov (.c (.v (.int .i64 0))),0,[]⟩])
  (.seq (.dreg [5,0] [⟨some 14,none,.mov (.t 0),0,[]⟩,⟨some 15,none,.nilck (.t 14),1,[0]⟩,⟨some 16,none,.faddr 0 (.t 15),2,[1,0]⟩,⟨some 17,none,.load true 12 (.t 16),3,
 [2,1,0]⟩,⟨some 18,none,.load true 5 (.t 4),4,[]⟩,⟨some 19,none,.call (.c (.fn 116 [])) [.t 17,.t 18],5,[4,3,2,1,0]⟩,⟨some 20,none,.call (.c (.fn 47 [])) [.t 19,
 .c (.v (.int .i64 3))],6,[5,4,3,2,1,0]⟩]) (.seq (.reg [⟨some 21,none,.faddr 0 (.t 4),0,[]⟩,⟨some 22,none,.load false 1 (.t 21),0,[]⟩,⟨some 23,none,.call (.c (.fn 117 [])
 ) [.t 22],0,[]⟩,⟨some 24,none,.un .not (.t 23),0,[]⟩,⟨some 25,none,.mov (.t 24),0,[]⟩,⟨some 26,some (25,false),.faddr 2 (.t 4),0,[]⟩,⟨some 27,some (25,false),
 .load false 1 (.t 26),0,[]⟩,⟨some 28,some (25,false),.call (.c (.fn 49 [])) [.t 27],0,[]⟩,⟨some 29,none,.pick (.t 25) (.c (.v (.bool true))) (.t 28),0,[]⟩,⟨some 30,none,
 .call (.c (.fn 47 [])) [.t 29,.c (.v (.int .i64 29))],0,[]⟩]) (.seq (.reg [⟨some 31,none,.faddr 0 (.t 4),0,[]⟩,⟨some 32,none,.load false 1 (.t 31),0,[]⟩,⟨some 33,none,
 .bin .neq (.t 32) (.c (.v (.int .i64 0))),0,[]⟩,⟨some 34,none,.mov (.t 33),0,[]⟩,⟨some 35,some (34,false),.faddr 1 (.t 4),0,[]⟩,⟨some 36,some (34,false),
 .load false 1 (.t 35),0,[]⟩,⟨some 37,some (34,false),.mov (.t 2),0,[]⟩,⟨some 38,some (34,false),.bin .lss (.t 36) (.t 37),0,[]⟩,⟨some 39,none,.pick (.t 34)
  (.c (.v (.bool true))) (.t 38),0,[]⟩,⟨some 40,none,.call (.c (.fn 47 [])) [.t 39,.c (.v (.int .i64 24))],0,[]⟩]) (.seq (.dreg [0,0,0,0,6,0,0] [⟨some 41,none,
 .faddr 0 (.t 4),0,[]⟩,⟨some 42,none,.load false 1 (.t 41),1,[0]⟩,⟨some 43,none,.bin .neq (.t 42) (.c (.v (.int .i64 5))),2,[1,0]⟩,⟨some 44,none,.mov (.t 43),3,[2,1,0]⟩,
 ⟨some 45,some (44,false),.mov (.t 0),4,[3,2,1,0]⟩,⟨some 46,some (44,false),.nilck (.t 45),5,[4,3,2,1,0]⟩,⟨some 47,some (44,false),.faddr 12 (.t 46),6,[5,4,3,2,1,0]⟩,
 ⟨some 48,some (44,false),.load false 1 (.t 47),7,[6,5,4,3,2,1,0]⟩,⟨some 49,some (44,false),.faddr 2 (.t 4),8,[3,2,1,0]⟩,⟨some 50,some (44,false),.load false 1 (.t 49),9,
 [8,3,2,1,0]⟩,⟨some 51,some (44,false),.look (.v (.bool false)) false (KK.sc true) (.t 48) (.t 50),10,[9,8,7,6,5,4,3,2,1,0]⟩,⟨some 52,none,.pick (.t 44)
  (.c (.v (.bool true))) (.t 51),11,[10,9,8,7,6,5,4,3,2,1,0]⟩,⟨some 53,none,.call (.c (.fn 47 [])) [.t 52,.c (.v (.int .i64 9))],12,[11,10,9,8,7,6,5,4,3,2,1,0]⟩])
  (.seq (.reg [⟨some 8,none,.mov (.c (.v (.int .i64 1))),0,[]⟩,⟨some 9,none,.mov (.c (.v (.int .i64 0))),0,[]⟩]) (.seq (.seq (.reg [⟨some 54,none,.faddr 4 (.t 4),0,[]⟩,
 ⟨some 55,none,.load false 1 (.t 54),0,[]⟩,⟨some 56,none,.lenS (.t 55),0,[]⟩,⟨some 57,none,.mov (.c (.v (.int .i64 0))),0,[]⟩]) (.block 0 (.loop (.seq (.reg [⟨some 58,
 none,.bin .lss (.t 57) (.t 56),0,[]⟩]) (.seq (.cond (.t 58) .skip (.exit 0)) (.seq (.block 1 (.seq (.reg [⟨some 59,none,.mov (.t 57),0,[]⟩,⟨some 60,none,.iaddr 5 (.t 55)
  (.t 57),0,[]⟩,⟨some 61,none,.load true 5 (.t 60),0,[]⟩,⟨some 11,none,.alloc [.v (.int .i64 0),.v (.int .i64 0),.v (.string (ByteArray.mk #[])),.sl [] .nil,.sl [] .nil],
 0,[]⟩,⟨some 10,none,.mov (.t 59),0,[]⟩,⟨none,none,.store 5 (.t 11) (.t 61),0,[]⟩]) (.seq (.dreg [7,0,3] [⟨some 63,none,.mov (.t 0),0,[]⟩,⟨some 64,none,
 .load true 5 (.t 11),1,[]⟩,⟨some 65,none,.mov (.t 2),2,[]⟩,⟨some 66,none,.load true 5 (.t 4),3,[]⟩,⟨some 67,none,.mov (.t 10),4,[]⟩,⟨some 68,none,.call (.c (.fn 118 []))
  [.t 66,.t 67],5,[4,3]⟩,⟨some 69,none,.bin .add (.t 65) (.t 68),6,[5,4,3,2]⟩,⟨some 70,none,.call (.c (.fn 91 [])) [.t 63,.t 64,.t 69],7,[6,5,4,3,2,1,0]⟩,⟨some 62,none,
 .mov (.t 70),8,[7,6,5,4,3,2,1,0]⟩,⟨some 71,none,.ext (.t 62) 0,9,[8,7,6,5,4,3,2,1,0]⟩,⟨some 72,none,.ext (.t 62) 1,10,[8,7,6,5,4,3,2,1,0]⟩,⟨some 12,none,.mov (.t 71),11,
 [9,8,7,6,5,4,3,2,1,0]⟩,⟨some 13,none,.mov (.t 72),12,[11,9,10,8,7,6,5,4,3,2,1,0]⟩]) (.reg [⟨some 73,none,.mov (.t 8),0,[]⟩,⟨some 74,none,.mov (.t 12),0,[]⟩,⟨some 75,
 none,.bin .add (.t 73) (.t 74),0,[]⟩,⟨some 76,none,.mov (.t 9),0,[]⟩,⟨some 77,none,.mov (.t 13),0,[]⟩,⟨some 78,none,.max (.t 76) (.t 77),0,[]⟩,⟨some 8,none,.mov (.t 75),
 0,[]⟩,⟨some 9,none,.mov (.t 78),0,[]⟩])))) (.reg [⟨some 79,none,.bin .add (.t 57) (.c (.v (.int .i64 1))),0,[]⟩,⟨some 57,none,.mov (.t 79),0,[]⟩])))))))
  (.seq (.reg [⟨some 80,none,.mov (.t 8),0,[]⟩,⟨some 81,none,.mov (.t 9),0,[]⟩,⟨some 82,none,.bin .add (.t 81) (.c (.v (.int .i64 1))),0,[]⟩,⟨some 6,none,.mov (.t 80),0,
 []⟩,⟨some 7,none,.mov (.t 82),0,[]⟩]) .ret)))))))⟩
theorem pf91_is : pfs 91 = some pf91 := by kernel_rfl
def pf92 : PF := ⟨7,[],.seq (.reg [⟨some 2,none,.box (.t 0),0,[]⟩]) (.reg [⟨some 3,none,.load false 1 (.t 1),0,[]⟩,⟨some 4,none,.faddr 1 (.t 2),0,[]⟩,⟨some 5,none,.load false 1 (.t 4),0,
 []⟩,⟨some 6,none,.call (.c (.fn 24 [])) [.t 3,.c (.v (.int .i64 0)),.t 5,.c (.v (.int .i64 0)),.c (.v (.string (ByteArray.mk #[])))],0,[]⟩])⟩
theorem pf92_is : pfs 92 = some pf92 := by kernel_rfl
def pf93 : PF := ⟨11,[],.seq (.reg [⟨some 2,none,.box (.t 0),0,[]⟩]) (.dreg [7007] [⟨some 3,none,.load false 1 (.t 1),0,[]⟩,⟨some 4,none,.load false 1 (.t 1),1,[]⟩,⟨some 5,none,
 .faddr 4 (.t 2),2,[]⟩,⟨some 6,none,.load false 1 (.t 5),3,[2]⟩,⟨some 7,none,.iaddr 5 (.t 6) (.c (.v (.int .i64 0))),4,[3,2]⟩,⟨some 8,none,.load true 5 (.t 7),5,[4,3,2]⟩,
 ⟨some 9,none,.call (.c (.fn 21 [])) [.t 4,.t 8],6,[5,4,3,2,1]⟩,⟨some 10,none,.call (.c (.fn 24 [])) [.t 3,.c (.v (.int .i64 1)),.t 9,.c (.v (.int .i64 0)),
 .c (.v (.string (ByteArray.mk #[])))],7,[6,5,4,3,2,1,0]⟩])⟩
theorem pf93_is : pfs 93 = some pf93 := by kernel_rfl
def pf95 : PF := ⟨26,[],.seq (.reg [⟨some 3,none,.box (.t 1),0,[]⟩]) (.seq (.seq (.reg [⟨some 6,none,.faddr 4 (.t 3),0,[]⟩,⟨some 7,none,.load false 1 (.t 6),0,[]⟩,⟨some 8,none,
 .lenS (.t 7),0,[]⟩,⟨some 9,none,.mov (.c (.v (.int .i64 0))),0,[]⟩]) (.block 0 (.loop (.seq (.reg [⟨some 10,none,.bin .lss (.t 9) (.t 8),0,[]⟩]) (.seq (.cond (.t 10)
  .skip (.exit 0)) (.seq (.block 1 (.seq (.reg [⟨some 11,none,.iaddr 5 (.t 7) (.t 9),0,[]⟩,⟨some 12,none,.load true 5 (.t 11),0,[]⟩,⟨some 5,none,.alloc [.v (.int .i64 0),
 .v (.int .i64 0),.v (.string (ByteArray.mk #[])),.sl [] .nil,.sl [] .nil],0,[]⟩,⟨none,none,.store 5 (.t 5) (.t 12),0,[]⟩]) (.reg [⟨some 13,none,.mov (.t 0),0,[]⟩,
 ⟨some 14,none,.load true 5 (.t 5),0,[]⟩,⟨some 15,none,.call (.c (.fn 23 [])) [.t 13,.t 14],0,[]⟩]))) (.reg [⟨some 16,none,.bin .add (.t 9) (.c (.v (.int .i64 1))),0,[]⟩,
 ⟨some 9,none,.mov (.t 16),0,[]⟩]))))))) (.reg [⟨some 17,none,.mov (.t 0),0,[]⟩,⟨some 18,none,.faddr 1 (.t 3),0,[]⟩,⟨some 19,none,.load false 1 (.t 18),0,[]⟩,⟨some 20,
 none,.faddr 4 (.t 3),0,[]⟩,⟨some 21,none,.load false 1 (.t 20),0,[]⟩,⟨some 22,none,.lenS (.t 21),0,[]⟩,⟨some 23,none,.faddr 2 (.t 3),0,[]⟩,⟨some 24,none,
 .load false 1 (.t 23),0,[]⟩,⟨some 25,none,.call (.c (.fn 24 [])) [.t 17,.c (.v (.int .i64 4)),.t 19,.t 22,.t 24],0,[]⟩]))⟩
theorem pf95_is : pfs 95 = some pf95 := by kernel_rfl
def pf96 : PF := ⟨37,[],.seq (.reg [⟨some 3,none,.box (.t 1),0,[]⟩]) (.seq (.reg [⟨some 6,none,.mov (.t 0),0,[]⟩,⟨some 7,none,.faddr 4 (.t 3),0,[]⟩,⟨some 8,none,.load false 1 (.t 7),0,[]
 ⟩,⟨some 9,none,.iaddr 5 (.t 8) (.c (.v (.int .i64 0))),0,[]⟩,⟨some 10,none,.load true 5 (.t 9),0,[]⟩,⟨some 11,none,.call (.c (.fn 23 [])) [.t 6,.t 10],0,[]⟩])
  (.seq (.reg [⟨some 12,none,.mov (.t 0),0,[]⟩,⟨some 13,none,.faddr 3 (.t 3),0,[]⟩,⟨some 14,none,.load false 1 (.t 13),0,[]⟩,⟨some 15,none,.lenS (.t 14),0,[]⟩,⟨some 16,
 none,.call (.c (.fn 24 [])) [.t 12,.c (.v (.int .i64 5)),.t 15,.c (.v (.int .i64 0)),.c (.v (.string (ByteArray.mk #[])))],0,[]⟩]) (.seq (.reg [⟨some 17,none,
 .faddr 3 (.t 3),0,[]⟩,⟨some 18,none,.load false 1 (.t 17),0,[]⟩,⟨some 19,none,.lenS (.t 18),0,[]⟩,⟨some 20,none,.mov (.c (.v (.int .i64 0))),0,[]⟩])
  (.block 0 (.loop (.seq (.reg [⟨some 21,none,.bin .lss (.t 20) (.t 19),0,[]⟩]) (.seq (.cond (.t 21) .skip (.exit 0)) (.seq (.block 1 (.seq (.reg [⟨some 22,none,
 .mov (.t 20),0,[]⟩,⟨some 23,none,.iaddr 1 (.t 18) (.t 20),0,[]⟩,⟨some 24,none,.load false 1 (.t 23),0,[]⟩,⟨some 4,none,.mov (.t 22),0,[]⟩,⟨some 5,none,.mov (.t 24),0,[]⟩
 ]) (.reg [⟨some 25,none,.mov (.t 0),0,[]⟩,⟨some 26,none,.mov (.t 0),0,[]⟩,⟨some 27,none,.faddr 4 (.t 3),0,[]⟩,⟨some 28,none,.load false 1 (.t 27),0,[]⟩,⟨some 29,none,
 .mov (.t 4),0,[]⟩,⟨some 30,none,.bin .add (.t 29) (.c (.v (.int .i64 1))),0,[]⟩,⟨some 31,none,.iaddr 5 (.t 28) (.t 30),0,[]⟩,⟨some 32,none,.load true 5 (.t 31),0,[]⟩,
 ⟨some 33,none,.call (.c (.fn 21 [])) [.t 26,.t 32],0,[]⟩,⟨some 34,none,.mov (.t 5),0,[]⟩,⟨some 35,none,.call (.c (.fn 24 [])) [.t 25,.c (.v (.int .i64 6)),.t 33,.t 34,
 .c (.v (.string (ByteArray.mk #[])))],0,[]⟩]))) (.reg [⟨some 36,none,.bin .add (.t 20) (.c (.v (.int .i64 1))),0,[]⟩,⟨some 20,none,.mov (.t 36),0,[]⟩])))))))))⟩
theorem pf96_is : pfs 96 = some pf96 := by kernel_rfl
def pf97 : PF := ⟨12,[],.seq (.reg [⟨some 3,none,.box (.t 1),0,[]⟩]) (.reg [⟨some 4,none,.mov (.t 0),0,[]⟩,⟨some 5,none,.mov (.t 0),0,[]⟩,⟨some 6,none,.nilck (.t 5),0,[]⟩,⟨some 7,none,
 .faddr 0 (.t 6),0,[]⟩,⟨some 8,none,.load false 1 (.t 7),0,[]⟩,⟨some 9,none,.mkfn 121 [.t 3],0,[]⟩,⟨some 10,none,.call (.c (.fn 120 [])) [.t 8,.t 9],0,[]⟩,⟨some 11,none,
 .call (.c (.fn 24 [])) [.t 4,.c (.v (.int .i64 7)),.t 10,.c (.v (.int .i64 0)),.c (.v (.string (ByteArray.mk #[])))],0,[]⟩])⟩
theorem pf97_is : pfs 97 = some pf97 := by kernel_rfl
def pf98 : PF := ⟨20,[],.seq (.reg [⟨some 3,none,.box (.t 1),0,[]⟩]) (.seq (.reg [⟨some 4,none,.mov (.t 0),0,[]⟩,⟨some 5,none,.faddr 4 (.t 3),0,[]⟩,⟨some 6,none,.load false 1 (.t 5),0,[]
 ⟩,⟨some 7,none,.iaddr 5 (.t 6) (.c (.v (.int .i64 0))),0,[]⟩,⟨some 8,none,.load true 5 (.t 7),0,[]⟩,⟨some 9,none,.call (.c (.fn 23 [])) [.t 4,.t 8],0,[]⟩])
  (.seq (.reg [⟨some 10,none,.mov (.t 0),0,[]⟩,⟨some 11,none,.call (.c (.fn 24 [])) [.t 10,.c (.v (.int .i64 9)),.c (.v (.int .i64 0)),.c (.v (.int .i64 0)),
 .c (.v (.string (ByteArray.mk #[])))],0,[]⟩]) (.seq (.reg [⟨some 12,none,.mov (.t 0),0,[]⟩,⟨some 13,none,.faddr 4 (.t 3),0,[]⟩,⟨some 14,none,.load false 1 (.t 13),0,[]⟩,
 ⟨some 15,none,.iaddr 5 (.t 14) (.c (.v (.int .i64 1))),0,[]⟩,⟨some 16,none,.load true 5 (.t 15),0,[]⟩,⟨some 17,none,.call (.c (.fn 23 [])) [.t 12,.t 16],0,[]⟩])
  (.reg [⟨some 18,none,.mov (.t 0),0,[]⟩,⟨some 19,none,.call (.c (.fn 24 [])) [.t 18,.c (.v (.int .i64 10)),.c (.v (.int .i64 0)),.c (.v (.int .i64 0)),
 .c (.v (.string (ByteArray.mk #[])))],0,[]⟩]))))⟩
theorem pf98_is : pfs 98 = some pf98 := by kernel_rfl
def pf99 : PF := ⟨73,[.t 6],.seq (.reg [⟨some 3,none,.box (.t 0),0,[]⟩,⟨some 4,none,.box (.t 1),0,[]⟩,⟨some 6,none,.mov (.c (.v (.int .i64 0))),0,[]⟩]) (.seq (.seq (.reg [⟨some 11,none,
 .load true 5 (.t 4),0,[]⟩,⟨some 12,none,.call (.c (.fn 38 [])) [.t 11],0,[]⟩,⟨some 13,none,.un .not (.t 12),0,[]⟩]) (.cond (.t 13) (.seq (.reg [⟨some 6,none,
 .mov (.c (.v (.int .i64 3))),0,[]⟩]) .ret) .skip)) (.seq (.seq (.reg [⟨some 14,none,.faddr 0 (.t 4),0,[]⟩,⟨some 15,none,.load false 1 (.t 14),0,[]⟩,⟨some 16,none,
 .bin .eql (.t 15) (.c (.v (.int .i64 3))),0,[]⟩,⟨some 17,none,.mov (.t 16),0,[]⟩,⟨some 18,some (17,false),.faddr 0 (.t 4),0,[]⟩,⟨some 19,some (17,false),
 .load false 1 (.t 18),0,[]⟩,⟨some 20,some (17,false),.bin .eql (.t 19) (.c (.v (.int .i64 5))),0,[]⟩,⟨some 21,none,.pick (.t 17) (.c (.v (.bool true))) (.t 20),0,[]⟩,
 ⟨some 22,none,.mov (.t 21),0,[]⟩,⟨some 23,some (22,true),.faddr 2 (.t 4),0,[]⟩,⟨some 24,some (22,true),.load false 1 (.t 23),0,[]⟩,⟨some 25,some (22,true),
 .call (.c (.fn 39 [])) [.t 24],0,[]⟩,⟨some 26,some (22,true),.un .not (.t 25),0,[]⟩,⟨some 27,none,.pick (.t 22) (.t 26) (.c (.v (.bool false))),0,[]⟩]) (.cond (.t 27)
  (.seq (.reg [⟨some 6,none,.mov (.c (.v (.int .i64 29))),0,[]⟩]) .ret) .skip)) (.seq (.seq (.reg [⟨some 28,none,.faddr 0 (.t 4),0,[]⟩,⟨some 29,none,.load false 1 (.t 28)
 ,0,[]⟩,⟨some 30,none,.bin .eql (.t 29) (.c (.v (.int .i64 0))),0,[]⟩,⟨some 31,none,.mov (.t 30),0,[]⟩,⟨some 32,some (31,true),.faddr 1 (.t 4),0,[]⟩,⟨some 33,some (31,
 true),.load false 1 (.t 32),0,[]⟩,⟨some 34,some (31,true),.mov (.t 2),0,[]⟩,⟨some 35,some (31,true),.bin .geq (.t 33) (.t 34),0,[]⟩,⟨some 36,none,.pick (.t 31) (.t 35)
  (.c (.v (.bool false))),0,[]⟩]) (.cond (.t 36) (.seq (.reg [⟨some 6,none,.mov (.c (.v (.int .i64 24))),0,[]⟩]) .ret) .skip)) (.seq (.seq (.reg [⟨some 38,none,
 .load true 6 (.t 3),0,[]⟩,⟨some 39,none,.faddr 2 (.t 4),0,[]⟩,⟨some 40,none,.load false 1 (.t 39),0,[]⟩,⟨some 41,none,.call (.c (.fn 68 [])) [.t 38,.t 40],0,[]⟩,
 ⟨some 37,none,.mov (.t 41),0,[]⟩,⟨some 42,none,.ext (.t 37) 0,0,[]⟩,⟨some 43,none,.ext (.t 37) 1,0,[]⟩,⟨some 7,none,.alloc [.v (.int .i64 0),.v (.int .i64 0),
 .v (.string (ByteArray.mk #[])),.sl [] .nil,.sl [] .nil],0,[]⟩,⟨none,none,.store 5 (.t 7) (.t 42),0,[]⟩,⟨some 8,none,.mov (.t 43),0,[]⟩]) (.seq (.reg [⟨some 44,none,
 .faddr 0 (.t 4),0,[]⟩,⟨some 45,none,.load false 1 (.t 44),0,[]⟩,⟨some 46,none,.bin .eql (.t 45) (.c (.v (.int .i64 5))),0,[]⟩,⟨some 47,none,.mov (.t 46),0,[]⟩,⟨some 48,
 some (47,true),.mov (.t 8),0,[]⟩,⟨some 49,some (47,true),.un .not (.t 48),0,[]⟩,⟨some 50,none,.pick (.t 47) (.t 49) (.c (.v (.bool false))),0,[]⟩]) (.cond (.t 50)
  (.seq (.reg [⟨some 6,none,.mov (.c (.v (.int .i64 9))),0,[]⟩]) .ret) .skip))) (.seq (.seq (.reg [⟨some 9,none,.mov (.c (.v (.int .i64 0))),0,[]⟩])
  (.block 0 (.loop (.seq (.seq (.reg [⟨some 51,none,.mov (.t 9),0,[]⟩,⟨some 52,none,.faddr 4 (.t 4),0,[]⟩,⟨some 53,none,.load false 1 (.t 52),0,[]⟩,⟨some 54,none,
 .lenS (.t 53),0,[]⟩,⟨some 55,none,.bin .lss (.t 51) (.t 54),0,[]⟩]) (.cond (.t 55) .skip (.exit 0))) (.seq (.block 1 (.seq (.dreg [11,0] [⟨some 58,none,
 .load true 6 (.t 3),0,[]⟩,⟨some 59,none,.faddr 4 (.t 4),1,[]⟩,⟨some 60,none,.load false 1 (.t 59),2,[1]⟩,⟨some 61,none,.mov (.t 9),3,[]⟩,⟨some 62,none,.iaddr 5 (.t 60)
  (.t 61),4,[3,2,1]⟩,⟨some 63,none,.load true 5 (.t 62),5,[4,3,2,1]⟩,⟨some 64,none,.mov (.t 2),6,[]⟩,⟨some 65,none,.load true 5 (.t 4),7,[]⟩,⟨some 66,none,.mov (.t 9),8,
 []⟩,⟨some 67,none,.call (.c (.fn 122 [])) [.t 65,.t 66],9,[8,7]⟩,⟨some 68,none,.bin .add (.t 64) (.t 67),10,[9,8,7,6]⟩,⟨some 69,none,.call (.c (.fn 99 [])) [.t 58,.t 63,
 .t 68],11,[10,9,8,7,6,5,4,3,2,1,0]⟩,⟨some 10,none,.mov (.t 69),12,[11,10,9,8,7,6,5,4,3,2,1,0]⟩]) (.seq (.reg [⟨some 70,none,.mov (.t 10),0,[]⟩,⟨some 71,none,
 .bin .neq (.t 70) (.c (.v (.int .i64 0))),0,[]⟩]) (.cond (.t 71) (.seq (.reg [⟨some 72,none,.mov (.t 10),0,[]⟩,⟨some 6,none,.mov (.t 72),0,[]⟩]) .ret) .skip))))
  (.reg [⟨some 56,none,.mov (.t 9),0,[]⟩,⟨some 57,none,.bin .add (.t 56) (.c (.v (.int .i64 1))),0,[]⟩,⟨some 9,none,.mov (.t 57),0,[]⟩])))))) (.seq (.reg [⟨some 6,none,
 .mov (.c (.v (.int .i64 0))),0,[]⟩]) .ret))))))⟩
theorem pf99_is : pfs 99 = some pf99 := by kernel_rfl
def pf100 : PF := ⟨22,[.t 2],.seq (.reg [⟨some 1,none,.box (.t 0),0,[]⟩,⟨some 2,none,.mov (.c (.v (.int .i64 0))),0,[]⟩]) (.seq (.reg [⟨some 3,none,.mov (.c (.v (.int .i64 0))),0,[]⟩])
  (.seq (.seq (.reg [⟨some 4,none,.mov (.c (.v (.int .i64 0))),0,[]⟩]) (.block 0 (.loop (.seq (.seq (.reg [⟨some 5,none,.mov (.t 4),0,[]⟩,⟨some 6,none,.faddr 4 (.t 1),0,
 []⟩,⟨some 7,none,.load false 1 (.t 6),0,[]⟩,⟨some 8,none,.lenS (.t 7),0,[]⟩,⟨some 9,none,.bin .lss (.t 5) (.t 8),0,[]⟩]) (.cond (.t 9) .skip (.exit 0)))
  (.seq (.block 1 (.reg [⟨some 12,none,.mov (.t 3),0,[]⟩,⟨some 13,none,.faddr 4 (.t 1),0,[]⟩,⟨some 14,none,.load false 1 (.t 13),0,[]⟩,⟨some 15,none,.mov (.t 4),0,[]⟩,
 ⟨some 16,none,.iaddr 5 (.t 14) (.t 15),0,[]⟩,⟨some 17,none,.load true 5 (.t 16),0,[]⟩,⟨some 18,none,.call (.c (.fn 100 [])) [.t 17],0,[]⟩,⟨some 19,none,.max (.t 12)
  (.t 18),0,[]⟩,⟨some 3,none,.mov (.t 19),0,[]⟩])) (.reg [⟨some 10,none,.mov (.t 4),0,[]⟩,⟨some 11,none,.bin .add (.t 10) (.c (.v (.int .i64 1))),0,[]⟩,⟨some 4,none,
 .mov (.t 11),0,[]⟩])))))) (.seq (.reg [⟨some 20,none,.mov (.t 3),0,[]⟩,⟨some 21,none,.bin .add (.t 20) (.c (.v (.int .i64 1))),0,[]⟩,⟨some 2,none,.mov (.t 21),0,[]⟩])
  .ret)))⟩
theorem pf100_is : pfs 100 = some pf100 := by kernel_rfl
def pf101 : PF := ⟨19,[.t 4],.seq (.reg [⟨some 4,none,.mov (.c (.v (.int .i64 0))),0,[]⟩]) (.seq (.seq (.reg [⟨some 6,none,.mov (.t 0),0,[]⟩,⟨some 7,none,.lenS (.t 6),0,[]⟩,⟨some 8,none,
 .mov (.c (.v (.int .i64 0))),0,[]⟩]) (.block 0 (.loop (.seq (.reg [⟨some 9,none,.bin .lss (.t 8) (.t 7),0,[]⟩]) (.seq (.cond (.t 9) .skip (.exit 0))
  (.seq (.block 1 (.seq (.reg [⟨some 10,none,.mov (.t 8),0,[]⟩,⟨some 5,none,.mov (.t 10),0,[]⟩]) (.seq (.reg [⟨some 11,none,.mov (.t 1),0,[]⟩,⟨some 12,none,.mov (.t 0),0,
 []⟩,⟨some 13,none,.mov (.t 5),0,[]⟩,⟨some 14,none,.iaddr 1 (.t 12) (.t 13),0,[]⟩,⟨some 15,none,.load false 1 (.t 14),0,[]⟩,⟨some 16,none,.call (.t 11) [.t 15],0,[]⟩])
  (.cond (.t 16) (.seq (.reg [⟨some 17,none,.mov (.t 5),0,[]⟩,⟨some 4,none,.mov (.t 17),0,[]⟩]) .ret) .skip)))) (.reg [⟨some 18,none,.bin .add (.t 8)
  (.c (.v (.int .i64 1))),0,[]⟩,⟨some 8,none,.mov (.t 18),0,[]⟩]))))))) (.seq (.reg [⟨some 4,none,.mov (.c (.v (.int .i64 (-1)))),0,[]⟩]) .ret))⟩
theorem pf101_is : pfs 101 = some pf101 := by kernel_rfl
def pf115 : PF := ⟨9,[.t 2],.seq (.reg [⟨some 2,none,.mov (.c (.v (.bool false))),0,[]⟩]) (.seq (.reg [⟨some 3,none,.mov (.t 0),0,[]⟩,⟨some 4,none,.bin .lss (.t 3) (.c (.v (.int .i64 0)))
 ,0,[]⟩,⟨some 5,none,.mov (.t 4),0,[]⟩,⟨some 6,some (5,false),.mov (.t 0),0,[]⟩,⟨some 7,some (5,false),.bin .gtr (.t 6) (.c (.v (.int .i64 64))),0,[]⟩,⟨some 8,none,
 .pick (.t 5) (.c (.v (.bool true))) (.t 7),0,[]⟩,⟨some 2,none,.mov (.t 8),0,[]⟩]) .ret)⟩
theorem pf115_is : pfs 115 = some pf115 := by kernel_rfl
def pf116 : PF := ⟨50,[.t 4],.seq (.reg [⟨some 2,none,.box (.t 0),0,[]⟩,⟨some 3,none,.box (.t 1),0,[]⟩,⟨some 4,none,.mov (.c (.v (.bool false))),0,[]⟩]) (.seq (.seq (.reg [⟨some 5,none,
 .faddr 0 (.t 3),0,[]⟩,⟨some 6,none,.load false 1 (.t 5),0,[]⟩,⟨some 7,none,.bin .lss (.t 6) (.c (.v (.int .i64 0))),0,[]⟩,⟨some 8,none,.mov (.t 7),0,[]⟩,⟨some 9,some (8,
 false),.faddr 0 (.t 3),0,[]⟩,⟨some 10,some (8,false),.load false 1 (.t 9),0,[]⟩,⟨some 11,some (8,false),.bin .geq (.t 10) (.c (.v (.int .i64 12))),0,[]⟩,⟨some 12,none,
 .pick (.t 8) (.c (.v (.bool true))) (.t 11),0,[]⟩,⟨some 13,none,.mov (.t 12),0,[]⟩,⟨some 14,some (13,false),.faddr 1 (.t 3),0,[]⟩,⟨some 15,some (13,false),
 .load false 1 (.t 14),0,[]⟩,⟨some 16,some (13,false),.bin .lss (.t 15) (.c (.v (.int .i64 0))),0,[]⟩,⟨some 17,none,.pick (.t 13) (.c (.v (.bool true))) (.t 16),0,[]⟩,
 ⟨some 18,none,.mov (.t 17),0,[]⟩,⟨some 19,some (18,false),.faddr 2 (.t 3),0,[]⟩,⟨some 20,some (18,false),.load false 1 (.t 19),0,[]⟩,⟨some 21,some (18,false),
 .bin .neq (.t 20) (.c (.v (.string (ByteArray.mk #[])))),0,[]⟩,⟨some 22,some (18,false),.mov (.t 21),0,[]⟩,⟨some 23,some (22,true),.faddr 0 (.t 3),0,[]⟩,⟨some 24,
 some (22,true),.load false 1 (.t 23),0,[]⟩,⟨some 25,some (22,true),.call (.c (.fn 117 [])) [.t 24],0,[]⟩,⟨some 26,some (22,true),.un .not (.t 25),0,[]⟩,⟨some 27,
 some (18,false),.pick (.t 22) (.t 26) (.c (.v (.bool false))),0,[]⟩,⟨some 28,none,.pick (.t 18) (.c (.v (.bool true))) (.t 27),0,[]⟩]) (.cond (.t 28)
  (.seq (.reg [⟨some 4,none,.mov (.c (.v (.bool false))),0,[]⟩]) .ret) .skip)) (.seq (.dreg [0,0,0,0,0,0,0,0,0,0,0,0,0,0,5,0,0] [⟨some 29,none,.faddr 1 (.t 3),0,[]⟩,
 ⟨some 30,none,.load false 1 (.t 29),1,[0]⟩,⟨some 31,none,.bin .eql (.t 30) (.c (.v (.int .i64 0))),2,[1,0]⟩,⟨some 32,none,.mov (.t 31),3,[2,1,0]⟩,⟨some 33,some (32,
 false),.faddr 0 (.t 3),4,[3,2,1,0]⟩,⟨some 34,some (32,false),.load false 1 (.t 33),5,[4,3,2,1,0]⟩,⟨some 35,some (32,false),.bin .eql (.t 34) (.c (.v (.int .i64 0))),6,
 [5,4,3,2,1,0]⟩,⟨some 36,none,.pick (.t 32) (.c (.v (.bool true))) (.t 35),7,[6,5,4,3,2,1,0]⟩,⟨some 37,none,.mov (.t 36),8,[7,6,5,4,3,2,1,0]⟩,⟨some 38,some (37,false),
 .faddr 0 (.t 3),9,[8,7,6,5,4,3,2,1,0]⟩,⟨some 39,some (37,false),.load false 1 (.t 38),10,[9,8,7,6,5,4,3,2,1,0]⟩,⟨some 40,some (37,false),.bin .eql (.t 39)
  (.c (.v (.int .i64 3))),11,[10,9,8,7,6,5,4,3,2,1,0]⟩,⟨some 41,none,.pick (.t 37) (.c (.v (.bool true))) (.t 40),12,[11,10,9,8,7,6,5,4,3,2,1,0]⟩,⟨some 42,none,
 .mov (.t 41),13,[12,11,10,9,8,7,6,5,4,3,2,1,0]⟩,⟨some 43,some (42,true),.faddr 0 (.t 3),14,[13,12,11,10,9,8,7,6,5,4,3,2,1,0]⟩,⟨some 44,some (42,true),
 .load false 1 (.t 43),15,[14,13,12,11,10,9,8,7,6,5,4,3,2,1,0]⟩,⟨some 45,some (42,true),.iaddrA 12 1 (.t 2) (.t 44),16,[15,14,13,12,11,10,9,8,7,6,5,4,3,2,1,0]⟩,⟨some 46,
 some (42,true),.load false 1 (.t 45),17,[16,15,14,13,12,11,10,9,8,7,6,5,4,3,2,1,0]⟩,⟨some 47,some (42,true),.load true 5 (.t 3),18,[13,12,11,10,9,8,7,6,5,4,3,2,1,0]⟩,
 ⟨some 48,some (42,true),.call (.t 46) [.t 47],19,[18,17,16,15,14,13,12,11,10,9,8,7,6,5,4,3,2,1,0]⟩,⟨some 49,none,.pick (.t 42) (.t 48) (.c (.v (.bool false))),20,[19,18,
 17,16,15,14,13,12,11,10,9,8,7,6,5,4,3,2,1,0]⟩,⟨some 4,none,.mov (.t 49),21,[20,19,18,17,16,15,14,13,12,11,10,9,8,7,6,5,4,3,2,1,0]⟩]) .ret))⟩
theorem pf116_is : pfs 116 = some pf116 := by kernel_rfl
def pf117 : PF := ⟨9,[.t 2],.seq (.reg [⟨some 2,none,.mov (.c (.v (.bool false))),0,[]⟩]) (.seq (.reg [⟨some 3,none,.mov (.t 0),0,[]⟩,⟨some 4,none,.bin .eql (.t 3) (.c (.v (.int .i64 3)))
 ,0,[]⟩,⟨some 5,none,.mov (.t 4),0,[]⟩,⟨some 6,some (5,false),.mov (.t 0),0,[]⟩,⟨some 7,some (5,false),.bin .eql (.t 6) (.c (.v (.int .i64 5))),0,[]⟩,⟨some 8,none,
 .pick (.t 5) (.c (.v (.bool true))) (.t 7),0,[]⟩,⟨some 2,none,.mov (.t 8),0,[]⟩]) .ret)⟩
theorem pf117_is : pfs 117 = some pf117 := by kernel_rfl
def pf118 : PF := ⟨38,[.t 4],.seq (.reg [⟨some 2,none,.box (.t 0),0,[]⟩,⟨some 4,none,.mov (.c (.v (.int .i64 0))),0,[]⟩]) (.seq (.block 0 (.seq (.seq (.reg [⟨some 6,none,.faddr 0 (.t 2),
 0,[]⟩,⟨some 7,none,.load false 1 (.t 6),0,[]⟩,⟨some 8,none,.bin .eql (.t 7) (.c (.v (.int .i64 1))),0,[]⟩,⟨some 5,none,.mov (.t 8),0,[]⟩]) (.cond (.t 5)
  .skip (.reg [⟨some 9,none,.faddr 0 (.t 2),0,[]⟩,⟨some 10,none,.load false 1 (.t 9),0,[]⟩,⟨some 11,none,.bin .eql (.t 10) (.c (.v (.int .i64 7))),0,[]⟩,⟨some 12,none,
 .mov (.t 11),0,[]⟩,⟨some 13,some (12,true),.mov (.t 1),0,[]⟩,⟨some 14,some (12,true),.bin .eql (.t 13) (.c (.v (.int .i64 1))),0,[]⟩,⟨some 15,none,.pick (.t 12) (.t 14)
  (.c (.v (.bool false))),0,[]⟩,⟨some 5,none,.mov (.t 15),0,[]⟩]))) (.cond (.t 5) (.seq (.reg [⟨some 4,none,.mov (.c (.v (.int .i64 1))),0,[]⟩]) .ret)
  (.seq (.reg [⟨some 17,none,.faddr 0 (.t 2),0,[]⟩,⟨some 18,none,.load false 1 (.t 17),0,[]⟩,⟨some 19,none,.bin .eql (.t 18) (.c (.v (.int .i64 4))),0,[]⟩,⟨some 20,none,
 .mov (.t 19),0,[]⟩,⟨some 21,some (20,true),.mov (.t 1),0,[]⟩,⟨some 22,some (20,true),.bin .geq (.t 21) (.c (.v (.int .i64 1))),0,[]⟩,⟨some 23,none,.pick (.t 20) (.t 22)
  (.c (.v (.bool false))),0,[]⟩,⟨some 24,none,.mov (.t 23),0,[]⟩,⟨some 25,some (24,true),.mov (.t 1),0,[]⟩,⟨some 26,some (24,true),.faddr 3 (.t 2),0,[]⟩,⟨some 27,
 some (24,true),.load false 1 (.t 26),0,[]⟩,⟨some 28,some (24,true),.lenS (.t 27),0,[]⟩,⟨some 29,some (24,true),.bin .leq (.t 25) (.t 28),0,[]⟩,⟨some 30,none,
 .pick (.t 24) (.t 29) (.c (.v (.bool false))),0,[]⟩,⟨some 16,none,.mov (.t 30),0,[]⟩]) (.cond (.t 16) (.seq (.reg [⟨some 31,none,.faddr 3 (.t 2),0,[]⟩,⟨some 32,none,
 .load false 1 (.t 31),0,[]⟩,⟨some 33,none,.mov (.t 1),0,[]⟩,⟨some 34,none,.bin .sub (.t 33) (.c (.v (.int .i64 1))),0,[]⟩,⟨some 35,none,.iaddr 1 (.t 32) (.t 34),0,[]⟩,
 ⟨some 36,none,.load false 1 (.t 35),0,[]⟩,⟨some 37,none,.max (.c (.v (.int .i64 0))) (.t 36),0,[]⟩,⟨some 4,none,.mov (.t 37),0,[]⟩]) .ret) .skip)))))
  (.seq (.reg [⟨some 4,none,.mov (.c (.v (.int .i64 0))),0,[]⟩]) .ret))⟩
theorem pf118_is : pfs 118 = some pf118 := by kernel_rfl
def pf119 : PF := ⟨20,[],.seq (.reg [⟨some 3,none,.box (.t 0),0,[]⟩]) (.seq (.seq (.reg [⟨some 6,none,.faddr 4 (.t 3),0,[]⟩,⟨some 7,none,.load false 1 (.t 6),0,[]⟩,⟨some 8,none,
 .lenS (.t 7),0,[]⟩,⟨some 9,none,.mov (.c (.v (.int .i64 0))),0,[]⟩]) (.block 0 (.loop (.seq (.reg [⟨some 10,none,.bin .lss (.t 9) (.t 8),0,[]⟩]) (.seq (.cond (.t 10)
  .skip (.exit 0)) (.seq (.block 1 (.seq (.reg [⟨some 11,none,.iaddr 5 (.t 7) (.t 9),0,[]⟩,⟨some 12,none,.load true 5 (.t 11),0,[]⟩,⟨some 5,none,.alloc [.v (.int .i64 0),
 .v (.int .i64 0),.v (.string (ByteArray.mk #[])),.sl [] .nil,.sl [] .nil],0,[]⟩,⟨none,none,.store 5 (.t 5) (.t 12),0,[]⟩]) (.reg [⟨some 13,none,.load false 1 (.t 1),0,[]
 ⟩,⟨some 14,none,.load true 5 (.t 5),0,[]⟩,⟨some 15,none,.call (.c (.fn 23 [])) [.t 13,.t 14],0,[]⟩]))) (.reg [⟨some 16,none,.bin .add (.t 9) (.c (.v (.int .i64 1))),0,[]
 ⟩,⟨some 9,none,.mov (.t 16),0,[]⟩]))))))) (.reg [⟨some 17,none,.load false 1 (.t 1),0,[]⟩,⟨some 18,none,.load false 1 (.t 2),0,[]⟩,⟨some 19,none,.call (.c (.fn 24 []))
  [.t 17,.t 18,.c (.v (.int .i64 0)),.c (.v (.int .i64 0)),.c (.v (.string (ByteArray.mk #[])))],0,[]⟩]))⟩
theorem pf119_is : pfs 119 = some pf119 := by kernel_rfl
def pf120 : PF := ⟨19,[.t 4],.seq (.reg [⟨some 4,none,.mov (.c (.v (.int .i64 0))),0,[]⟩]) (.seq (.seq (.reg [⟨some 6,none,.mov (.t 0),0,[]⟩,⟨some 7,none,.lenS (.t 6),0,[]⟩,⟨some 8,none,
 .mov (.c (.v (.int .i64 0))),0,[]⟩]) (.block 0 (.loop (.seq (.reg [⟨some 9,none,.bin .lss (.t 8) (.t 7),0,[]⟩]) (.seq (.cond (.t 9) .skip (.exit 0))
  (.seq (.block 1 (.seq (.reg [⟨some 10,none,.mov (.t 8),0,[]⟩,⟨some 5,none,.mov (.t 10),0,[]⟩]) (.seq (.reg [⟨some 11,none,.mov (.t 1),0,[]⟩,⟨some 12,none,.mov (.t 0),0,
 []⟩,⟨some 13,none,.mov (.t 5),0,[]⟩,⟨some 14,none,.iaddr 6 (.t 12) (.t 13),0,[]⟩,⟨some 15,none,.load true 6 (.t 14),0,[]⟩,⟨some 16,none,.call (.t 11) [.t 15],0,[]⟩])
  (.cond (.t 16) (.seq (.reg [⟨some 17,none,.mov (.t 5),0,[]⟩,⟨some 4,none,.mov (.t 17),0,[]⟩]) .ret) .skip)))) (.reg [⟨some 18,none,.bin .add (.t 8)
  (.c (.v (.int .i64 1))),0,[]⟩,⟨some 8,none,.mov (.t 18),0,[]⟩]))))))) (.seq (.reg [⟨some 4,none,.mov (.c (.v (.int .i64 (-1)))),0,[]⟩]) .ret))⟩
theorem pf120_is : pfs 120 = some pf120 := by kernel_rfl
def pf121 : PF := ⟨9,[.t 3],.seq (.reg [⟨some 2,none,.box (.t 0),0,[]⟩,⟨some 3,none,.mov (.c (.v (.bool false))),0,[]⟩]) (.seq (.reg [⟨some 4,none,.faddr 0 (.t 2),0,[]⟩,⟨some 5,none,
 .load false 1 (.t 4),0,[]⟩,⟨some 6,none,.faddr 2 (.t 1),0,[]⟩,⟨some 7,none,.load false 1 (.t 6),0,[]⟩,⟨some 8,none,.bin .eql (.t 5) (.t 7),0,[]⟩,⟨some 3,none,.mov (.t 8)
 ,0,[]⟩]) .ret)⟩
theorem pf121_is : pfs 121 = some pf121 := by kernel_rfl
def pf122 : PF := ⟨38,[.t 4],.seq (.reg [⟨some 2,none,.box (.t 0),0,[]⟩,⟨some 4,none,.mov (.c (.v (.int .i64 0))),0,[]⟩]) (.seq (.block 0 (.seq (.seq (.reg [⟨some 6,none,.faddr 0 (.t 2),
 0,[]⟩,⟨some 7,none,.load false 1 (.t 6),0,[]⟩,⟨some 8,none,.bin .eql (.t 7) (.c (.v (.int .i64 1))),0,[]⟩,⟨some 5,none,.mov (.t 8),0,[]⟩]) (.cond (.t 5)
  .skip (.reg [⟨some 9,none,.faddr 0 (.t 2),0,[]⟩,⟨some 10,none,.load false 1 (.t 9),0,[]⟩,⟨some 11,none,.bin .eql (.t 10) (.c (.v (.int .i64 7))),0,[]⟩,⟨some 12,none,
 .mov (.t 11),0,[]⟩,⟨some 13,some (12,true),.mov (.t 1),0,[]⟩,⟨some 14,some (12,true),.bin .eql (.t 13) (.c (.v (.int .i64 1))),0,[]⟩,⟨some 15,none,.pick (.t 12) (.t 14)
  (.c (.v (.bool false))),0,[]⟩,⟨some 5,none,.mov (.t 15),0,[]⟩]))) (.cond (.t 5) (.seq (.reg [⟨some 4,none,.mov (.c (.v (.int .i64 1))),0,[]⟩]) .ret)
  (.seq (.reg [⟨some 17,none,.faddr 0 (.t 2),0,[]⟩,⟨some 18,none,.load false 1 (.t 17),0,[]⟩,⟨some 19,none,.bin .eql (.t 18) (.c (.v (.int .i64 4))),0,[]⟩,⟨some 20,none,
 .mov (.t 19),0,[]⟩,⟨some 21,some (20,true),.mov (.t 1),0,[]⟩,⟨some 22,some (20,true),.bin .gtr (.t 21) (.c (.v (.int .i64 0))),0,[]⟩,⟨some 23,none,.pick (.t 20) (.t 22)
  (.c (.v (.bool false))),0,[]⟩,⟨some 24,none,.mov (.t 23),0,[]⟩,⟨some 25,some (24,true),.mov (.t 1),0,[]⟩,⟨some 26,some (24,true),.faddr 3 (.t 2),0,[]⟩,⟨some 27,
 some (24,true),.load false 1 (.t 26),0,[]⟩,⟨some 28,some (24,true),.lenS (.t 27),0,[]⟩,⟨some 29,some (24,true),.bin .leq (.t 25) (.t 28),0,[]⟩,⟨some 30,none,
 .pick (.t 24) (.t 29) (.c (.v (.bool false))),0,[]⟩,⟨some 16,none,.mov (.t 30),0,[]⟩]) (.cond (.t 16) (.seq (.reg [⟨some 31,none,.faddr 3 (.t 2),0,[]⟩,⟨some 32,none,
 .load false 1 (.t 31),0,[]⟩,⟨some 33,none,.mov (.t 1),0,[]⟩,⟨some 34,none,.bin .sub (.t 33) (.c (.v (.int .i64 1))),0,[]⟩,⟨some 35,none,.iaddr 1 (.t 32) (.t 34),0,[]⟩,
 ⟨some 36,none,.load false 1 (.t 35),0,[]⟩,⟨some 37,none,.max (.c (.v (.int .i64 0))) (.t 36),0,[]⟩,⟨some 4,none,.mov (.t 37),0,[]⟩]) .ret) .skip)))))
  (.seq (.reg [⟨some 4,none,.mov (.c (.v (.int .i64 0))),0,[]⟩]) .ret))⟩
theorem pf122_is : pfs 122 = some pf122 := by kernel_rfl
end Go.Proofs.Eng
