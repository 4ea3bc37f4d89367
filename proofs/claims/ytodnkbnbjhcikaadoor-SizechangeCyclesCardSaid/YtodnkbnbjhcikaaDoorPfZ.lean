/- The prepared code of the functions. No conditions. -/
import Derived.Test.YtodnkbnbjhcikaaDoorGO
import Derived.Test.YtodnkbnbjhcikaaDoorRows
set_option linter.all false
set_option linter.deprecated false
set_option linter.unnecessarySimpa false
set_option linter.unusedVariables false
set_option linter.unusedSimpArgs false
set_option linter.defProp false
namespace Go.Proofs.Eng.Z
open Go Go.Proofs Go.Proofs.Eng
def md (f : Nat) : Md := if f = 63 then .raw else .pure
def bf : Bf := ⟨false, fun _ => false, fun _ _ _ _ => none⟩
noncomputable def pfs (f : Nat) : Option PF := if f = 63 then some ⟨0, [], .ora growO⟩ else prepF Tryd.prog bf f
theorem pfsOK [DrK] : PfsOK Tryd.prog pfs := fun f pf h => by
  unfold pfs at h
  split at h
  · rename_i hf
    subst hf
    simp only [Option.some.injEq] at h; subst h
    exact .inr (.inl ⟨_, rfl, grow_ok⟩)
  · exact .inl ⟨_, h⟩
set_option maxRecDepth 100000
def pf36 : PF := ⟨12,[.t 2],.seq (.reg [⟨some 1,none,.box (.t 0),0,[]⟩,⟨some 2,none,.mov (.c (.sl [] .nil)),0,[]⟩]) (.seq (.dreg [8,0] [⟨some 3,none,.faddr 0 (.t 1),0,[]⟩,⟨some 4,none,
 .load false 1 (.t 3),1,[0]⟩,⟨some 5,none,.faddr 1 (.t 1),2,[]⟩,⟨some 6,none,.load false 1 (.t 5),3,[2]⟩,⟨some 7,none,.bsl (.v (.int .i64 0)) 2 [(0,1,.t 4),(1,1,.t 6)],4,
 [3,2,1,0]⟩,⟨some 8,none,.faddr 2 (.t 1),5,[]⟩,⟨some 9,none,.load false 1 (.t 8),6,[5]⟩,⟨some 10,none,.call (.c (.fn 50 [])) [.t 9],7,[6,5]⟩,⟨some 11,none,
 .app 1 none (.t 7) (.t 10),8,[7,6,5,4,3,2,1,0]⟩,⟨some 2,none,.mov (.t 11),9,[8,7,6,5,4,3,2,1,0]⟩]) .ret)⟩
theorem pf36_is : pfs 36 = some pf36 := by kernel_rfl
def pf47 : PF := ⟨10,[.t 4],.seq (.reg [⟨some 2,none,.box (.t 0),0,[]⟩,⟨some 3,none,.box (.t 1),0,[]⟩,⟨some 4,none,.mov (.c (.v (.int .i64 0))),0,[]⟩]) (.seq (.dreg [3,0,0] [⟨some 5,
 none,.load true 3 (.t 2),0,[]⟩,⟨some 6,none,.call (.c (.fn 36 [])) [.t 5],1,[0]⟩,⟨some 7,none,.load true 3 (.t 3),2,[]⟩,⟨some 8,none,.call (.c (.fn 36 [])) [.t 7],3,[1,
 0,2]⟩,⟨some 9,none,.call (.c (.fn 48 [])) [.t 6,.t 8],4,[3,2,1,0]⟩,⟨some 4,none,.mov (.t 9),5,[4,3,2,1,0]⟩]) .ret)⟩
theorem pf47_is : pfs 47 = some pf47 := by kernel_rfl
def pf48 : PF := ⟨36,[.t 4],.seq (.reg [⟨some 4,none,.mov (.c (.v (.int .i64 0))),0,[]⟩]) (.seq (.seq (.reg [⟨some 9,none,.mov (.t 0),0,[]⟩,⟨some 10,none,.lenS (.t 9),0,[]⟩,⟨some 11,
 none,.mov (.c (.v (.int .i64 0))),0,[]⟩]) (.block 0 (.loop (.seq (.reg [⟨some 12,none,.bin .lss (.t 11) (.t 10),0,[]⟩]) (.seq (.cond (.t 12) .skip (.exit 0))
  (.seq (.block 1 (.seq (.reg [⟨some 13,none,.mov (.t 11),0,[]⟩,⟨some 14,none,.iaddr 1 (.t 9) (.t 11),0,[]⟩,⟨some 15,none,.load false 1 (.t 14),0,[]⟩,⟨some 5,none,
 .mov (.t 13),0,[]⟩,⟨some 6,none,.mov (.t 15),0,[]⟩]) (.seq (.seq (.reg [⟨some 16,none,.mov (.t 5),0,[]⟩,⟨some 17,none,.mov (.t 1),0,[]⟩,⟨some 18,none,.lenS (.t 17),0,[]⟩
 ,⟨some 19,none,.bin .geq (.t 16) (.t 18),0,[]⟩]) (.cond (.t 19) (.seq (.reg [⟨some 4,none,.mov (.c (.v (.int .i64 1))),0,[]⟩]) .ret) .skip)) (.seq (.reg [⟨some 20,none,
 .mov (.t 1),0,[]⟩,⟨some 21,none,.mov (.t 5),0,[]⟩,⟨some 22,none,.iaddr 1 (.t 20) (.t 21),0,[]⟩,⟨some 23,none,.load false 1 (.t 22),0,[]⟩,⟨some 7,none,.mov (.t 23),0,[]⟩]
 ) (.seq (.reg [⟨some 24,none,.mov (.t 6),0,[]⟩,⟨some 25,none,.mov (.t 7),0,[]⟩,⟨some 26,none,.call (.c (.fn 62 [])) [.t 24,.t 25],0,[]⟩,⟨some 8,none,.mov (.t 26),0,[]⟩])
  (.seq (.reg [⟨some 27,none,.mov (.t 8),0,[]⟩,⟨some 28,none,.bin .neq (.t 27) (.c (.v (.int .i64 0))),0,[]⟩]) (.cond (.t 28) (.seq (.reg [⟨some 29,none,.mov (.t 8),0,[]⟩
 ,⟨some 4,none,.mov (.t 29),0,[]⟩]) .ret) .skip))))))) (.reg [⟨some 30,none,.bin .add (.t 11) (.c (.v (.int .i64 1))),0,[]⟩,⟨some 11,none,.mov (.t 30),0,[]⟩])))))))
  (.seq (.seq (.reg [⟨some 31,none,.mov (.t 0),0,[]⟩,⟨some 32,none,.lenS (.t 31),0,[]⟩,⟨some 33,none,.mov (.t 1),0,[]⟩,⟨some 34,none,.lenS (.t 33),0,[]⟩,⟨some 35,none,
 .bin .lss (.t 32) (.t 34),0,[]⟩]) (.cond (.t 35) (.seq (.reg [⟨some 4,none,.mov (.c (.v (.int .i64 (-1)))),0,[]⟩]) .ret) .skip)) (.seq (.reg [⟨some 4,none,
 .mov (.c (.v (.int .i64 0))),0,[]⟩]) .ret)))⟩
theorem pf48_is : pfs 48 = some pf48 := by kernel_rfl
def pf50 : PF := ⟨36,[.t 2],.seq (.reg [⟨some 2,none,.mov (.c (.sl [] .nil)),0,[]⟩]) (.seq (.reg [⟨some 3,none,.mov (.c (.v (.int .i64 0))),0,[]⟩]) (.seq (.seq (.reg [⟨some 9,none,
 .mov (.t 0),0,[]⟩,⟨some 10,none,.lenS (.t 9),0,[]⟩,⟨some 11,none,.mov (.c (.v (.int .i64 0))),0,[]⟩]) (.block 0 (.loop (.seq (.reg [⟨some 12,none,.bin .lss (.t 11)
  (.t 10),0,[]⟩]) (.seq (.cond (.t 12) .skip (.exit 0)) (.seq (.block 1 (.seq (.reg [⟨some 13,none,.iaddr 1 (.t 9) (.t 11),0,[]⟩,⟨some 14,none,.load false 1 (.t 13),0,[]⟩
 ,⟨some 5,none,.mov (.t 14),0,[]⟩]) (.seq (.reg [⟨some 15,none,.mov (.t 3),0,[]⟩,⟨some 16,none,.mov (.t 5),0,[]⟩,⟨some 17,none,.lenS (.t 16),0,[]⟩,⟨some 18,none,
 .bin .add (.t 15) (.t 17),0,[]⟩,⟨some 3,none,.mov (.t 18),0,[]⟩]) (.seq (.reg [⟨some 19,none,.mov (.t 3),0,[]⟩,⟨some 20,none,.bin .lss (.t 19) (.c (.v (.int .i64 0))),0,
 []⟩]) (.cond (.t 20) (.reg [⟨some 21,none,.mkif 9 (.c (.v (.string (ByteArray.mk #[108,101,110,32,111,117,116,32,111,102,32,114,97,110,103,101])))),0,[]⟩,⟨none,none,
 .panic (.t 21),0,[]⟩]) .skip))))) (.reg [⟨some 22,none,.bin .add (.t 11) (.c (.v (.int .i64 1))),0,[]⟩,⟨some 11,none,.mov (.t 22),0,[]⟩]))))))) (.seq (.reg [⟨some 23,
 none,.mov (.t 3),0,[]⟩,⟨some 24,none,.call (.c (.fn 63 [])) [.c (.sl [] .nil),.t 23],0,[]⟩,⟨some 6,none,.mov (.t 24),0,[]⟩]) (.seq (.seq (.reg [⟨some 25,none,.mov (.t 0)
 ,0,[]⟩,⟨some 26,none,.lenS (.t 25),0,[]⟩,⟨some 27,none,.mov (.c (.v (.int .i64 0))),0,[]⟩]) (.block 2 (.loop (.seq (.reg [⟨some 28,none,.bin .lss (.t 27) (.t 26),0,[]⟩])
  (.seq (.cond (.t 28) .skip (.exit 2)) (.seq (.block 3 (.seq (.reg [⟨some 29,none,.iaddr 1 (.t 25) (.t 27),0,[]⟩,⟨some 30,none,.load false 1 (.t 29),0,[]⟩,⟨some 8,none,
 .mov (.t 30),0,[]⟩]) (.reg [⟨some 31,none,.mov (.t 6),0,[]⟩,⟨some 32,none,.mov (.t 8),0,[]⟩,⟨some 33,none,.app 1 none (.t 31) (.t 32),0,[]⟩,⟨some 6,none,.mov (.t 33),0,
 []⟩]))) (.reg [⟨some 34,none,.bin .add (.t 27) (.c (.v (.int .i64 1))),0,[]⟩,⟨some 27,none,.mov (.t 34),0,[]⟩]))))))) (.seq (.reg [⟨some 35,none,.mov (.t 6),0,[]⟩,
 ⟨some 2,none,.mov (.t 35),0,[]⟩]) .ret)))))⟩
theorem pf50_is : pfs 50 = some pf50 := by kernel_rfl
def pf62 : PF := ⟨20,[.t 4],.seq (.reg [⟨some 4,none,.mov (.c (.v (.int .i64 0))),0,[]⟩]) (.seq (.reg [⟨some 7,none,.mov (.t 0),0,[]⟩,⟨some 8,none,.call (.c (.fn 77 [])) [.t 7],0,[]⟩,
 ⟨some 5,none,.mov (.t 8),0,[]⟩]) (.seq (.reg [⟨some 9,none,.mov (.t 1),0,[]⟩,⟨some 10,none,.call (.c (.fn 77 [])) [.t 9],0,[]⟩,⟨some 6,none,.mov (.t 10),0,[]⟩])
  (.seq (.seq (.reg [⟨some 11,none,.mov (.t 5),0,[]⟩]) (.cond (.t 11) (.seq (.seq (.reg [⟨some 12,none,.mov (.t 6),0,[]⟩]) (.cond (.t 12) (.seq (.reg [⟨some 4,none,
 .mov (.c (.v (.int .i64 0))),0,[]⟩]) .ret) .skip)) (.seq (.reg [⟨some 4,none,.mov (.c (.v (.int .i64 (-1)))),0,[]⟩]) .ret)) .skip)) (.seq (.seq (.reg [⟨some 13,none,
 .mov (.t 6),0,[]⟩]) (.cond (.t 13) (.seq (.reg [⟨some 4,none,.mov (.c (.v (.int .i64 1))),0,[]⟩]) .ret) .skip)) (.seq (.seq (.reg [⟨some 14,none,.mov (.t 0),0,[]⟩,
 ⟨some 15,none,.mov (.t 1),0,[]⟩,⟨some 16,none,.bin .lss (.t 14) (.t 15),0,[]⟩]) (.cond (.t 16) (.seq (.reg [⟨some 4,none,.mov (.c (.v (.int .i64 (-1)))),0,[]⟩]) .ret)
  .skip)) (.seq (.seq (.reg [⟨some 17,none,.mov (.t 0),0,[]⟩,⟨some 18,none,.mov (.t 1),0,[]⟩,⟨some 19,none,.bin .gtr (.t 17) (.t 18),0,[]⟩]) (.cond (.t 19)
  (.seq (.reg [⟨some 4,none,.mov (.c (.v (.int .i64 1))),0,[]⟩]) .ret) .skip)) (.seq (.reg [⟨some 4,none,.mov (.c (.v (.int .i64 0))),0,[]⟩]) .ret)))))))⟩
theorem pf62_is : pfs 62 = some pf62 := by kernel_rfl
def pf77 : PF := ⟨6,[.t 2],.seq (.reg [⟨some 2,none,.mov (.c (.v (.bool false))),0,[]⟩]) (.seq (.reg [⟨some 3,none,.mov (.t 0),0,[]⟩,⟨some 4,none,.mov (.t 0),0,[]⟩,⟨some 5,none,
 .bin .neq (.t 3) (.t 4),0,[]⟩,⟨some 2,none,.mov (.t 5),0,[]⟩]) .ret)⟩
theorem pf77_is : pfs 77 = some pf77 := by kernel_rfl
end Go.Proofs.Eng.Z
