/- The prepared code of the functions. No conditions. -/
import Derived.Test.YtflfmkkcnphdcaaGreatCO
set_option linter.all false
set_option linter.deprecated false
set_option linter.unnecessarySimpa false
set_option linter.unusedVariables false
set_option linter.unusedSimpArgs false
set_option linter.defProp false
namespace Go.Proofs.Eng
open Go Go.Proofs
def sharedF : List Nat := [2000008, 89, 139, 140, 141, 168, 67, 69, 70, 145, 146, 148, 149, 150, 151, 172, 77, 109, 110, 144, 74, 113, 114]
def rawF : List Nat := [68, 112, 88, 2000069, 3000039, 3000040, 3000041, 12, 15, 21, 22, 28, 71, 72, 90, 91, 92, 93, 95, 42, 43, 44, 45, 46, 47, 48, 49, 50, 51, 52, 53, 54, 55, 56, 13, 14, 16, 19, 20, 35, 57, 58, 59, 60, 61, 62, 99, 100, 101, 102, 103, 104, 105]
def md (f : Nat) : Md := if rawF.contains f then .raw else if sharedF.contains f then .shared else .pure
def bf : Bf := ⟨false, fun g => rawF.contains g || sharedF.contains g, itF⟩
def bsF (f : Nat) : Bool := [90, 92, 103].contains f
noncomputable def pfs (f : Nat) : Option PF := if f = 112 then some ⟨0, [], .ora emitO⟩ else if f = 88 then some ⟨0, [], .ora repO⟩ else if f = 29 then none else if f = 39 then some ⟨0, [], .ora (clnO 1)⟩ else if f = 40 then some ⟨0, [], .ora (clnO 1)⟩ else if f = 41 then some ⟨0, [], .ora (clnO 4)⟩ else if f = 23 then prepFQ Tryz.prog bf 23 else prepF Tryz.prog { bf with b := bsF f } f
theorem hasq23 : (prepFQ Tryz.prog bf 23).all (fun p => p.body.hasQ) = true := by kernel_rfl
theorem cl39 : isClone Tryz.prog 39 = some (false, 1, 23) := by kernel_rfl
theorem cl40 : isClone Tryz.prog 40 = some (false, 1, 24) := by kernel_rfl
theorem cl41 : isClone Tryz.prog 41 = some (true, 4, 60) := by kernel_rfl
theorem pfsOK : PfsOK Tryz.prog pfs := fun f pf h => by
 unfold pfs at h
 split at h
 ·rename_i hf
  subst hf
  simp only [Option.some.injEq] at h; subst h
  exact .inr (.inl ⟨_, rfl, emit_ok⟩)
 split at h
 ·rename_i hf
  subst hf
  simp only [Option.some.injEq] at h; subst h
  exact .inr (.inl ⟨_, rfl, rep_ok⟩)
 split at h
 ·cases h
 split at h
 ·rename_i hf
  subst hf
  simp only [Option.some.injEq] at h; subst h
  exact .inr (.inl ⟨_, rfl, cln_ok cl39⟩)
 split at h
 ·rename_i hf
  subst hf
  simp only [Option.some.injEq] at h; subst h
  exact .inr (.inl ⟨_, rfl, cln_ok cl40⟩)
 split at h
 ·rename_i hf
  subst hf
  simp only [Option.some.injEq] at h; subst h
  exact .inr (.inl ⟨_, rfl, cln_ok cl41⟩)
 split at h
 ·rename_i hf
  subst hf
  have hq := hasq23
  rw [h] at hq
  exact .inr (.inr ⟨bf, it_all, h, hq⟩)
 ·exact .inl ⟨_, h⟩
theorem hm : Tryz.prog.follows .mixedOrders = true := by kernel_rfl
set_option maxRecDepth 100000
def pf8 : PF := ⟨62,[.t 2],.seq (.reg [⟨some 1,none,.box (.t 0),0,[]⟩,⟨some 2,none,.mov (.c (.v (.bool false))),0,[]⟩]) (.seq (.seq (.reg [⟨some 9,none,.load true 3 (.t 1),0,[]⟩,
 ⟨some 10,none,.call (.c (.fn 10 [])) [.t 9],0,[]⟩,⟨some 11,none,.un .not (.t 10),0,[]⟩,⟨some 12,none,.mov (.t 11),0,[]⟩,⟨some 13,some (12,false),.load true 3 (.t 1),0,[]
 ⟩,⟨some 14,some (12,false),.call (.c (.fn 29 [])) [.t 13],0,[]⟩,⟨some 15,some (12,false),.bin .neq (.t 14) (.c (.v (.int .i64 0))),0,[]⟩,⟨some 16,none,.pick (.t 12)
  (.c (.v (.bool true))) (.t 15),0,[]⟩]) (.cond (.t 16) (.seq (.reg [⟨some 17,none,.call (.c (.fn 11 [])) [],0,[]⟩,⟨some 2,none,.mov (.t 17),0,[]⟩]) .ret) .skip))
  (.seq (.reg [⟨some 19,none,.load true 3 (.t 1),0,[]⟩,⟨some 20,none,.call (.c (.fn 12 [])) [.t 19],0,[]⟩,⟨some 18,none,.mov (.t 20),0,[]⟩,⟨some 21,none,.ext (.t 18) 0,0,
 []⟩,⟨some 22,none,.ext (.t 18) 1,0,[]⟩,⟨some 3,none,.mov (.t 21),0,[]⟩,⟨some 4,none,.mov (.t 22),0,[]⟩]) (.seq (.seq (.reg [⟨some 23,none,.mov (.t 4),0,[]⟩,⟨some 24,
 none,.bin .neq (.t 23) (.c (.v (.int .i64 0))),0,[]⟩,⟨some 25,none,.mov (.t 24),0,[]⟩,⟨some 26,some (25,false),.mov (.t 3),0,[]⟩,⟨some 27,some (25,false),
 .eqp false (.t 26) (.c (.v (.pointer none))),0,[]⟩,⟨some 28,none,.pick (.t 25) (.c (.v (.bool true))) (.t 27),0,[]⟩]) (.cond (.t 28) (.seq (.reg [⟨some 2,none,
 .mov (.c (.v (.bool false))),0,[]⟩]) .ret) .skip)) (.seq (.reg [⟨some 30,none,.mov (.t 3),0,[]⟩,⟨some 31,none,.call (.c (.fn 28 [])) [.t 30],0,[]⟩,⟨some 29,none,
 .mov (.t 31),0,[]⟩,⟨some 32,none,.ext (.t 29) 0,0,[]⟩,⟨some 33,none,.ext (.t 29) 1,0,[]⟩,⟨some 5,none,.alloc [.v (.string (ByteArray.mk #[])),.sl [] .nil],0,[]⟩,⟨none,
 none,.store 2 (.t 5) (.t 32),0,[]⟩,⟨some 6,none,.mov (.t 33),0,[]⟩]) (.seq (.reg [⟨some 35,none,.mov (.t 3),0,[]⟩,⟨some 36,none,.call (.c (.fn 15 [])) [.t 35,
 .c (.v (.int .i64 0))],0,[]⟩,⟨some 34,none,.mov (.t 36),0,[]⟩,⟨some 37,none,.ext (.t 34) 0,0,[]⟩,⟨some 38,none,.ext (.t 34) 1,0,[]⟩,⟨some 7,none,.mov (.t 37),0,[]⟩,
 ⟨some 8,none,.mov (.t 38),0,[]⟩]) (.seq (.reg [⟨some 39,none,.call (.c (.fn 11 [])) [],0,[]⟩,⟨some 40,none,.mov (.t 39),0,[]⟩,⟨some 41,some (40,true),.mov (.t 3),0,[]⟩,
 ⟨some 42,some (40,true),.call (.c (.fn 21 [])) [.t 41],0,[]⟩,⟨some 43,some (40,true),.bin .eql (.t 42) (.c (.v (.int .i64 0))),0,[]⟩,⟨some 44,none,.pick (.t 40) (.t 43)
  (.c (.v (.bool false))),0,[]⟩,⟨some 45,none,.mov (.t 44),0,[]⟩,⟨some 46,some (45,true),.mov (.t 3),0,[]⟩,⟨some 47,some (45,true),.call (.c (.fn 22 [])) [.t 46],0,[]⟩,
 ⟨some 48,some (45,true),.bin .eql (.t 47) (.c (.v (.int .i64 0))),0,[]⟩,⟨some 49,none,.pick (.t 45) (.t 48) (.c (.v (.bool false))),0,[]⟩,⟨some 50,none,.mov (.t 49),0,[]
 ⟩,⟨some 51,some (50,true),.mov (.t 6),0,[]⟩,⟨some 52,some (50,true),.bin .eql (.t 51) (.c (.v (.int .i64 27))),0,[]⟩,⟨some 53,none,.pick (.t 50) (.t 52)
  (.c (.v (.bool false))),0,[]⟩,⟨some 54,none,.mov (.t 53),0,[]⟩,⟨some 55,some (54,true),.mov (.t 7),0,[]⟩,⟨some 56,some (54,true),.un .not (.t 55),0,[]⟩,⟨some 57,none,
 .pick (.t 54) (.t 56) (.c (.v (.bool false))),0,[]⟩,⟨some 58,none,.mov (.t 57),0,[]⟩,⟨some 59,some (58,true),.mov (.t 8),0,[]⟩,⟨some 60,some (58,true),.bin .eql (.t 59)
  (.c (.v (.int .i64 0))),0,[]⟩,⟨some 61,none,.pick (.t 58) (.t 60) (.c (.v (.bool false))),0,[]⟩,⟨some 2,none,.mov (.t 61),0,[]⟩]) .ret))))))⟩
theorem pf8_is : pfs 8 = some pf8 := by kernel_rfl
def pf10 : PF := ⟨38,[.t 2],.seq (.reg [⟨some 1,none,.box (.t 0),0,[]⟩,⟨some 2,none,.mov (.c (.v (.bool false))),0,[]⟩]) (.seq (.seq (.reg [⟨some 3,none,.mov (.c (.v (.int .i64 0))),0,[]
 ⟩]) (.block 0 (.loop (.seq (.seq (.reg [⟨some 4,none,.mov (.t 3),0,[]⟩,⟨some 5,none,.faddr 0 (.t 1),0,[]⟩,⟨some 6,none,.load false 1 (.t 5),0,[]⟩,⟨some 7,none,
 .lenS (.t 6),0,[]⟩,⟨some 8,none,.bin .lss (.t 4) (.t 7),0,[]⟩,⟨some 9,none,.mov (.t 8),0,[]⟩,⟨some 10,some (9,true),.mov (.t 3),0,[]⟩,⟨some 11,some (9,true),
 .bin .lss (.t 10) (.c (.v (.int .i64 80))),0,[]⟩,⟨some 12,none,.pick (.t 9) (.t 11) (.c (.v (.bool false))),0,[]⟩]) (.cond (.t 12) .skip (.exit 0)))
  (.seq (.block 1 (.seq (.reg [⟨some 15,none,.faddr 0 (.t 1),0,[]⟩,⟨some 16,none,.load false 1 (.t 15),0,[]⟩,⟨some 17,none,.mov (.t 3),0,[]⟩,⟨some 18,none,
 .iaddr 1 (.t 16) (.t 17),0,[]⟩,⟨some 19,none,.load false 1 (.t 18),0,[]⟩,⟨some 20,none,.lenS (.t 19),0,[]⟩,⟨some 21,none,.bin .gtr (.t 20) (.c (.v (.int .i64 120))),0,[]
 ⟩]) (.cond (.t 21) (.seq (.reg [⟨some 2,none,.mov (.c (.v (.bool false))),0,[]⟩]) .ret) .skip))) (.reg [⟨some 13,none,.mov (.t 3),0,[]⟩,⟨some 14,none,.bin .add (.t 13)
  (.c (.v (.int .i64 1))),0,[]⟩,⟨some 3,none,.mov (.t 14),0,[]⟩])))))) (.seq (.reg [⟨some 22,none,.faddr 0 (.t 1),0,[]⟩,⟨some 23,none,.load false 1 (.t 22),0,[]⟩,
 ⟨some 24,none,.lenS (.t 23),0,[]⟩,⟨some 25,none,.bin .leq (.t 24) (.c (.v (.int .i64 60))),0,[]⟩,⟨some 26,none,.mov (.t 25),0,[]⟩,⟨some 27,some (26,true),.faddr 1 (.t 1)
 ,0,[]⟩,⟨some 28,some (26,true),.load false 1 (.t 27),0,[]⟩,⟨some 29,some (26,true),.lenS (.t 28),0,[]⟩,⟨some 30,some (26,true),.bin .leq (.t 29) (.c (.v (.int .i64 20)))
 ,0,[]⟩,⟨some 31,none,.pick (.t 26) (.t 30) (.c (.v (.bool false))),0,[]⟩,⟨some 32,none,.mov (.t 31),0,[]⟩,⟨some 33,some (32,true),.faddr 2 (.t 1),0,[]⟩,⟨some 34,
 some (32,true),.load false 1 (.t 33),0,[]⟩,⟨some 35,some (32,true),.lenS (.t 34),0,[]⟩,⟨some 36,some (32,true),.bin .leq (.t 35) (.c (.v (.int .i64 20))),0,[]⟩,⟨some 37,
 none,.pick (.t 32) (.t 36) (.c (.v (.bool false))),0,[]⟩,⟨some 2,none,.mov (.t 37),0,[]⟩]) .ret))⟩
theorem pf10_is : pfs 10 = some pf10 := by kernel_rfl
def pf12 : PF := ⟨78,[.t 2,.t 3],.seq (.reg [⟨some 1,none,.box (.t 0),0,[]⟩,⟨some 2,none,.mov (.c (.v (.pointer none))),0,[]⟩,⟨some 3,none,.mov (.c (.v (.int .i64 0))),0,[]⟩])
  (.seq (.seq (.reg [⟨some 8,none,.load true 3 (.t 1),0,[]⟩,⟨some 9,none,.call (.c (.fn 38 [])) [.t 8],0,[]⟩,⟨some 4,none,.mov (.t 9),0,[]⟩]) (.seq (.reg [⟨some 10,none,
 .mov (.t 4),0,[]⟩,⟨some 11,none,.bin .neq (.t 10) (.c (.v (.int .i64 0))),0,[]⟩]) (.cond (.t 11) (.seq (.reg [⟨some 12,none,.mov (.t 4),0,[]⟩,⟨some 2,none,
 .mov (.c (.v (.pointer none))),0,[]⟩,⟨some 3,none,.mov (.t 12),0,[]⟩]) .ret) .skip))) (.seq (.dreg [5,0,0,0,0] [⟨some 13,none,.faddr 1 (.t 1),0,[]⟩,⟨some 14,none,
 .load false 1 (.t 13),1,[0]⟩,⟨some 15,none,.call (.c (.fn 39 [])) [.t 14],2,[1,0]⟩,⟨some 16,none,.faddr 2 (.t 1),3,[]⟩,⟨some 17,none,.load false 1 (.t 16),4,[3]⟩,
 ⟨some 18,none,.call (.c (.fn 40 [])) [.t 17],5,[2,1,0,4,3]⟩,⟨some 19,none,.build [.sl [] .nil,.sl [] .nil,.sl [] .nil] [(1,1,.t 15),(2,1,.t 18)],6,[5,4,3,2,1,0]⟩,
 ⟨some 20,none,.build [.sl [] .nil,.sl [] .nil,.sl [] .nil,.v (.int .i64 0),.v (.int .i64 0),.v (.pointer none),.sl [] .nil,.sl [] .nil,.v (.int .i64 0),.v (.bool false),
 .v (.int .i64 0),.v .nilFunc,.v .nilFunc,.v .nilFunc,.v .nilFunc,.v .nilFunc,.v .nilFunc,.v .nilFunc,.v .nilFunc,.v .nilFunc,.v .nilFunc,.v .nilFunc,.v .nilFunc,
 .v .nilFunc,.v .nilFunc,.v .nilFunc] [(0,3,.t 19)],7,[6,5,4,3,2,1,0]⟩,⟨some 21,none,.box (.t 20),8,[7,6,5,4,3,2,1,0]⟩,⟨some 5,none,.mov (.t 21),9,[8,7,6,5,4,3,2,1,0]⟩])
  (.seq (.seq (.reg [⟨some 22,none,.faddr 0 (.t 1),0,[]⟩,⟨some 23,none,.load false 1 (.t 22),0,[]⟩,⟨some 24,none,.lenS (.t 23),0,[]⟩,⟨some 25,none,
 .mov (.c (.v (.int .i64 0))),0,[]⟩]) (.block 0 (.loop (.seq (.reg [⟨some 26,none,.bin .lss (.t 25) (.t 24),0,[]⟩]) (.seq (.cond (.t 26) .skip (.exit 0))
  (.seq (.block 1 (.seq (.reg [⟨some 27,none,.iaddr 1 (.t 23) (.t 25),0,[]⟩,⟨some 28,none,.load false 1 (.t 27),0,[]⟩,⟨some 7,none,.mov (.t 28),0,[]⟩]) (.dreg [10,0,0,0]
  [⟨some 29,none,.mov (.t 5),0,[]⟩,⟨some 30,none,.mov (.t 5),1,[]⟩,⟨some 31,none,.nilck (.t 30),2,[1]⟩,⟨some 32,none,.faddr 0 (.t 31),3,[2,1]⟩,⟨some 33,none,
 .faddr 0 (.t 32),4,[3,2,1]⟩,⟨some 34,none,.load false 1 (.t 33),5,[4,3,2,1]⟩,⟨some 35,none,.mov (.t 7),6,[]⟩,⟨some 36,none,.call (.c (.fn 41 [])) [.t 35],7,[6]⟩,
 ⟨some 37,none,.bsl (.sl [] .nil) 1 [(0,1,.t 36)],8,[7,6]⟩,⟨some 38,none,.app 1 none (.t 34) (.t 37),9,[8,7,6,5,4,3,2,1]⟩,⟨some 39,none,.nilck (.t 29),10,[9,8,7,6,5,4,3,
 2,1,0]⟩,⟨some 40,none,.faddr 0 (.t 39),11,[10,9,8,7,6,5,4,3,2,1,0]⟩,⟨some 41,none,.faddr 0 (.t 40),12,[11,10,9,8,7,6,5,4,3,2,1,0]⟩,⟨none,none,.store 1 (.t 41) (.t 38),
 13,[12,11,10,9,8,7,6,5,4,3,2,1,0]⟩]))) (.reg [⟨some 42,none,.bin .add (.t 25) (.c (.v (.int .i64 1))),0,[]⟩,⟨some 25,none,.mov (.t 42),0,[]⟩])))))))
  (.seq (.reg [⟨some 43,none,.mov (.t 5),0,[]⟩,⟨some 44,none,.mov (.t 5),0,[]⟩,⟨some 45,none,.mkbm 42 [.t 44],0,[]⟩,⟨some 46,none,.mov (.t 5),0,[]⟩,⟨some 47,none,
 .mkbm 43 [.t 46],0,[]⟩,⟨some 48,none,.mov (.t 5),0,[]⟩,⟨some 49,none,.mkbm 44 [.t 48],0,[]⟩,⟨some 50,none,.mov (.t 5),0,[]⟩,⟨some 51,none,.mkbm 45 [.t 50],0,[]⟩,
 ⟨some 52,none,.mov (.t 5),0,[]⟩,⟨some 53,none,.mkbm 46 [.t 52],0,[]⟩,⟨some 54,none,.mov (.t 5),0,[]⟩,⟨some 55,none,.mkbm 47 [.t 54],0,[]⟩,⟨some 56,none,.mov (.t 5),0,[]⟩
 ,⟨some 57,none,.mkbm 48 [.t 56],0,[]⟩,⟨some 58,none,.mov (.t 5),0,[]⟩,⟨some 59,none,.mkbm 49 [.t 58],0,[]⟩,⟨some 60,none,.mov (.t 5),0,[]⟩,⟨some 61,none,.mkbm 50 [.t 60]
 ,0,[]⟩,⟨some 62,none,.mov (.t 5),0,[]⟩,⟨some 63,none,.mkbm 51 [.t 62],0,[]⟩,⟨some 64,none,.mov (.t 5),0,[]⟩,⟨some 65,none,.mkbm 52 [.t 64],0,[]⟩,⟨some 66,none,
 .mov (.t 5),0,[]⟩,⟨some 67,none,.mkbm 53 [.t 66],0,[]⟩,⟨some 68,none,.mov (.t 5),0,[]⟩,⟨some 69,none,.mkbm 54 [.t 68],0,[]⟩,⟨some 70,none,.mov (.t 5),0,[]⟩,⟨some 71,
 none,.mkbm 55 [.t 70],0,[]⟩,⟨some 72,none,.mov (.t 5),0,[]⟩,⟨some 73,none,.mkbm 56 [.t 72],0,[]⟩,⟨some 74,none,.build [.v .nilFunc,.v .nilFunc,.v .nilFunc,.v .nilFunc,
 .v .nilFunc,.v .nilFunc,.v .nilFunc,.v .nilFunc,.v .nilFunc,.v .nilFunc,.v .nilFunc,.v .nilFunc,.v .nilFunc,.v .nilFunc,.v .nilFunc] [(0,1,.t 45),(1,1,.t 47),(2,1,.t 49)
 ,(3,1,.t 51),(4,1,.t 53),(5,1,.t 55),(6,1,.t 57),(7,1,.t 59),(8,1,.t 61),(9,1,.t 63),(10,1,.t 65),(11,1,.t 67),(12,1,.t 69),(13,1,.t 71),(14,1,.t 73)],0,[]⟩,⟨some 75,
 none,.nilck (.t 43),0,[]⟩,⟨some 76,none,.faddr 11 (.t 75),0,[]⟩,⟨none,none,.store 15 (.t 76) (.t 74),0,[]⟩]) (.seq (.reg [⟨some 77,none,.mov (.t 5),0,[]⟩,⟨some 2,none,
 .mov (.t 77),0,[]⟩,⟨some 3,none,.mov (.c (.v (.int .i64 0))),0,[]⟩]) .ret)))))⟩
theorem pf12_is : pfs 12 = some pf12 := by kernel_rfl
def pf15 : PF := ⟨89,[.t 4,.t 5],.seq (.reg [⟨some 4,none,.mov (.c (.v (.bool false))),0,[]⟩,⟨some 5,none,.mov (.c (.v (.int .i64 0))),0,[]⟩]) (.seq (.seq (.reg [⟨some 7,none,.mov (.t 1)
 ,0,[]⟩,⟨some 8,none,.bin .lss (.t 7) (.c (.v (.int .i64 0))),0,[]⟩]) (.cond (.t 8) (.seq (.reg [⟨some 4,none,.mov (.c (.v (.bool false))),0,[]⟩,⟨some 5,none,
 .mov (.c (.v (.int .i64 2))),0,[]⟩]) .ret) .skip)) (.seq (.block 0 (.loop (.seq (.seq (.reg [⟨some 9,none,.mov (.t 1),0,[]⟩,⟨some 10,none,.bin .gtr (.t 9)
  (.c (.v (.int .i64 0))),0,[]⟩,⟨some 11,none,.mov (.t 10),0,[]⟩,⟨some 12,some (11,true),.mov (.t 0),0,[]⟩,⟨some 13,some (11,true),.nilck (.t 12),0,[]⟩,⟨some 14,some (11,
 true),.faddr 9 (.t 13),0,[]⟩,⟨some 15,some (11,true),.load false 1 (.t 14),0,[]⟩,⟨some 16,some (11,true),.un .not (.t 15),0,[]⟩,⟨some 17,none,.pick (.t 11) (.t 16)
  (.c (.v (.bool false))),0,[]⟩,⟨some 18,none,.mov (.t 17),0,[]⟩,⟨some 19,some (18,true),.mov (.t 0),0,[]⟩,⟨some 20,some (18,true),.nilck (.t 19),0,[]⟩,⟨some 21,some (18,
 true),.faddr 10 (.t 20),0,[]⟩,⟨some 22,some (18,true),.load false 1 (.t 21),0,[]⟩,⟨some 23,some (18,true),.bin .eql (.t 22) (.c (.v (.int .i64 0))),0,[]⟩,⟨some 24,none,
 .pick (.t 18) (.t 23) (.c (.v (.bool false))),0,[]⟩]) (.cond (.t 24) .skip (.exit 0))) (.seq (.block 1 (.seq (.dreg [20] [⟨some 6,none,.alloc [.v (.int .i64 0),
 .v (.int .i64 0),.v (.int .i64 0),.v (.string (ByteArray.mk #[]))],19,[]⟩,⟨some 27,none,.mov (.t 0),0,[]⟩,⟨some 28,none,.nilck (.t 27),1,[0]⟩,⟨some 29,none,
 .faddr 0 (.t 28),2,[1,0]⟩,⟨some 30,none,.faddr 0 (.t 29),3,[2,1,0]⟩,⟨some 31,none,.load false 1 (.t 30),4,[3,2,1,0]⟩,⟨some 32,none,.mov (.t 0),5,[]⟩,⟨some 33,none,
 .nilck (.t 32),6,[5]⟩,⟨some 34,none,.faddr 3 (.t 33),7,[6,5]⟩,⟨some 35,none,.faddr 0 (.t 34),8,[7,6,5]⟩,⟨some 36,none,.load false 1 (.t 35),9,[8,7,6,5]⟩,⟨some 37,none,
 .iaddr 1 (.t 31) (.t 36),10,[9,8,7,6,5,4,3,2,1,0]⟩,⟨some 38,none,.load false 1 (.t 37),11,[10,9,8,7,6,5,4,3,2,1,0]⟩,⟨some 39,none,.mov (.t 0),12,[]⟩,⟨some 40,none,
 .nilck (.t 39),13,[12]⟩,⟨some 41,none,.faddr 3 (.t 40),14,[13,12]⟩,⟨some 42,none,.faddr 1 (.t 41),15,[14,13,12]⟩,⟨some 43,none,.load false 1 (.t 42),16,[15,14,13,12]⟩,
 ⟨some 44,none,.iaddr 4 (.t 38) (.t 43),17,[16,15,14,13,12,11,10,9,8,7,6,5,4,3,2,1,0]⟩,⟨some 45,none,.load true 4 (.t 44),18,[17,16,15,14,13,12,11,10,9,8,7,6,5,4,3,2,1,0]
 ⟩,⟨none,none,.store 4 (.t 6) (.t 45),20,[18,17,16,15,14,13,12,11,10,9,8,7,6,5,4,3,2,1,0,19]⟩]) (.seq (.reg [⟨some 46,none,.mov (.t 0),0,[]⟩,⟨some 47,none,.nilck (.t 46),
 0,[]⟩,⟨some 48,none,.faddr 3 (.t 47),0,[]⟩,⟨some 49,none,.faddr 1 (.t 48),0,[]⟩,⟨some 50,none,.load false 1 (.t 49),0,[]⟩,⟨some 51,none,.bin .add (.t 50)
  (.c (.v (.int .i64 1))),0,[]⟩,⟨some 52,none,.nilck (.t 46),0,[]⟩,⟨some 53,none,.faddr 3 (.t 52),0,[]⟩,⟨some 54,none,.faddr 1 (.t 53),0,[]⟩,⟨none,none,.store 1 (.t 54)
  (.t 51),0,[]⟩]) (.seq (.reg [⟨some 55,none,.mov (.t 0),0,[]⟩,⟨some 56,none,.nilck (.t 55),0,[]⟩,⟨some 57,none,.faddr 8 (.t 56),0,[]⟩,⟨some 58,none,.load false 1 (.t 57)
 ,0,[]⟩,⟨some 59,none,.bin .add (.t 58) (.c (.v (.int .i64 1))),0,[]⟩,⟨some 60,none,.nilck (.t 55),0,[]⟩,⟨some 61,none,.faddr 8 (.t 60),0,[]⟩,⟨none,none,.store 1 (.t 61)
  (.t 59),0,[]⟩]) (.dreg [10010,0,0] [⟨some 62,none,.mov (.t 0),0,[]⟩,⟨some 63,none,.mov (.t 0),1,[]⟩,⟨some 64,none,.faddr 0 (.t 6),2,[]⟩,⟨some 65,none,
 .load false 1 (.t 64),3,[2]⟩,⟨some 66,none,.nilck (.t 63),4,[1]⟩,⟨some 67,none,.faddr 11 (.t 66),5,[4,1]⟩,⟨some 68,none,.iaddrA 15 1 (.t 67) (.t 65),6,[3,2,5,4,1]⟩,
 ⟨some 69,none,.load false 1 (.t 68),7,[6,3,2,5,4,1]⟩,⟨some 70,none,.load true 4 (.t 6),8,[]⟩,⟨some 71,none,.call (.t 69) [.t 70],9,[8,7,6,3,2,5,4,1]⟩,⟨some 72,none,
 .nilck (.t 62),10,[9,8,7,6,5,4,3,2,1,0]⟩,⟨some 73,none,.faddr 10 (.t 72),11,[10,9,8,7,6,5,4,3,2,1,0]⟩,⟨none,none,.store 1 (.t 73) (.t 71),12,[11,10,9,8,7,6,5,4,3,2,1,0]⟩
 ]))))) (.reg [⟨some 25,none,.mov (.t 1),0,[]⟩,⟨some 26,none,.bin .sub (.t 25) (.c (.v (.int .i64 1))),0,[]⟩,⟨some 1,none,.mov (.t 26),0,[]⟩]))))) (.seq (.dreg [16]
  [⟨some 74,none,.mov (.t 0),0,[]⟩,⟨some 75,none,.nilck (.t 74),1,[0]⟩,⟨some 76,none,.faddr 9 (.t 75),2,[1,0]⟩,⟨some 77,none,.load false 1 (.t 76),3,[2,1,0]⟩,⟨some 78,
 none,.mov (.t 77),4,[3,2,1,0]⟩,⟨some 79,some (78,true),.mov (.t 0),5,[4,3,2,1,0]⟩,⟨some 80,some (78,true),.nilck (.t 79),6,[5,4,3,2,1,0]⟩,⟨some 81,some (78,true),
 .faddr 10 (.t 80),7,[6,5,4,3,2,1,0]⟩,⟨some 82,some (78,true),.load false 1 (.t 81),8,[7,6,5,4,3,2,1,0]⟩,⟨some 83,some (78,true),.bin .eql (.t 82) (.c (.v (.int .i64 0)))
 ,9,[8,7,6,5,4,3,2,1,0]⟩,⟨some 84,none,.pick (.t 78) (.t 83) (.c (.v (.bool false))),10,[9,8,7,6,5,4,3,2,1,0]⟩,⟨some 85,none,.mov (.t 0),11,[]⟩,⟨some 86,none,
 .nilck (.t 85),12,[11]⟩,⟨some 87,none,.faddr 10 (.t 86),13,[12,11]⟩,⟨some 88,none,.load false 1 (.t 87),14,[13,12,11]⟩,⟨some 4,none,.mov (.t 84),15,[10,9,8,7,6,5,4,3,2,
 1,0]⟩,⟨some 5,none,.mov (.t 88),16,[15,10,9,8,7,6,5,4,3,2,1,0,14,13,12,11]⟩]) .ret)))⟩
theorem pf15_is : pfs 15 = some pf15 := by kernel_rfl
def pf21 : PF := ⟨7,[.t 2],.seq (.reg [⟨some 2,none,.mov (.c (.v (.int .i64 0))),0,[]⟩]) (.seq (.reg [⟨some 3,none,.mov (.t 0),0,[]⟩,⟨some 4,none,.nilck (.t 3),0,[]⟩,⟨some 5,none,
 .faddr 8 (.t 4),0,[]⟩,⟨some 6,none,.load false 1 (.t 5),0,[]⟩,⟨some 2,none,.mov (.t 6),0,[]⟩]) .ret)⟩
theorem pf21_is : pfs 21 = some pf21 := by kernel_rfl
def pf22 : PF := ⟨8,[.t 2],.seq (.reg [⟨some 2,none,.mov (.c (.v (.int .i64 0))),0,[]⟩]) (.seq (.reg [⟨some 3,none,.mov (.t 0),0,[]⟩,⟨some 4,none,.nilck (.t 3),0,[]⟩,⟨some 5,none,
 .faddr 7 (.t 4),0,[]⟩,⟨some 6,none,.load false 1 (.t 5),0,[]⟩,⟨some 7,none,.lenS (.t 6),0,[]⟩,⟨some 2,none,.mov (.t 7),0,[]⟩]) .ret)⟩
theorem pf22_is : pfs 22 = some pf22 := by kernel_rfl
def pf28 : PF := ⟨52,[.c 2 true 2,.t 3],.seq (.reg [⟨some 2,none,.alloc [.v (.string (ByteArray.mk #[])),.sl [] .nil],0,[]⟩,⟨some 3,none,.mov (.c (.v (.int .i64 0))),0,[]⟩])
  (.seq (.seq (.reg [⟨some 6,none,.mov (.t 0),0,[]⟩,⟨some 7,none,.nilck (.t 6),0,[]⟩,⟨some 8,none,.faddr 9 (.t 7),0,[]⟩,⟨some 9,none,.load false 1 (.t 8),0,[]⟩,⟨some 10,
 none,.un .not (.t 9),0,[]⟩,⟨some 11,none,.mov (.t 10),0,[]⟩,⟨some 12,some (11,false),.mov (.t 0),0,[]⟩,⟨some 13,some (11,false),.nilck (.t 12),0,[]⟩,⟨some 14,some (11,
 false),.faddr 10 (.t 13),0,[]⟩,⟨some 15,some (11,false),.load false 1 (.t 14),0,[]⟩,⟨some 16,some (11,false),.bin .neq (.t 15) (.c (.v (.int .i64 0))),0,[]⟩,⟨some 17,
 none,.pick (.t 11) (.c (.v (.bool true))) (.t 16),0,[]⟩,⟨some 18,none,.mov (.t 17),0,[]⟩,⟨some 19,some (18,false),.mov (.t 0),0,[]⟩,⟨some 20,some (18,false),
 .nilck (.t 19),0,[]⟩,⟨some 21,some (18,false),.faddr 6 (.t 20),0,[]⟩,⟨some 22,some (18,false),.load false 1 (.t 21),0,[]⟩,⟨some 23,some (18,false),.lenS (.t 22),0,[]⟩,
 ⟨some 24,some (18,false),.bin .eql (.t 23) (.c (.v (.int .i64 0))),0,[]⟩,⟨some 25,none,.pick (.t 18) (.c (.v (.bool true))) (.t 24),0,[]⟩]) (.cond (.t 25)
  (.seq (.reg [⟨some 26,none,.build [.v (.string (ByteArray.mk #[])),.sl [] .nil] [],0,[]⟩,⟨none,none,.store 2 (.t 2) (.t 26),0,[]⟩,⟨some 3,none,
 .mov (.c (.v (.int .i64 27))),0,[]⟩]) .ret) .skip)) (.seq (.dreg [10,0,0] [⟨some 27,none,.mov (.t 0),0,[]⟩,⟨some 28,none,.nilck (.t 27),1,[0]⟩,⟨some 29,none,
 .faddr 6 (.t 28),2,[1,0]⟩,⟨some 30,none,.load false 1 (.t 29),3,[2,1,0]⟩,⟨some 31,none,.mov (.t 0),4,[]⟩,⟨some 32,none,.nilck (.t 31),5,[4]⟩,⟨some 33,none,
 .faddr 6 (.t 32),6,[5,4]⟩,⟨some 34,none,.load false 1 (.t 33),7,[6,5,4]⟩,⟨some 35,none,.lenS (.t 34),8,[7,6,5,4]⟩,⟨some 36,none,.bin .sub (.t 35) (.c (.v (.int .i64 1)))
 ,9,[8,7,6,5,4]⟩,⟨some 37,none,.iaddr 1 (.t 30) (.t 36),10,[9,8,7,6,5,4,3,2,1,0]⟩,⟨some 38,none,.load false 1 (.t 37),11,[10,9,8,7,6,5,4,3,2,1,0]⟩,⟨some 4,none,
 .mov (.t 38),12,[11,10,9,8,7,6,5,4,3,2,1,0]⟩]) (.seq (.seq (.reg [⟨some 39,none,.mov (.t 4),0,[]⟩,⟨some 40,none,.mkmap,0,[]⟩,⟨some 41,none,.call (.c (.fn 71 [])) [.t 39,
 .t 40],0,[]⟩,⟨some 5,none,.mov (.t 41),0,[]⟩]) (.block 0 (.seq (.reg [⟨some 43,none,.mov (.t 5),0,[]⟩,⟨some 44,none,.bin .lss (.t 43) (.c (.v (.int .i64 0))),0,[]⟩,
 ⟨some 42,none,.mov (.t 44),0,[]⟩]) (.cond (.t 42) (.seq (.reg [⟨some 45,none,.build [.v (.string (ByteArray.mk #[])),.sl [] .nil] [],0,[]⟩,⟨none,none,.store 2 (.t 2)
  (.t 45),0,[]⟩,⟨some 3,none,.mov (.c (.v (.int .i64 10))),0,[]⟩]) .ret) (.seq (.reg [⟨some 47,none,.mov (.t 5),0,[]⟩,⟨some 48,none,.bin .gtr (.t 47)
  (.c (.v (.int .i64 4096))),0,[]⟩,⟨some 46,none,.mov (.t 48),0,[]⟩]) (.cond (.t 46) (.seq (.reg [⟨some 49,none,.build [.v (.string (ByteArray.mk #[])),.sl [] .nil] [],0,
 []⟩,⟨none,none,.store 2 (.t 2) (.t 49),0,[]⟩,⟨some 3,none,.mov (.c (.v (.int .i64 5))),0,[]⟩]) .ret) .skip)))))) (.seq (.reg [⟨some 50,none,.mov (.t 4),0,[]⟩,⟨some 51,
 none,.call (.c (.fn 72 [])) [.t 50],0,[]⟩,⟨none,none,.store 2 (.t 2) (.t 51),0,[]⟩,⟨some 3,none,.mov (.c (.v (.int .i64 0))),0,[]⟩]) .ret))))⟩
theorem pf28_is : pfs 28 = some pf28 := by kernel_rfl
def pf38 : PF := ⟨54,[.t 2],.seq (.reg [⟨some 1,none,.box (.t 0),0,[]⟩,⟨some 2,none,.mov (.c (.v (.int .i64 0))),0,[]⟩]) (.seq (.seq (.reg [⟨some 9,none,.load true 3 (.t 1),0,[]⟩,
 ⟨some 10,none,.call (.c (.fn 87 [])) [.t 9],0,[]⟩,⟨some 3,none,.mov (.t 10),0,[]⟩]) (.seq (.reg [⟨some 11,none,.mov (.t 3),0,[]⟩,⟨some 12,none,.bin .neq (.t 11)
  (.c (.v (.int .i64 0))),0,[]⟩]) (.cond (.t 12) (.seq (.reg [⟨some 13,none,.mov (.t 3),0,[]⟩,⟨some 2,none,.mov (.t 13),0,[]⟩]) .ret) .skip))) (.seq (.dreg [6006,0,0]
  [⟨some 14,none,.load true 3 (.t 1),0,[]⟩,⟨some 15,none,.bsl (.v (.int .i64 0)) 1 [(0,1,.c (.v (.int .i64 (-1))))],1,[]⟩,⟨some 16,none,.faddr 0 (.t 1),2,[]⟩,⟨some 17,
 none,.load false 1 (.t 16),3,[2]⟩,⟨some 18,none,.lenS (.t 17),4,[3,2]⟩,⟨some 19,none,.call (.c (.fn 88 [])) [.t 15,.t 18],5,[4,3,2,1]⟩,⟨some 20,none,.build [.sl [] .nil,
 .sl [] .nil,.sl [] .nil,.sl [] .nil] [(0,3,.t 14),(3,1,.t 19)],6,[5,4,3,2,1,0]⟩,⟨some 21,none,.box (.t 20),7,[6,5,4,3,2,1,0]⟩,⟨some 4,none,.mov (.t 21),8,[7,6,5,4,3,2,1,
 0]⟩]) (.seq (.reg [⟨some 22,none,.mov (.t 4),0,[]⟩,⟨some 23,none,.nilck (.t 22),0,[]⟩,⟨some 24,none,.faddr 3 (.t 23),0,[]⟩,⟨some 25,none,.load false 1 (.t 24),0,[]⟩,
 ⟨some 26,none,.iaddr 1 (.t 25) (.c (.v (.int .i64 0))),0,[]⟩,⟨none,none,.store 1 (.t 26) (.c (.v (.int .i64 0))),0,[]⟩]) (.seq (.seq (.reg [⟨some 27,none,.faddr 2 (.t 1)
 ,0,[]⟩,⟨some 28,none,.load false 1 (.t 27),0,[]⟩,⟨some 29,none,.lenS (.t 28),0,[]⟩,⟨some 30,none,.mov (.c (.v (.int .i64 0))),0,[]⟩])
  (.block 0 (.loop (.seq (.reg [⟨some 31,none,.bin .lss (.t 30) (.t 29),0,[]⟩]) (.seq (.cond (.t 31) .skip (.exit 0)) (.seq (.block 1 (.seq (.reg [⟨some 32,none,
 .iaddr 1 (.t 28) (.t 30),0,[]⟩,⟨some 33,none,.load false 1 (.t 32),0,[]⟩,⟨some 6,none,.mov (.t 33),0,[]⟩]) (.reg [⟨some 34,none,.mov (.t 4),0,[]⟩,⟨some 35,none,
 .nilck (.t 34),0,[]⟩,⟨some 36,none,.faddr 3 (.t 35),0,[]⟩,⟨some 37,none,.load false 1 (.t 36),0,[]⟩,⟨some 38,none,.mov (.t 6),0,[]⟩,⟨some 39,none,.iaddr 1 (.t 37)
  (.t 38),0,[]⟩,⟨none,none,.store 1 (.t 39) (.c (.v (.int .i64 0))),0,[]⟩]))) (.reg [⟨some 40,none,.bin .add (.t 30) (.c (.v (.int .i64 1))),0,[]⟩,⟨some 30,none,
 .mov (.t 40),0,[]⟩]))))))) (.seq (.seq (.reg [⟨some 41,none,.faddr 0 (.t 1),0,[]⟩,⟨some 42,none,.load false 1 (.t 41),0,[]⟩,⟨some 43,none,.lenS (.t 42),0,[]⟩,⟨some 44,
 none,.mov (.c (.v (.int .i64 0))),0,[]⟩]) (.block 2 (.loop (.seq (.reg [⟨some 45,none,.bin .lss (.t 44) (.t 43),0,[]⟩]) (.seq (.cond (.t 45) .skip (.exit 2))
  (.seq (.block 3 (.seq (.reg [⟨some 46,none,.mov (.t 44),0,[]⟩,⟨some 7,none,.mov (.t 46),0,[]⟩]) (.seq (.reg [⟨some 47,none,.mov (.t 4),0,[]⟩,⟨some 48,none,.mov (.t 7),
 0,[]⟩,⟨some 49,none,.call (.c (.fn 89 [])) [.t 47,.t 48],0,[]⟩,⟨some 8,none,.mov (.t 49),0,[]⟩]) (.seq (.reg [⟨some 50,none,.mov (.t 8),0,[]⟩,⟨some 51,none,
 .bin .neq (.t 50) (.c (.v (.int .i64 0))),0,[]⟩]) (.cond (.t 51) (.seq (.reg [⟨some 52,none,.mov (.t 8),0,[]⟩,⟨some 2,none,.mov (.t 52),0,[]⟩]) .ret) .skip)))))
  (.reg [⟨some 53,none,.bin .add (.t 44) (.c (.v (.int .i64 1))),0,[]⟩,⟨some 44,none,.mov (.t 53),0,[]⟩]))))))) (.seq (.reg [⟨some 2,none,.mov (.c (.v (.int .i64 0))),0,
 []⟩]) .ret))))))⟩
theorem pf38_is : pfs 38 = some pf38 := by kernel_rfl
def pf64 : PF := ⟨45,[.t 2],.seq (.reg [⟨some 2,none,.mov (.c (.v (.bool false))),0,[]⟩]) (.seq (.seq (.reg [⟨some 6,none,.mov (.t 0),0,[]⟩,⟨some 7,none,.bin .eql (.t 6)
  (.c (.v (.string (ByteArray.mk #[])))),0,[]⟩,⟨some 8,none,.mov (.t 7),0,[]⟩,⟨some 9,some (8,false),.mov (.t 0),0,[]⟩,⟨some 10,some (8,false),.lenT (.t 9),0,[]⟩,
 ⟨some 11,some (8,false),.bin .gtr (.t 10) (.c (.v (.int .i64 64))),0,[]⟩,⟨some 12,none,.pick (.t 8) (.c (.v (.bool true))) (.t 11),0,[]⟩]) (.cond (.t 12)
  (.seq (.reg [⟨some 2,none,.mov (.c (.v (.bool false))),0,[]⟩]) .ret) .skip)) (.seq (.reg [⟨some 3,none,.mov (.c (.v (.bool true))),0,[]⟩]) (.seq (.seq (.reg [⟨some 4,
 none,.mov (.c (.v (.int .i64 0))),0,[]⟩]) (.block 0 (.loop (.seq (.seq (.reg [⟨some 13,none,.mov (.t 4),0,[]⟩,⟨some 14,none,.mov (.t 0),0,[]⟩,⟨some 15,none,.lenT (.t 14)
 ,0,[]⟩,⟨some 16,none,.bin .lss (.t 13) (.t 15),0,[]⟩]) (.cond (.t 16) .skip (.exit 0))) (.seq (.block 1 (.seq (.reg [⟨some 19,none,.mov (.t 0),0,[]⟩,⟨some 20,none,
 .mov (.t 4),0,[]⟩,⟨some 21,none,.idxS (.t 19) (.t 20),0,[]⟩,⟨some 5,none,.mov (.t 21),0,[]⟩]) (.seq (.seq (.reg [⟨some 22,none,.mov (.t 3),0,[]⟩]) (.cond (.t 22)
  (.seq (.seq (.reg [⟨some 23,none,.mov (.t 5),0,[]⟩,⟨some 24,none,.call (.c (.fn 106 [])) [.t 23],0,[]⟩,⟨some 25,none,.un .not (.t 24),0,[]⟩]) (.cond (.t 25)
  (.seq (.reg [⟨some 2,none,.mov (.c (.v (.bool false))),0,[]⟩]) .ret) .skip)) (.seq (.reg [⟨some 3,none,.mov (.c (.v (.bool false))),0,[]⟩]) (.exit 1))) .skip))
  (.seq (.seq (.reg [⟨some 26,none,.mov (.t 5),0,[]⟩,⟨some 27,none,.bin .eql (.t 26) (.c (.v (.int .u8 46))),0,[]⟩]) (.cond (.t 27) (.seq (.reg [⟨some 3,none,
 .mov (.c (.v (.bool true))),0,[]⟩]) (.exit 1)) .skip)) (.seq (.reg [⟨some 28,none,.mov (.t 5),0,[]⟩,⟨some 29,none,.call (.c (.fn 106 [])) [.t 28],0,[]⟩,⟨some 30,none,
 .un .not (.t 29),0,[]⟩,⟨some 31,none,.mov (.t 30),0,[]⟩,⟨some 32,some (31,true),.mov (.t 5),0,[]⟩,⟨some 33,some (31,true),.bin .neq (.t 32) (.c (.v (.int .u8 39))),0,[]⟩
 ,⟨some 34,none,.pick (.t 31) (.t 33) (.c (.v (.bool false))),0,[]⟩,⟨some 35,none,.mov (.t 34),0,[]⟩,⟨some 36,some (35,true),.mov (.t 5),0,[]⟩,⟨some 37,some (35,true),
 .bin .lss (.t 36) (.c (.v (.int .u8 48))),0,[]⟩,⟨some 38,some (35,true),.mov (.t 37),0,[]⟩,⟨some 39,some (38,false),.mov (.t 5),0,[]⟩,⟨some 40,some (38,false),
 .bin .gtr (.t 39) (.c (.v (.int .u8 57))),0,[]⟩,⟨some 41,some (35,true),.pick (.t 38) (.c (.v (.bool true))) (.t 40),0,[]⟩,⟨some 42,none,.pick (.t 35) (.t 41)
  (.c (.v (.bool false))),0,[]⟩]) (.cond (.t 42) (.seq (.reg [⟨some 2,none,.mov (.c (.v (.bool false))),0,[]⟩]) .ret) .skip)))))) (.reg [⟨some 17,none,.mov (.t 4),0,[]⟩,
 ⟨some 18,none,.bin .add (.t 17) (.c (.v (.int .i64 1))),0,[]⟩,⟨some 4,none,.mov (.t 18),0,[]⟩])))))) (.seq (.reg [⟨some 43,none,.mov (.t 3),0,[]⟩,⟨some 44,none,
 .un .not (.t 43),0,[]⟩,⟨some 2,none,.mov (.t 44),0,[]⟩]) .ret))))⟩
theorem pf64_is : pfs 64 = some pf64 := by kernel_rfl
def pf73 : PF := ⟨98,[.t 2],.seq (.reg [⟨some 1,none,.box (.t 0),0,[]⟩,⟨some 2,none,.mov (.c (.v (.int .i64 0))),0,[]⟩]) (.seq (.seq (.reg [⟨some 8,none,.faddr 0 (.t 1),0,[]⟩,⟨some 9,
 none,.load false 1 (.t 8),0,[]⟩,⟨some 10,none,.lenS (.t 9),0,[]⟩,⟨some 11,none,.bin .eql (.t 10) (.c (.v (.int .i64 0))),0,[]⟩,⟨some 12,none,.mov (.t 11),0,[]⟩,⟨some 13,
 some (12,false),.faddr 2 (.t 1),0,[]⟩,⟨some 14,some (12,false),.load false 1 (.t 13),0,[]⟩,⟨some 15,some (12,false),.lenS (.t 14),0,[]⟩,⟨some 16,some (12,false),
 .faddr 1 (.t 1),0,[]⟩,⟨some 17,some (12,false),.load false 1 (.t 16),0,[]⟩,⟨some 18,some (12,false),.lenS (.t 17),0,[]⟩,⟨some 19,some (12,false),.bin .neq (.t 15)
  (.t 18),0,[]⟩,⟨some 20,none,.pick (.t 12) (.c (.v (.bool true))) (.t 19),0,[]⟩]) (.cond (.t 20) (.seq (.reg [⟨some 2,none,.mov (.c (.v (.int .i64 3))),0,[]⟩]) .ret)
  .skip)) (.seq (.seq (.reg [⟨some 3,none,.mov (.c (.v (.int .i64 0))),0,[]⟩]) (.block 0 (.loop (.seq (.seq (.reg [⟨some 21,none,.mov (.t 3),0,[]⟩,⟨some 22,none,
 .faddr 2 (.t 1),0,[]⟩,⟨some 23,none,.load false 1 (.t 22),0,[]⟩,⟨some 24,none,.lenS (.t 23),0,[]⟩,⟨some 25,none,.bin .lss (.t 21) (.t 24),0,[]⟩]) (.cond (.t 25)
  .skip (.exit 0))) (.seq (.block 1 (.seq (.seq (.dreg [3,0,0,0,8,0] [⟨some 28,none,.faddr 2 (.t 1),0,[]⟩,⟨some 29,none,.load false 1 (.t 28),1,[0]⟩,⟨some 30,none,
 .mov (.t 3),2,[]⟩,⟨some 31,none,.iaddr 1 (.t 29) (.t 30),3,[2,1,0]⟩,⟨some 32,none,.load false 1 (.t 31),4,[3,2,1,0]⟩,⟨some 33,none,.bin .lss (.t 32)
  (.c (.v (.int .i64 1))),5,[4,3,2,1,0]⟩,⟨some 34,none,.mov (.t 33),6,[5,4,3,2,1,0]⟩,⟨some 35,some (34,false),.faddr 2 (.t 1),7,[6,5,4,3,2,1,0]⟩,⟨some 36,some (34,false),
 .load false 1 (.t 35),8,[7,6,5,4,3,2,1,0]⟩,⟨some 37,some (34,false),.mov (.t 3),9,[6,5,4,3,2,1,0]⟩,⟨some 38,some (34,false),.iaddr 1 (.t 36) (.t 37),10,[9,8,7,6,5,4,3,2,
 1,0]⟩,⟨some 39,some (34,false),.load false 1 (.t 38),11,[10,9,8,7,6,5,4,3,2,1,0]⟩,⟨some 40,some (34,false),.faddr 0 (.t 1),12,[6,5,4,3,2,1,0]⟩,⟨some 41,some (34,false),
 .load false 1 (.t 40),13,[12,6,5,4,3,2,1,0]⟩,⟨some 42,some (34,false),.lenS (.t 41),14,[13,12,6,5,4,3,2,1,0]⟩,⟨some 43,some (34,false),.bin .geq (.t 39) (.t 42),15,[14,
 13,12,11,10,9,8,7,6,5,4,3,2,1,0]⟩,⟨some 44,none,.pick (.t 34) (.c (.v (.bool true))) (.t 43),16,[15,14,13,12,11,10,9,8,7,6,5,4,3,2,1,0]⟩]) (.cond (.t 44)
  (.seq (.reg [⟨some 2,none,.mov (.c (.v (.int .i64 3))),0,[]⟩]) .ret) .skip)) (.seq (.reg [⟨some 4,none,.mov (.c (.v (.int .i64 0))),0,[]⟩])
  (.block 2 (.loop (.seq (.seq (.reg [⟨some 45,none,.mov (.t 4),0,[]⟩,⟨some 46,none,.mov (.t 3),0,[]⟩,⟨some 47,none,.bin .lss (.t 45) (.t 46),0,[]⟩]) (.cond (.t 47)
  .skip (.exit 2))) (.seq (.block 3 (.seq (.dreg [10] [⟨some 50,none,.faddr 2 (.t 1),0,[]⟩,⟨some 51,none,.load false 1 (.t 50),1,[0]⟩,⟨some 52,none,.mov (.t 4),2,[]⟩,
 ⟨some 53,none,.iaddr 1 (.t 51) (.t 52),3,[2,1,0]⟩,⟨some 54,none,.load false 1 (.t 53),4,[3,2,1,0]⟩,⟨some 55,none,.faddr 2 (.t 1),5,[]⟩,⟨some 56,none,
 .load false 1 (.t 55),6,[5]⟩,⟨some 57,none,.mov (.t 3),7,[]⟩,⟨some 58,none,.iaddr 1 (.t 56) (.t 57),8,[7,6,5]⟩,⟨some 59,none,.load false 1 (.t 58),9,[8,7,6,5]⟩,⟨some 60,
 none,.bin .eql (.t 54) (.t 59),10,[9,8,7,6,5,4,3,2,1,0]⟩]) (.cond (.t 60) (.seq (.reg [⟨some 2,none,.mov (.c (.v (.int .i64 3))),0,[]⟩]) .ret) .skip))) (.reg [⟨some 48,
 none,.mov (.t 4),0,[]⟩,⟨some 49,none,.bin .add (.t 48) (.c (.v (.int .i64 1))),0,[]⟩,⟨some 4,none,.mov (.t 49),0,[]⟩])))))))) (.reg [⟨some 26,none,.mov (.t 3),0,[]⟩,
 ⟨some 27,none,.bin .add (.t 26) (.c (.v (.int .i64 1))),0,[]⟩,⟨some 3,none,.mov (.t 27),0,[]⟩])))))) (.seq (.seq (.reg [⟨some 5,none,.mov (.c (.v (.int .i64 0))),0,[]⟩])
  (.block 4 (.loop (.seq (.seq (.reg [⟨some 61,none,.mov (.t 5),0,[]⟩,⟨some 62,none,.faddr 1 (.t 1),0,[]⟩,⟨some 63,none,.load false 1 (.t 62),0,[]⟩,⟨some 64,none,
 .lenS (.t 63),0,[]⟩,⟨some 65,none,.bin .lss (.t 61) (.t 64),0,[]⟩]) (.cond (.t 65) .skip (.exit 4))) (.seq (.block 5 (.seq (.reg [⟨some 68,none,.faddr 1 (.t 1),0,[]⟩,
 ⟨some 69,none,.load false 1 (.t 68),0,[]⟩,⟨some 70,none,.mov (.t 5),0,[]⟩,⟨some 71,none,.iaddr 1 (.t 69) (.t 70),0,[]⟩,⟨some 72,none,.load false 1 (.t 71),0,[]⟩,
 ⟨some 73,none,.call (.c (.fn 64 [])) [.t 72],0,[]⟩,⟨some 74,none,.un .not (.t 73),0,[]⟩]) (.cond (.t 74) (.seq (.reg [⟨some 2,none,.mov (.c (.v (.int .i64 29))),0,[]⟩])
  .ret) .skip))) (.reg [⟨some 66,none,.mov (.t 5),0,[]⟩,⟨some 67,none,.bin .add (.t 66) (.c (.v (.int .i64 1))),0,[]⟩,⟨some 5,none,.mov (.t 67),0,[]⟩]))))))
  (.seq (.seq (.reg [⟨some 6,none,.mov (.c (.v (.int .i64 0))),0,[]⟩]) (.block 6 (.loop (.seq (.seq (.reg [⟨some 75,none,.mov (.t 6),0,[]⟩,⟨some 76,none,.faddr 1 (.t 1),
 0,[]⟩,⟨some 77,none,.load false 1 (.t 76),0,[]⟩,⟨some 78,none,.lenS (.t 77),0,[]⟩,⟨some 79,none,.bin .lss (.t 75) (.t 78),0,[]⟩]) (.cond (.t 79) .skip (.exit 6)))
  (.seq (.block 7 (.seq (.reg [⟨some 7,none,.mov (.c (.v (.int .i64 0))),0,[]⟩]) (.block 8 (.loop (.seq (.seq (.reg [⟨some 82,none,.mov (.t 7),0,[]⟩,⟨some 83,none,
 .mov (.t 6),0,[]⟩,⟨some 84,none,.bin .lss (.t 82) (.t 83),0,[]⟩]) (.cond (.t 84) .skip (.exit 8))) (.seq (.block 9 (.seq (.dreg [10] [⟨some 87,none,.faddr 1 (.t 1),0,[]⟩
 ,⟨some 88,none,.load false 1 (.t 87),1,[0]⟩,⟨some 89,none,.mov (.t 7),2,[]⟩,⟨some 90,none,.iaddr 1 (.t 88) (.t 89),3,[2,1,0]⟩,⟨some 91,none,.load false 1 (.t 90),4,[3,2,
 1,0]⟩,⟨some 92,none,.faddr 1 (.t 1),5,[]⟩,⟨some 93,none,.load false 1 (.t 92),6,[5]⟩,⟨some 94,none,.mov (.t 6),7,[]⟩,⟨some 95,none,.iaddr 1 (.t 93) (.t 94),8,[7,6,5]⟩,
 ⟨some 96,none,.load false 1 (.t 95),9,[8,7,6,5]⟩,⟨some 97,none,.bin .eql (.t 91) (.t 96),10,[9,8,7,6,5,4,3,2,1,0]⟩]) (.cond (.t 97) (.seq (.reg [⟨some 2,none,
 .mov (.c (.v (.int .i64 8))),0,[]⟩]) .ret) .skip))) (.reg [⟨some 85,none,.mov (.t 7),0,[]⟩,⟨some 86,none,.bin .add (.t 85) (.c (.v (.int .i64 1))),0,[]⟩,⟨some 7,none,
 .mov (.t 86),0,[]⟩]))))))) (.reg [⟨some 80,none,.mov (.t 6),0,[]⟩,⟨some 81,none,.bin .add (.t 80) (.c (.v (.int .i64 1))),0,[]⟩,⟨some 6,none,.mov (.t 81),0,[]⟩]))))))
  (.seq (.reg [⟨some 2,none,.mov (.c (.v (.int .i64 0))),0,[]⟩]) .ret)))))⟩
theorem pf73_is : pfs 73 = some pf73 := by kernel_rfl
def pf74 : PF := ⟨159,[.t 4],.seq (.reg [⟨some 4,none,.mov (.c (.v (.int .i64 0))),0,[]⟩]) (.seq (.reg [⟨some 17,none,.mov (.t 0),0,[]⟩,⟨some 18,none,.nilck (.t 17),0,[]⟩,⟨some 19,none,
 .faddr 3 (.t 18),0,[]⟩,⟨some 20,none,.load false 1 (.t 19),0,[]⟩,⟨some 21,none,.mov (.t 1),0,[]⟩,⟨some 22,none,.iaddr 1 (.t 20) (.t 21),0,[]⟩,⟨some 23,none,
 .load false 1 (.t 22),0,[]⟩,⟨some 5,none,.mov (.t 23),0,[]⟩,⟨some 6,none,.mov (.c (.v (.int .i64 0))),0,[]⟩,⟨some 7,none,.mov (.c (.v (.int .i64 0))),0,[]⟩,⟨some 8,none,
 .mov (.c (.v (.int .i64 0))),0,[]⟩]) (.seq (.reg [⟨some 24,none,.mov (.t 0),0,[]⟩,⟨some 25,none,.nilck (.t 24),0,[]⟩,⟨some 26,none,.faddr 0 (.t 25),0,[]⟩,⟨some 27,none,
 .faddr 0 (.t 26),0,[]⟩,⟨some 28,none,.load false 1 (.t 27),0,[]⟩,⟨some 29,none,.mov (.t 1),0,[]⟩,⟨some 30,none,.iaddr 1 (.t 28) (.t 29),0,[]⟩,⟨some 31,none,
 .load false 1 (.t 30),0,[]⟩,⟨some 9,none,.mov (.t 31),0,[]⟩]) (.seq (.seq (.reg [⟨some 32,none,.mov (.t 5),0,[]⟩,⟨some 33,none,.bin .lss (.t 32) (.c (.v (.int .i64 0))),
 0,[]⟩]) (.cond (.t 33) (.seq (.reg [⟨some 4,none,.mov (.c (.v (.int .i64 9))),0,[]⟩]) .ret) .skip)) (.seq (.seq (.reg [⟨some 10,none,.mov (.c (.v (.int .i64 0))),0,[]⟩])
  (.block 0 (.loop (.seq (.seq (.reg [⟨some 34,none,.mov (.t 10),0,[]⟩,⟨some 35,none,.mov (.t 9),0,[]⟩,⟨some 36,none,.lenS (.t 35),0,[]⟩,⟨some 37,none,.bin .lss (.t 34)
  (.t 36),0,[]⟩]) (.cond (.t 37) .skip (.exit 0))) (.seq (.block 1 (.seq (.reg [⟨some 40,none,.mov (.t 9),0,[]⟩,⟨some 41,none,.mov (.t 10),0,[]⟩,⟨some 42,none,
 .iaddr 4 (.t 40) (.t 41),0,[]⟩,⟨some 43,none,.load true 4 (.t 42),0,[]⟩,⟨some 11,none,.alloc [.v (.int .i64 0),.v (.int .i64 0),.v (.int .i64 0),
 .v (.string (ByteArray.mk #[]))],0,[]⟩,⟨none,none,.store 4 (.t 11) (.t 43),0,[]⟩]) (.seq (.seq (.dreg [7,0] [⟨some 44,none,.mov (.t 0),0,[]⟩,⟨some 45,none,
 .load true 4 (.t 11),1,[]⟩,⟨some 46,none,.mov (.t 9),2,[]⟩,⟨some 47,none,.mov (.t 10),3,[]⟩,⟨some 48,none,.bin .add (.t 47) (.c (.v (.int .i64 1))),4,[3]⟩,⟨some 49,none,
 .slice 4 (.t 46) (some (.t 48)) none none,5,[4,3,2]⟩,⟨some 50,none,.mov (.t 8),6,[]⟩,⟨some 51,none,.call (.c (.fn 113 [])) [.t 44,.t 45,.t 49,.t 50],7,[6,5,4,3,2,1,0]⟩,
 ⟨some 12,none,.mov (.t 51),8,[7,6,5,4,3,2,1,0]⟩]) (.seq (.reg [⟨some 52,none,.mov (.t 12),0,[]⟩,⟨some 53,none,.bin .neq (.t 52) (.c (.v (.int .i64 0))),0,[]⟩])
  (.cond (.t 53) (.seq (.reg [⟨some 54,none,.mov (.t 12),0,[]⟩,⟨some 4,none,.mov (.t 54),0,[]⟩]) .ret) .skip))) (.seq (.reg [⟨some 55,none,.mov (.t 8),0,[]⟩,⟨some 56,
 none,.bin .sub (.t 55) (.c (.v (.int .i64 1))),0,[]⟩,⟨some 57,none,.max (.c (.v (.int .i64 0))) (.t 56),0,[]⟩,⟨some 8,none,.mov (.t 57),0,[]⟩])
  (.seq (.seq (.reg [⟨some 58,none,.faddr 0 (.t 11),0,[]⟩,⟨some 59,none,.load false 1 (.t 58),0,[]⟩,⟨some 60,none,.bin .eql (.t 59) (.c (.v (.int .i64 5))),0,[]⟩])
  (.cond (.t 60) (.reg [⟨some 61,none,.faddr 1 (.t 11),0,[]⟩,⟨some 62,none,.load false 1 (.t 61),0,[]⟩,⟨some 8,none,.mov (.t 62),0,[]⟩]) .skip))
  (.seq (.seq (.reg [⟨some 63,none,.faddr 0 (.t 11),0,[]⟩,⟨some 64,none,.load false 1 (.t 63),0,[]⟩,⟨some 65,none,.bin .eql (.t 64) (.c (.v (.int .i64 1))),0,[]⟩])
  (.cond (.t 65) (.seq (.reg [⟨some 66,none,.mov (.t 0),0,[]⟩,⟨some 67,none,.faddr 1 (.t 11),0,[]⟩,⟨some 68,none,.load false 1 (.t 67),0,[]⟩,⟨some 69,none,.mov (.t 5),0,
 []⟩,⟨some 70,none,.bin .add (.t 69) (.c (.v (.int .i64 1))),0,[]⟩,⟨some 71,none,.mov (.t 1),0,[]⟩,⟨some 72,none,.call (.c (.fn 114 [])) [.t 66,.t 68,.t 70,.t 71],0,[]⟩,
 ⟨some 13,none,.mov (.t 72),0,[]⟩]) (.seq (.reg [⟨some 73,none,.mov (.t 13),0,[]⟩,⟨some 74,none,.bin .neq (.t 73) (.c (.v (.int .i64 0))),0,[]⟩]) (.cond (.t 74)
  (.seq (.reg [⟨some 75,none,.mov (.t 13),0,[]⟩,⟨some 4,none,.mov (.t 75),0,[]⟩]) .ret) .skip))) .skip)) (.seq (.seq (.reg [⟨some 76,none,.faddr 0 (.t 11),0,[]⟩,⟨some 77,
 none,.load false 1 (.t 76),0,[]⟩,⟨some 78,none,.bin .eql (.t 77) (.c (.v (.int .i64 6))),0,[]⟩]) (.cond (.t 78) (.seq (.reg [⟨some 79,none,.mov (.t 0),0,[]⟩,⟨some 80,
 none,.faddr 1 (.t 11),0,[]⟩,⟨some 81,none,.load false 1 (.t 80),0,[]⟩,⟨some 82,none,.mov (.t 5),0,[]⟩,⟨some 83,none,.faddr 2 (.t 11),0,[]⟩,⟨some 84,none,
 .load false 1 (.t 83),0,[]⟩,⟨some 85,none,.bin .add (.t 82) (.t 84),0,[]⟩,⟨some 86,none,.mov (.t 1),0,[]⟩,⟨some 87,none,.call (.c (.fn 114 [])) [.t 79,.t 81,.t 85,.t 86]
 ,0,[]⟩,⟨some 14,none,.mov (.t 87),0,[]⟩]) (.seq (.reg [⟨some 88,none,.mov (.t 14),0,[]⟩,⟨some 89,none,.bin .neq (.t 88) (.c (.v (.int .i64 0))),0,[]⟩]) (.cond (.t 89)
  (.seq (.reg [⟨some 90,none,.mov (.t 14),0,[]⟩,⟨some 4,none,.mov (.t 90),0,[]⟩]) .ret) .skip))) .skip)) (.seq (.seq (.reg [⟨some 91,none,.faddr 0 (.t 11),0,[]⟩,⟨some 92,
 none,.load false 1 (.t 91),0,[]⟩,⟨some 93,none,.bin .eql (.t 92) (.c (.v (.int .i64 0))),0,[]⟩,⟨some 94,none,.mov (.t 93),0,[]⟩,⟨some 95,some (94,true),.faddr 1 (.t 11),
 0,[]⟩,⟨some 96,some (94,true),.load false 1 (.t 95),0,[]⟩,⟨some 97,some (94,true),.mov (.t 5),0,[]⟩,⟨some 98,some (94,true),.bin .geq (.t 96) (.t 97),0,[]⟩,⟨some 99,
 none,.pick (.t 94) (.t 98) (.c (.v (.bool false))),0,[]⟩]) (.cond (.t 99) (.seq (.reg [⟨some 4,none,.mov (.c (.v (.int .i64 24))),0,[]⟩]) .ret) .skip))
  (.seq (.reg [⟨some 101,none,.load true 4 (.t 11),0,[]⟩,⟨some 102,none,.call (.c (.fn 115 [])) [.t 101],0,[]⟩,⟨some 100,none,.mov (.t 102),0,[]⟩,⟨some 103,none,
 .ext (.t 100) 0,0,[]⟩,⟨some 104,none,.ext (.t 100) 1,0,[]⟩,⟨some 15,none,.mov (.t 103),0,[]⟩,⟨some 16,none,.mov (.t 104),0,[]⟩]) (.seq (.seq (.reg [⟨some 105,none,
 .mov (.t 6),0,[]⟩,⟨some 106,none,.mov (.t 15),0,[]⟩,⟨some 107,none,.bin .lss (.t 105) (.t 106),0,[]⟩,⟨some 108,none,.mov (.t 107),0,[]⟩,⟨some 109,some (108,false),
 .faddr 0 (.t 11),0,[]⟩,⟨some 110,some (108,false),.load false 1 (.t 109),0,[]⟩,⟨some 111,some (108,false),.bin .eql (.t 110) (.c (.v (.int .i64 10))),0,[]⟩,⟨some 112,
 some (108,false),.mov (.t 111),0,[]⟩,⟨some 113,some (112,true),.mov (.t 7),0,[]⟩,⟨some 114,some (112,true),.bin .eql (.t 113) (.c (.v (.int .i64 0))),0,[]⟩,⟨some 115,
 some (108,false),.pick (.t 112) (.t 114) (.c (.v (.bool false))),0,[]⟩,⟨some 116,none,.pick (.t 108) (.c (.v (.bool true))) (.t 115),0,[]⟩]) (.cond (.t 116)
  (.seq (.reg [⟨some 4,none,.mov (.c (.v (.int .i64 27))),0,[]⟩]) .ret) .skip)) (.seq (.reg [⟨some 117,none,.mov (.t 6),0,[]⟩,⟨some 118,none,.mov (.t 15),0,[]⟩,⟨some 119,
 none,.bin .sub (.t 117) (.t 118),0,[]⟩,⟨some 120,none,.mov (.t 16),0,[]⟩,⟨some 121,none,.bin .add (.t 119) (.t 120),0,[]⟩,⟨some 6,none,.mov (.t 121),0,[]⟩])
  (.seq (.seq (.reg [⟨some 122,none,.faddr 0 (.t 11),0,[]⟩,⟨some 123,none,.load false 1 (.t 122),0,[]⟩,⟨some 124,none,.bin .eql (.t 123) (.c (.v (.int .i64 9))),0,[]⟩])
  (.cond (.t 124) (.reg [⟨some 125,none,.mov (.t 5),0,[]⟩,⟨some 126,none,.bin .add (.t 125) (.c (.v (.int .i64 1))),0,[]⟩,⟨some 127,none,.mov (.t 7),0,[]⟩,⟨some 128,none,
 .bin .add (.t 127) (.c (.v (.int .i64 1))),0,[]⟩,⟨some 5,none,.mov (.t 126),0,[]⟩,⟨some 7,none,.mov (.t 128),0,[]⟩]) .skip)) (.seq (.seq (.reg [⟨some 129,none,
 .faddr 0 (.t 11),0,[]⟩,⟨some 130,none,.load false 1 (.t 129),0,[]⟩,⟨some 131,none,.bin .eql (.t 130) (.c (.v (.int .i64 10))),0,[]⟩]) (.cond (.t 131) (.reg [⟨some 132,
 none,.mov (.t 5),0,[]⟩,⟨some 133,none,.bin .sub (.t 132) (.c (.v (.int .i64 1))),0,[]⟩,⟨some 134,none,.mov (.t 7),0,[]⟩,⟨some 135,none,.bin .sub (.t 134)
  (.c (.v (.int .i64 1))),0,[]⟩,⟨some 5,none,.mov (.t 133),0,[]⟩,⟨some 7,none,.mov (.t 135),0,[]⟩]) .skip)) (.seq (.seq (.reg [⟨some 136,none,.faddr 0 (.t 11),0,[]⟩,
 ⟨some 137,none,.load false 1 (.t 136),0,[]⟩,⟨some 138,none,.bin .eql (.t 137) (.c (.v (.int .i64 3))),0,[]⟩,⟨some 139,none,.mov (.t 10),0,[]⟩,⟨some 140,none,.mov (.t 9),
 0,[]⟩,⟨some 141,none,.lenS (.t 140),0,[]⟩,⟨some 142,none,.bin .sub (.t 141) (.c (.v (.int .i64 1))),0,[]⟩,⟨some 143,none,.bin .eql (.t 139) (.t 142),0,[]⟩,⟨some 144,
 none,.eqb true (.t 138) (.t 143),0,[]⟩]) (.cond (.t 144) (.seq (.reg [⟨some 4,none,.mov (.c (.v (.int .i64 3))),0,[]⟩]) .ret) .skip)) (.seq (.reg [⟨some 145,none,
 .faddr 0 (.t 11),0,[]⟩,⟨some 146,none,.load false 1 (.t 145),0,[]⟩,⟨some 147,none,.bin .eql (.t 146) (.c (.v (.int .i64 3))),0,[]⟩,⟨some 148,none,.mov (.t 147),0,[]⟩,
 ⟨some 149,some (148,true),.mov (.t 6),0,[]⟩,⟨some 150,some (148,true),.bin .neq (.t 149) (.c (.v (.int .i64 1))),0,[]⟩,⟨some 151,some (148,true),.mov (.t 150),0,[]⟩,
 ⟨some 152,some (151,false),.mov (.t 7),0,[]⟩,⟨some 153,some (151,false),.bin .neq (.t 152) (.c (.v (.int .i64 0))),0,[]⟩,⟨some 154,some (148,true),.pick (.t 151)
  (.c (.v (.bool true))) (.t 153),0,[]⟩,⟨some 155,none,.pick (.t 148) (.t 154) (.c (.v (.bool false))),0,[]⟩]) (.cond (.t 155) (.seq (.reg [⟨some 4,none,
 .mov (.c (.v (.int .i64 27))),0,[]⟩]) .ret) .skip)))))))))))))))) (.reg [⟨some 38,none,.mov (.t 10),0,[]⟩,⟨some 39,none,.bin .add (.t 38) (.c (.v (.int .i64 1))),0,[]⟩,
 ⟨some 10,none,.mov (.t 39),0,[]⟩])))))) (.seq (.seq (.reg [⟨some 156,none,.mov (.t 9),0,[]⟩,⟨some 157,none,.lenS (.t 156),0,[]⟩,⟨some 158,none,.bin .eql (.t 157)
  (.c (.v (.int .i64 0))),0,[]⟩]) (.cond (.t 158) (.seq (.reg [⟨some 4,none,.mov (.c (.v (.int .i64 3))),0,[]⟩]) .ret) .skip)) (.seq (.reg [⟨some 4,none,
 .mov (.c (.v (.int .i64 0))),0,[]⟩]) .ret))))))⟩
theorem pf74_is : pfs 74 = some pf74 := by kernel_rfl
def pf86 : PF := ⟨39,[.t 2],.seq (.reg [⟨some 2,none,.mov (.c (.v (.bool false))),0,[]⟩]) (.seq (.reg [⟨some 3,none,.mov (.c (.v (.bool true))),0,[]⟩]) (.seq (.seq (.reg [⟨some 6,none,
 .mov (.t 0),0,[]⟩,⟨some 7,none,.lenT (.t 6),0,[]⟩,⟨some 8,none,.mov (.c (.v (.int .i64 0))),0,[]⟩]) (.block 0 (.loop (.seq (.reg [⟨some 9,none,.bin .lss (.t 8) (.t 7),0,
 []⟩]) (.seq (.cond (.t 9) .skip (.exit 0)) (.seq (.block 1 (.seq (.reg [⟨some 10,none,.mov (.t 8),0,[]⟩,⟨some 4,none,.mov (.t 10),0,[]⟩]) (.seq (.reg [⟨some 11,none,
 .mov (.t 0),0,[]⟩,⟨some 12,none,.mov (.t 4),0,[]⟩,⟨some 13,none,.idxS (.t 11) (.t 12),0,[]⟩,⟨some 5,none,.mov (.t 13),0,[]⟩]) (.block 2 (.seq (.reg [⟨some 15,none,
 .mov (.t 5),0,[]⟩,⟨some 16,none,.call (.c (.fn 131 [])) [.t 15],0,[]⟩,⟨some 14,none,.mov (.t 16),0,[]⟩]) (.cond (.t 14) (.reg [⟨some 3,none,.mov (.c (.v (.bool false))),
 0,[]⟩]) (.seq (.reg [⟨some 18,none,.mov (.t 3),0,[]⟩,⟨some 17,none,.mov (.t 18),0,[]⟩]) (.cond (.t 17) (.seq (.reg [⟨some 2,none,.mov (.c (.v (.bool false))),0,[]⟩])
  .ret) (.seq (.reg [⟨some 20,none,.mov (.t 5),0,[]⟩,⟨some 21,none,.bin .eql (.t 20) (.c (.v (.int .u8 46))),0,[]⟩,⟨some 19,none,.mov (.t 21),0,[]⟩]) (.cond (.t 19)
  (.reg [⟨some 3,none,.mov (.c (.v (.bool true))),0,[]⟩]) (.seq (.reg [⟨some 23,none,.mov (.t 5),0,[]⟩,⟨some 24,none,.bin .lss (.t 23) (.c (.v (.int .u8 48))),0,[]⟩,
 ⟨some 25,none,.mov (.t 24),0,[]⟩,⟨some 26,some (25,false),.mov (.t 5),0,[]⟩,⟨some 27,some (25,false),.bin .gtr (.t 26) (.c (.v (.int .u8 57))),0,[]⟩,⟨some 28,none,
 .pick (.t 25) (.c (.v (.bool true))) (.t 27),0,[]⟩,⟨some 22,none,.mov (.t 28),0,[]⟩]) (.cond (.t 22) (.seq (.reg [⟨some 29,none,.mov (.t 5),0,[]⟩,⟨some 30,none,
 .bin .neq (.t 29) (.c (.v (.int .u8 39))),0,[]⟩]) (.cond (.t 30) (.seq (.reg [⟨some 2,none,.mov (.c (.v (.bool false))),0,[]⟩]) .ret) .skip)) .skip))))))))))))
  (.reg [⟨some 31,none,.bin .add (.t 8) (.c (.v (.int .i64 1))),0,[]⟩,⟨some 8,none,.mov (.t 31),0,[]⟩]))))))) (.seq (.reg [⟨some 32,none,.mov (.t 3),0,[]⟩,⟨some 33,none,
 .un .not (.t 32),0,[]⟩,⟨some 34,none,.mov (.t 33),0,[]⟩,⟨some 35,some (34,true),.mov (.t 0),0,[]⟩,⟨some 36,some (34,true),.lenT (.t 35),0,[]⟩,⟨some 37,some (34,true),
 .bin .leq (.t 36) (.c (.v (.int .i64 64))),0,[]⟩,⟨some 38,none,.pick (.t 34) (.t 37) (.c (.v (.bool false))),0,[]⟩,⟨some 2,none,.mov (.t 38),0,[]⟩]) .ret)))⟩
theorem pf86_is : pfs 86 = some pf86 := by kernel_rfl
def pf87 : PF := ⟨30,[.t 2],.seq (.reg [⟨some 1,none,.box (.t 0),0,[]⟩,⟨some 2,none,.mov (.c (.v (.int .i64 0))),0,[]⟩]) (.seq (.block 0 (.seq (.seq (.reg [⟨some 4,none,.faddr 0 (.t 1),
 0,[]⟩,⟨some 5,none,.load false 1 (.t 4),0,[]⟩,⟨some 6,none,.lenS (.t 5),0,[]⟩,⟨some 7,none,.bin .eql (.t 6) (.c (.v (.int .i64 0))),0,[]⟩,⟨some 3,none,.mov (.t 7),0,[]⟩]
 ) (.cond (.t 3) .skip (.seq (.reg [⟨some 8,none,.faddr 2 (.t 1),0,[]⟩,⟨some 9,none,.load false 1 (.t 8),0,[]⟩,⟨some 10,none,.lenS (.t 9),0,[]⟩,⟨some 11,none,
 .faddr 1 (.t 1),0,[]⟩,⟨some 12,none,.load false 1 (.t 11),0,[]⟩,⟨some 13,none,.lenS (.t 12),0,[]⟩,⟨some 14,none,.bin .neq (.t 10) (.t 13),0,[]⟩,⟨some 3,none,.mov (.t 14)
 ,0,[]⟩]) (.cond (.t 3) .skip (.seq (.reg [⟨some 15,none,.faddr 2 (.t 1),0,[]⟩,⟨some 16,none,.load false 1 (.t 15),0,[]⟩,⟨some 17,none,.mkfn 133 [.t 1],0,[]⟩,⟨some 18,
 none,.call (.c (.fn 132 [])) [.t 16,.t 17],0,[]⟩,⟨some 3,none,.mov (.t 18),0,[]⟩]) (.cond (.t 3) .skip (.reg [⟨some 19,none,.faddr 2 (.t 1),0,[]⟩,⟨some 20,none,
 .load false 1 (.t 19),0,[]⟩,⟨some 21,none,.call (.c (.fn 134 [])) [.t 20],0,[]⟩,⟨some 3,none,.mov (.t 21),0,[]⟩]))))))) (.cond (.t 3) (.seq (.reg [⟨some 2,none,
 .mov (.c (.v (.int .i64 3))),0,[]⟩]) .ret) (.seq (.reg [⟨some 23,none,.faddr 1 (.t 1),0,[]⟩,⟨some 24,none,.load false 1 (.t 23),0,[]⟩,⟨some 25,none,.call (.c (.fn 135 []
 )) [.t 24,.c (.fn 136 [])],0,[]⟩,⟨some 22,none,.mov (.t 25),0,[]⟩]) (.cond (.t 22) (.seq (.reg [⟨some 2,none,.mov (.c (.v (.int .i64 29))),0,[]⟩]) .ret)
  (.seq (.reg [⟨some 27,none,.faddr 1 (.t 1),0,[]⟩,⟨some 28,none,.load false 1 (.t 27),0,[]⟩,⟨some 29,none,.call (.c (.fn 137 [])) [.t 28],0,[]⟩,⟨some 26,none,
 .mov (.t 29),0,[]⟩]) (.cond (.t 26) (.seq (.reg [⟨some 2,none,.mov (.c (.v (.int .i64 8))),0,[]⟩]) .ret) .skip))))))) (.seq (.reg [⟨some 2,none,
 .mov (.c (.v (.int .i64 0))),0,[]⟩]) .ret))⟩
theorem pf87_is : pfs 87 = some pf87 := by kernel_rfl
def pf89 : PF := ⟨81,[.t 4],.seq (.reg [⟨some 4,none,.mov (.c (.v (.int .i64 0))),0,[]⟩]) (.seq (.reg [⟨some 12,none,.mov (.t 0),0,[]⟩,⟨some 13,none,.nilck (.t 12),0,[]⟩,⟨some 14,none,
 .faddr 0 (.t 13),0,[]⟩,⟨some 15,none,.faddr 0 (.t 14),0,[]⟩,⟨some 16,none,.load false 1 (.t 15),0,[]⟩,⟨some 17,none,.mov (.t 1),0,[]⟩,⟨some 18,none,.iaddr 1 (.t 16)
  (.t 17),0,[]⟩,⟨some 19,none,.load false 1 (.t 18),0,[]⟩,⟨some 5,none,.mov (.t 19),0,[]⟩]) (.seq (.seq (.reg [⟨some 20,none,.mov (.t 0),0,[]⟩,⟨some 21,none,
 .nilck (.t 20),0,[]⟩,⟨some 22,none,.faddr 3 (.t 21),0,[]⟩,⟨some 23,none,.load false 1 (.t 22),0,[]⟩,⟨some 24,none,.mov (.t 1),0,[]⟩,⟨some 25,none,.iaddr 1 (.t 23)
  (.t 24),0,[]⟩,⟨some 26,none,.load false 1 (.t 25),0,[]⟩,⟨some 27,none,.bin .lss (.t 26) (.c (.v (.int .i64 0))),0,[]⟩]) (.cond (.t 27) (.seq (.reg [⟨some 4,none,
 .mov (.c (.v (.int .i64 9))),0,[]⟩]) .ret) .skip)) (.seq (.seq (.reg [⟨some 28,none,.mov (.t 5),0,[]⟩,⟨some 29,none,.lenS (.t 28),0,[]⟩,⟨some 30,none,.bin .eql (.t 29)
  (.c (.v (.int .i64 0))),0,[]⟩]) (.cond (.t 30) (.seq (.reg [⟨some 4,none,.mov (.c (.v (.int .i64 3))),0,[]⟩]) .ret) .skip)) (.seq (.reg [⟨some 31,none,.mov (.t 1),0,[]⟩
 ,⟨some 32,none,.mov (.t 0),0,[]⟩,⟨some 33,none,.nilck (.t 32),0,[]⟩,⟨some 34,none,.faddr 3 (.t 33),0,[]⟩,⟨some 35,none,.load false 1 (.t 34),0,[]⟩,⟨some 36,none,
 .mov (.t 1),0,[]⟩,⟨some 37,none,.iaddr 1 (.t 35) (.t 36),0,[]⟩,⟨some 38,none,.load false 1 (.t 37),0,[]⟩,⟨some 39,none,.build [.v (.int .i64 0),.v (.int .i64 0),
 .v (.int .i64 0),.v (.int .i64 0),.v (.int .i64 0)] [(0,1,.t 31),(1,1,.t 38)],0,[]⟩,⟨some 40,none,.box (.t 39),0,[]⟩,⟨some 6,none,.mov (.t 40),0,[]⟩])
  (.seq (.seq (.reg [⟨some 41,none,.mov (.t 5),0,[]⟩,⟨some 42,none,.lenS (.t 41),0,[]⟩,⟨some 43,none,.mov (.c (.v (.int .i64 0))),0,[]⟩])
  (.block 0 (.loop (.seq (.reg [⟨some 44,none,.bin .lss (.t 43) (.t 42),0,[]⟩]) (.seq (.cond (.t 44) .skip (.exit 0)) (.seq (.block 1 (.seq (.reg [⟨some 45,none,
 .mov (.t 43),0,[]⟩,⟨some 46,none,.iaddr 4 (.t 41) (.t 43),0,[]⟩,⟨some 47,none,.load true 4 (.t 46),0,[]⟩,⟨some 8,none,.alloc [.v (.int .i64 0),.v (.int .i64 0),
 .v (.int .i64 0),.v (.string (ByteArray.mk #[]))],0,[]⟩,⟨some 7,none,.mov (.t 45),0,[]⟩,⟨none,none,.store 4 (.t 8) (.t 47),0,[]⟩]) (.seq (.seq (.dreg [10,0] [⟨some 48,
 none,.mov (.t 0),0,[]⟩,⟨some 49,none,.load true 4 (.t 8),1,[]⟩,⟨some 50,none,.mov (.t 5),2,[]⟩,⟨some 51,none,.mov (.t 7),3,[]⟩,⟨some 52,none,.bin .add (.t 51)
  (.c (.v (.int .i64 1))),4,[3]⟩,⟨some 53,none,.slice 4 (.t 50) (some (.t 52)) none none,5,[4,3,2]⟩,⟨some 54,none,.mov (.t 6),6,[]⟩,⟨some 55,none,.nilck (.t 54),7,[6]⟩,
 ⟨some 56,none,.faddr 4 (.t 55),8,[7,6]⟩,⟨some 57,none,.load false 1 (.t 56),9,[8,7,6]⟩,⟨some 58,none,.call (.c (.fn 139 [])) [.t 48,.t 49,.t 53,.t 57],10,[9,8,7,6,5,4,3,
 2,1,0]⟩,⟨some 9,none,.mov (.t 58),11,[10,9,8,7,6,5,4,3,2,1,0]⟩]) (.seq (.reg [⟨some 59,none,.mov (.t 9),0,[]⟩,⟨some 60,none,.bin .neq (.t 59) (.c (.v (.int .i64 0))),0,
 []⟩]) (.cond (.t 60) (.seq (.reg [⟨some 61,none,.mov (.t 9),0,[]⟩,⟨some 4,none,.mov (.t 61),0,[]⟩]) .ret) .skip))) (.seq (.seq (.reg [⟨some 62,none,.mov (.t 0),0,[]⟩,
 ⟨some 63,none,.mov (.t 6),0,[]⟩,⟨some 64,none,.load true 4 (.t 8),0,[]⟩,⟨some 65,none,.call (.c (.fn 140 [])) [.t 62,.t 63,.t 64],0,[]⟩,⟨some 10,none,.mov (.t 65),0,[]⟩]
 ) (.seq (.reg [⟨some 66,none,.mov (.t 10),0,[]⟩,⟨some 67,none,.bin .neq (.t 66) (.c (.v (.int .i64 0))),0,[]⟩]) (.cond (.t 67) (.seq (.reg [⟨some 68,none,.mov (.t 10),0,
 []⟩,⟨some 4,none,.mov (.t 68),0,[]⟩]) .ret) .skip))) (.seq (.reg [⟨some 69,none,.mov (.t 6),0,[]⟩,⟨some 70,none,.load true 4 (.t 8),0,[]⟩,⟨some 71,none,.mov (.t 7),0,[]⟩
 ,⟨some 72,none,.mov (.t 5),0,[]⟩,⟨some 73,none,.lenS (.t 72),0,[]⟩,⟨some 74,none,.bin .sub (.t 73) (.c (.v (.int .i64 1))),0,[]⟩,⟨some 75,none,.bin .eql (.t 71) (.t 74),
 0,[]⟩,⟨some 76,none,.call (.c (.fn 141 [])) [.t 69,.t 70,.t 75],0,[]⟩,⟨some 11,none,.mov (.t 76),0,[]⟩]) (.seq (.reg [⟨some 77,none,.mov (.t 11),0,[]⟩,⟨some 78,none,
 .bin .neq (.t 77) (.c (.v (.int .i64 0))),0,[]⟩]) (.cond (.t 78) (.seq (.reg [⟨some 79,none,.mov (.t 11),0,[]⟩,⟨some 4,none,.mov (.t 79),0,[]⟩]) .ret) .skip)))))))
  (.reg [⟨some 80,none,.bin .add (.t 43) (.c (.v (.int .i64 1))),0,[]⟩,⟨some 43,none,.mov (.t 80),0,[]⟩]))))))) (.seq (.reg [⟨some 4,none,.mov (.c (.v (.int .i64 0))),0,
 []⟩]) .ret))))))⟩
theorem pf89_is : pfs 89 = some pf89 := by kernel_rfl
def pf106 : PF := ⟨21,[.t 2],.seq (.reg [⟨some 2,none,.mov (.c (.v (.bool false))),0,[]⟩]) (.seq (.reg [⟨some 3,none,.mov (.t 0),0,[]⟩,⟨some 4,none,.bin .geq (.t 3) (.c (.v (.int .u8 97))
 ),0,[]⟩,⟨some 5,none,.mov (.t 4),0,[]⟩,⟨some 6,some (5,true),.mov (.t 0),0,[]⟩,⟨some 7,some (5,true),.bin .leq (.t 6) (.c (.v (.int .u8 122))),0,[]⟩,⟨some 8,none,
 .pick (.t 5) (.t 7) (.c (.v (.bool false))),0,[]⟩,⟨some 9,none,.mov (.t 8),0,[]⟩,⟨some 10,some (9,false),.mov (.t 0),0,[]⟩,⟨some 11,some (9,false),.bin .geq (.t 10)
  (.c (.v (.int .u8 65))),0,[]⟩,⟨some 12,some (9,false),.mov (.t 11),0,[]⟩,⟨some 13,some (12,true),.mov (.t 0),0,[]⟩,⟨some 14,some (12,true),.bin .leq (.t 13)
  (.c (.v (.int .u8 90))),0,[]⟩,⟨some 15,some (9,false),.pick (.t 12) (.t 14) (.c (.v (.bool false))),0,[]⟩,⟨some 16,none,.pick (.t 9) (.c (.v (.bool true))) (.t 15),0,[]
 ⟩,⟨some 17,none,.mov (.t 16),0,[]⟩,⟨some 18,some (17,false),.mov (.t 0),0,[]⟩,⟨some 19,some (17,false),.bin .eql (.t 18) (.c (.v (.int .u8 95))),0,[]⟩,⟨some 20,none,
 .pick (.t 17) (.c (.v (.bool true))) (.t 19),0,[]⟩,⟨some 2,none,.mov (.t 20),0,[]⟩]) .ret)⟩
theorem pf106_is : pfs 106 = some pf106 := by kernel_rfl
def pf113 : PF := ⟨160,[.t 8],.seq (.reg [⟨some 5,none,.box (.t 1),0,[]⟩,⟨some 8,none,.mov (.c (.v (.int .i64 0))),0,[]⟩]) (.seq (.seq (.reg [⟨some 13,none,.faddr 0 (.t 5),0,[]⟩,⟨some 14,
 none,.load false 1 (.t 13),0,[]⟩,⟨some 15,none,.bin .lss (.t 14) (.c (.v (.int .i64 0))),0,[]⟩,⟨some 16,none,.mov (.t 15),0,[]⟩,⟨some 17,some (16,false),.faddr 0 (.t 5),
 0,[]⟩,⟨some 18,some (16,false),.load false 1 (.t 17),0,[]⟩,⟨some 19,some (16,false),.bin .gtr (.t 18) (.c (.v (.int .i64 14))),0,[]⟩,⟨some 20,none,.pick (.t 16)
  (.c (.v (.bool true))) (.t 19),0,[]⟩,⟨some 21,none,.mov (.t 20),0,[]⟩,⟨some 22,some (21,false),.faddr 1 (.t 5),0,[]⟩,⟨some 23,some (21,false),.load false 1 (.t 22),0,[]
 ⟩,⟨some 24,some (21,false),.bin .lss (.t 23) (.c (.v (.int .i64 0))),0,[]⟩,⟨some 25,none,.pick (.t 21) (.c (.v (.bool true))) (.t 24),0,[]⟩,⟨some 26,none,.mov (.t 25),0,
 []⟩,⟨some 27,some (26,false),.faddr 2 (.t 5),0,[]⟩,⟨some 28,some (26,false),.load false 1 (.t 27),0,[]⟩,⟨some 29,some (26,false),.bin .lss (.t 28) (.c (.v (.int .i64 0))
 ),0,[]⟩,⟨some 30,none,.pick (.t 26) (.c (.v (.bool true))) (.t 29),0,[]⟩]) (.cond (.t 30) (.seq (.reg [⟨some 8,none,.mov (.c (.v (.int .i64 3))),0,[]⟩]) .ret) .skip))
  (.seq (.reg [⟨some 32,none,.faddr 0 (.t 5),0,[]⟩,⟨some 33,none,.load false 1 (.t 32),0,[]⟩,⟨some 34,none,.call (.c (.fn 152 [])) [.t 33],0,[]⟩,⟨some 31,none,
 .mov (.t 34),0,[]⟩,⟨some 35,none,.ext (.t 31) 0,0,[]⟩,⟨some 36,none,.ext (.t 31) 1,0,[]⟩,⟨some 37,none,.ext (.t 31) 2,0,[]⟩,⟨some 9,none,.mov (.t 35),0,[]⟩,⟨some 10,
 none,.mov (.t 36),0,[]⟩,⟨some 11,none,.mov (.t 37),0,[]⟩]) (.seq (.seq (.reg [⟨some 38,none,.mov (.t 9),0,[]⟩,⟨some 39,none,.un .not (.t 38),0,[]⟩,⟨some 40,none,
 .mov (.t 39),0,[]⟩,⟨some 41,some (40,true),.faddr 1 (.t 5),0,[]⟩,⟨some 42,some (40,true),.load false 1 (.t 41),0,[]⟩,⟨some 43,some (40,true),.bin .neq (.t 42)
  (.c (.v (.int .i64 0))),0,[]⟩,⟨some 44,none,.pick (.t 40) (.t 43) (.c (.v (.bool false))),0,[]⟩,⟨some 45,none,.mov (.t 44),0,[]⟩,⟨some 46,some (45,false),.mov (.t 10),
 0,[]⟩,⟨some 47,some (45,false),.un .not (.t 46),0,[]⟩,⟨some 48,some (45,false),.mov (.t 47),0,[]⟩,⟨some 49,some (48,true),.faddr 2 (.t 5),0,[]⟩,⟨some 50,some (48,true),
 .load false 1 (.t 49),0,[]⟩,⟨some 51,some (48,true),.bin .neq (.t 50) (.c (.v (.int .i64 0))),0,[]⟩,⟨some 52,some (45,false),.pick (.t 48) (.t 51) (.c (.v (.bool false))
 ),0,[]⟩,⟨some 53,none,.pick (.t 45) (.c (.v (.bool true))) (.t 52),0,[]⟩,⟨some 54,none,.mov (.t 53),0,[]⟩,⟨some 55,some (54,false),.mov (.t 11),0,[]⟩,⟨some 56,some (54,
 false),.un .not (.t 55),0,[]⟩,⟨some 57,some (54,false),.mov (.t 56),0,[]⟩,⟨some 58,some (57,true),.faddr 3 (.t 5),0,[]⟩,⟨some 59,some (57,true),.load false 1 (.t 58),0,
 []⟩,⟨some 60,some (57,true),.bin .neq (.t 59) (.c (.v (.string (ByteArray.mk #[])))),0,[]⟩,⟨some 61,some (54,false),.pick (.t 57) (.t 60) (.c (.v (.bool false))),0,[]⟩,
 ⟨some 62,none,.pick (.t 54) (.c (.v (.bool true))) (.t 61),0,[]⟩,⟨some 63,none,.mov (.t 62),0,[]⟩,⟨some 64,some (63,false),.faddr 0 (.t 5),0,[]⟩,⟨some 65,some (63,false)
 ,.load false 1 (.t 64),0,[]⟩,⟨some 66,some (63,false),.bin .eql (.t 65) (.c (.v (.int .i64 6))),0,[]⟩,⟨some 67,some (63,false),.mov (.t 3),0,[]⟩,⟨some 68,some (63,false)
 ,.bin .gtr (.t 67) (.c (.v (.int .i64 0))),0,[]⟩,⟨some 69,some (63,false),.eqb true (.t 66) (.t 68),0,[]⟩,⟨some 70,none,.pick (.t 63) (.c (.v (.bool true))) (.t 69),0,[]
 ⟩]) (.cond (.t 70) (.seq (.reg [⟨some 8,none,.mov (.c (.v (.int .i64 3))),0,[]⟩]) .ret) .skip)) (.seq (.seq (.reg [⟨some 71,none,.faddr 0 (.t 5),0,[]⟩,⟨some 72,none,
 .load false 1 (.t 71),0,[]⟩,⟨some 73,none,.bin .eql (.t 72) (.c (.v (.int .i64 5))),0,[]⟩]) (.cond (.t 73) (.seq (.seq (.reg [⟨some 74,none,.faddr 1 (.t 5),0,[]⟩,
 ⟨some 75,none,.load false 1 (.t 74),0,[]⟩,⟨some 76,none,.bin .gtr (.t 75) (.c (.v (.int .i64 32))),0,[]⟩,⟨some 77,none,.mov (.t 76),0,[]⟩,⟨some 78,some (77,false),
 .faddr 1 (.t 5),0,[]⟩,⟨some 79,some (77,false),.load false 1 (.t 78),0,[]⟩,⟨some 80,some (77,false),.mov (.t 2),0,[]⟩,⟨some 81,some (77,false),.lenS (.t 80),0,[]⟩,
 ⟨some 82,some (77,false),.bin .gtr (.t 79) (.t 81),0,[]⟩,⟨some 83,none,.pick (.t 77) (.c (.v (.bool true))) (.t 82),0,[]⟩]) (.cond (.t 83) (.seq (.reg [⟨some 8,none,
 .mov (.c (.v (.int .i64 3))),0,[]⟩]) .ret) .skip)) (.seq (.reg [⟨some 12,none,.mov (.c (.v (.int .i64 0))),0,[]⟩]) (.block 0 (.loop (.seq (.seq (.reg [⟨some 84,none,
 .mov (.t 12),0,[]⟩,⟨some 85,none,.faddr 1 (.t 5),0,[]⟩,⟨some 86,none,.load false 1 (.t 85),0,[]⟩,⟨some 87,none,.bin .lss (.t 84) (.t 86),0,[]⟩]) (.cond (.t 87)
  .skip (.exit 0))) (.seq (.block 1 (.seq (.reg [⟨some 90,none,.mov (.t 2),0,[]⟩,⟨some 91,none,.mov (.t 12),0,[]⟩,⟨some 92,none,.iaddr 4 (.t 90) (.t 91),0,[]⟩,⟨some 93,
 none,.faddr 0 (.t 92),0,[]⟩,⟨some 94,none,.load false 1 (.t 93),0,[]⟩,⟨some 95,none,.bin .neq (.t 94) (.c (.v (.int .i64 6))),0,[]⟩]) (.cond (.t 95)
  (.seq (.reg [⟨some 8,none,.mov (.c (.v (.int .i64 3))),0,[]⟩]) .ret) .skip))) (.reg [⟨some 88,none,.mov (.t 12),0,[]⟩,⟨some 89,none,.bin .add (.t 88)
  (.c (.v (.int .i64 1))),0,[]⟩,⟨some 12,none,.mov (.t 89),0,[]⟩]))))))) .skip)) (.seq (.seq (.reg [⟨some 96,none,.faddr 0 (.t 5),0,[]⟩,⟨some 97,none,
 .load false 1 (.t 96),0,[]⟩,⟨some 98,none,.bin .eql (.t 97) (.c (.v (.int .i64 4))),0,[]⟩,⟨some 99,none,.mov (.t 98),0,[]⟩,⟨some 100,some (99,true),.faddr 3 (.t 5),0,[]⟩
 ,⟨some 101,some (99,true),.load false 1 (.t 100),0,[]⟩,⟨some 102,some (99,true),.call (.c (.fn 64 [])) [.t 101],0,[]⟩,⟨some 103,some (99,true),.un .not (.t 102),0,[]⟩,
 ⟨some 104,none,.pick (.t 99) (.t 103) (.c (.v (.bool false))),0,[]⟩]) (.cond (.t 104) (.seq (.reg [⟨some 8,none,.mov (.c (.v (.int .i64 29))),0,[]⟩]) .ret) .skip))
  (.seq (.seq (.dreg [0,0,0,0,0,0,0,0,0,0,0,0,0,0,0,0,0,0,0,0,0,0,0,0,0,0,0,0,8,0,0,0,0,0,0,0,8,0,0] [⟨some 105,none,.faddr 0 (.t 5),0,[]⟩,⟨some 106,none,
 .load false 1 (.t 105),1,[0]⟩,⟨some 107,none,.bin .eql (.t 106) (.c (.v (.int .i64 4))),2,[1,0]⟩,⟨some 108,none,.mov (.t 107),3,[2,1,0]⟩,⟨some 109,some (108,true),
 .faddr 1 (.t 5),4,[3,2,1,0]⟩,⟨some 110,some (108,true),.load false 1 (.t 109),5,[4,3,2,1,0]⟩,⟨some 111,some (108,true),.bin .geq (.t 110) (.c (.v (.int .i64 32))),6,[5,
 4,3,2,1,0]⟩,⟨some 112,none,.pick (.t 108) (.t 111) (.c (.v (.bool false))),7,[6,5,4,3,2,1,0]⟩,⟨some 113,none,.mov (.t 112),8,[7,6,5,4,3,2,1,0]⟩,⟨some 114,some (113,
 false),.faddr 0 (.t 5),9,[8,7,6,5,4,3,2,1,0]⟩,⟨some 115,some (113,false),.load false 1 (.t 114),10,[9,8,7,6,5,4,3,2,1,0]⟩,⟨some 116,some (113,false),.bin .eql (.t 115)
  (.c (.v (.int .i64 6))),11,[10,9,8,7,6,5,4,3,2,1,0]⟩,⟨some 117,some (113,false),.mov (.t 116),12,[11,10,9,8,7,6,5,4,3,2,1,0]⟩,⟨some 118,some (117,true),.faddr 2 (.t 5),
 13,[12,11,10,9,8,7,6,5,4,3,2,1,0]⟩,⟨some 119,some (117,true),.load false 1 (.t 118),14,[13,12,11,10,9,8,7,6,5,4,3,2,1,0]⟩,⟨some 120,some (117,true),.bin .gtr (.t 119)
  (.c (.v (.int .i64 64))),15,[14,13,12,11,10,9,8,7,6,5,4,3,2,1,0]⟩,⟨some 121,some (113,false),.pick (.t 117) (.t 120) (.c (.v (.bool false))),16,[15,14,13,12,11,10,9,8,
 7,6,5,4,3,2,1,0]⟩,⟨some 122,none,.pick (.t 113) (.c (.v (.bool true))) (.t 121),17,[16,15,14,13,12,11,10,9,8,7,6,5,4,3,2,1,0]⟩,⟨some 123,none,.mov (.t 122),18,[17,16,15,
 14,13,12,11,10,9,8,7,6,5,4,3,2,1,0]⟩,⟨some 124,some (123,false),.faddr 0 (.t 5),19,[18,17,16,15,14,13,12,11,10,9,8,7,6,5,4,3,2,1,0]⟩,⟨some 125,some (123,false),
 .load false 1 (.t 124),20,[19,18,17,16,15,14,13,12,11,10,9,8,7,6,5,4,3,2,1,0]⟩,⟨some 126,some (123,false),.bin .eql (.t 125) (.c (.v (.int .i64 1))),21,[20,19,18,17,16,
 15,14,13,12,11,10,9,8,7,6,5,4,3,2,1,0]⟩,⟨some 127,some (123,false),.mov (.t 126),22,[21,20,19,18,17,16,15,14,13,12,11,10,9,8,7,6,5,4,3,2,1,0]⟩,⟨some 128,some (127,false)
 ,.faddr 0 (.t 5),23,[22,21,20,19,18,17,16,15,14,13,12,11,10,9,8,7,6,5,4,3,2,1,0]⟩,⟨some 129,some (127,false),.load false 1 (.t 128),24,[23,22,21,20,19,18,17,16,15,14,13,
 12,11,10,9,8,7,6,5,4,3,2,1,0]⟩,⟨some 130,some (127,false),.bin .eql (.t 129) (.c (.v (.int .i64 6))),25,[24,23,22,21,20,19,18,17,16,15,14,13,12,11,10,9,8,7,6,5,4,3,2,1,
 0]⟩,⟨some 131,some (123,false),.pick (.t 127) (.c (.v (.bool true))) (.t 130),26,[25,24,23,22,21,20,19,18,17,16,15,14,13,12,11,10,9,8,7,6,5,4,3,2,1,0]⟩,⟨some 132,
 some (123,false),.mov (.t 131),27,[26,25,24,23,22,21,20,19,18,17,16,15,14,13,12,11,10,9,8,7,6,5,4,3,2,1,0]⟩,⟨some 133,some (132,true),.faddr 1 (.t 5),28,[27,26,25,24,23,
 22,21,20,19,18,17,16,15,14,13,12,11,10,9,8,7,6,5,4,3,2,1,0]⟩,⟨some 134,some (132,true),.load false 1 (.t 133),29,[28,27,26,25,24,23,22,21,20,19,18,17,16,15,14,13,12,11,
 10,9,8,7,6,5,4,3,2,1,0]⟩,⟨some 135,some (132,true),.mov (.t 0),30,[27,26,25,24,23,22,21,20,19,18,17,16,15,14,13,12,11,10,9,8,7,6,5,4,3,2,1,0]⟩,⟨some 136,some (132,true),
 .nilck (.t 135),31,[30,27,26,25,24,23,22,21,20,19,18,17,16,15,14,13,12,11,10,9,8,7,6,5,4,3,2,1,0]⟩,⟨some 137,some (132,true),.faddr 0 (.t 136),32,[31,30,27,26,25,24,23,
 22,21,20,19,18,17,16,15,14,13,12,11,10,9,8,7,6,5,4,3,2,1,0]⟩,⟨some 138,some (132,true),.faddr 0 (.t 137),33,[32,31,30,27,26,25,24,23,22,21,20,19,18,17,16,15,14,13,12,11,
 10,9,8,7,6,5,4,3,2,1,0]⟩,⟨some 139,some (132,true),.load false 1 (.t 138),34,[33,32,31,30,27,26,25,24,23,22,21,20,19,18,17,16,15,14,13,12,11,10,9,8,7,6,5,4,3,2,1,0]⟩,
 ⟨some 140,some (132,true),.lenS (.t 139),35,[34,33,32,31,30,27,26,25,24,23,22,21,20,19,18,17,16,15,14,13,12,11,10,9,8,7,6,5,4,3,2,1,0]⟩,⟨some 141,some (132,true),
 .bin .geq (.t 134) (.t 140),36,[35,34,33,32,31,30,29,28,27,26,25,24,23,22,21,20,19,18,17,16,15,14,13,12,11,10,9,8,7,6,5,4,3,2,1,0]⟩,⟨some 142,some (123,false),
 .pick (.t 132) (.t 141) (.c (.v (.bool false))),37,[36,35,34,33,32,31,30,29,28,27,26,25,24,23,22,21,20,19,18,17,16,15,14,13,12,11,10,9,8,7,6,5,4,3,2,1,0]⟩,⟨some 143,
 none,.pick (.t 123) (.c (.v (.bool true))) (.t 142),38,[37,36,35,34,33,32,31,30,29,28,27,26,25,24,23,22,21,20,19,18,17,16,15,14,13,12,11,10,9,8,7,6,5,4,3,2,1,0]⟩,
 ⟨some 144,none,.mov (.t 143),39,[38,37,36,35,34,33,32,31,30,29,28,27,26,25,24,23,22,21,20,19,18,17,16,15,14,13,12,11,10,9,8,7,6,5,4,3,2,1,0]⟩,⟨some 145,some (144,false),
 .faddr 0 (.t 5),40,[39,38,37,36,35,34,33,32,31,30,29,28,27,26,25,24,23,22,21,20,19,18,17,16,15,14,13,12,11,10,9,8,7,6,5,4,3,2,1,0]⟩,⟨some 146,some (144,false),
 .load false 1 (.t 145),41,[40,39,38,37,36,35,34,33,32,31,30,29,28,27,26,25,24,23,22,21,20,19,18,17,16,15,14,13,12,11,10,9,8,7,6,5,4,3,2,1,0]⟩,⟨some 147,some (144,false),
 .bin .eql (.t 146) (.c (.v (.int .i64 7))),42,[41,40,39,38,37,36,35,34,33,32,31,30,29,28,27,26,25,24,23,22,21,20,19,18,17,16,15,14,13,12,11,10,9,8,7,6,5,4,3,2,1,0]⟩,
 ⟨some 148,some (144,false),.mov (.t 147),43,[42,41,40,39,38,37,36,35,34,33,32,31,30,29,28,27,26,25,24,23,22,21,20,19,18,17,16,15,14,13,12,11,10,9,8,7,6,5,4,3,2,1,0]⟩,
 ⟨some 149,some (148,true),.faddr 1 (.t 5),44,[43,42,41,40,39,38,37,36,35,34,33,32,31,30,29,28,27,26,25,24,23,22,21,20,19,18,17,16,15,14,13,12,11,10,9,8,7,6,5,4,3,2,1,0]⟩
 ,⟨some 150,some (148,true),.load false 1 (.t 149),45,[44,43,42,41,40,39,38,37,36,35,34,33,32,31,30,29,28,27,26,25,24,23,22,21,20,19,18,17,16,15,14,13,12,11,10,9,8,7,6,5,
 4,3,2,1,0]⟩,⟨some 151,some (148,true),.mov (.t 0),46,[43,42,41,40,39,38,37,36,35,34,33,32,31,30,29,28,27,26,25,24,23,22,21,20,19,18,17,16,15,14,13,12,11,10,9,8,7,6,5,4,
 3,2,1,0]⟩,⟨some 152,some (148,true),.nilck (.t 151),47,[46,43,42,41,40,39,38,37,36,35,34,33,32,31,30,29,28,27,26,25,24,23,22,21,20,19,18,17,16,15,14,13,12,11,10,9,8,7,6,
 5,4,3,2,1,0]⟩,⟨some 153,some (148,true),.faddr 0 (.t 152),48,[47,46,43,42,41,40,39,38,37,36,35,34,33,32,31,30,29,28,27,26,25,24,23,22,21,20,19,18,17,16,15,14,13,12,11,
 10,9,8,7,6,5,4,3,2,1,0]⟩,⟨some 154,some (148,true),.faddr 1 (.t 153),49,[48,47,46,43,42,41,40,39,38,37,36,35,34,33,32,31,30,29,28,27,26,25,24,23,22,21,20,19,18,17,16,15,
 14,13,12,11,10,9,8,7,6,5,4,3,2,1,0]⟩,⟨some 155,some (148,true),.load false 1 (.t 154),50,[49,48,47,46,43,42,41,40,39,38,37,36,35,34,33,32,31,30,29,28,27,26,25,24,23,22,
 21,20,19,18,17,16,15,14,13,12,11,10,9,8,7,6,5,4,3,2,1,0]⟩,⟨some 156,some (148,true),.lenS (.t 155),51,[50,49,48,47,46,43,42,41,40,39,38,37,36,35,34,33,32,31,30,29,28,27,
 26,25,24,23,22,21,20,19,18,17,16,15,14,13,12,11,10,9,8,7,6,5,4,3,2,1,0]⟩,⟨some 157,some (148,true),.bin .geq (.t 150) (.t 156),52,[51,50,49,48,47,46,45,44,43,42,41,40,
 39,38,37,36,35,34,33,32,31,30,29,28,27,26,25,24,23,22,21,20,19,18,17,16,15,14,13,12,11,10,9,8,7,6,5,4,3,2,1,0]⟩,⟨some 158,some (144,false),.pick (.t 148) (.t 157)
  (.c (.v (.bool false))),53,[52,51,50,49,48,47,46,45,44,43,42,41,40,39,38,37,36,35,34,33,32,31,30,29,28,27,26,25,24,23,22,21,20,19,18,17,16,15,14,13,12,11,10,9,8,7,6,5,
 4,3,2,1,0]⟩,⟨some 159,none,.pick (.t 144) (.c (.v (.bool true))) (.t 158),54,[53,52,51,50,49,48,47,46,45,44,43,42,41,40,39,38,37,36,35,34,33,32,31,30,29,28,27,26,25,24,
 23,22,21,20,19,18,17,16,15,14,13,12,11,10,9,8,7,6,5,4,3,2,1,0]⟩]) (.cond (.t 159) (.seq (.reg [⟨some 8,none,.mov (.c (.v (.int .i64 2))),0,[]⟩]) .ret) .skip))
  (.seq (.reg [⟨some 8,none,.mov (.c (.v (.int .i64 0))),0,[]⟩]) .ret)))))))⟩
theorem pf113_is : pfs 113 = some pf113 := by kernel_rfl
def pf114 : PF := ⟨27,[.t 8],.seq (.reg [⟨some 8,none,.mov (.c (.v (.int .i64 0))),0,[]⟩]) (.seq (.seq (.reg [⟨some 9,none,.mov (.t 0),0,[]⟩,⟨some 10,none,.nilck (.t 9),0,[]⟩,⟨some 11,
 none,.faddr 3 (.t 10),0,[]⟩,⟨some 12,none,.load false 1 (.t 11),0,[]⟩,⟨some 13,none,.mov (.t 1),0,[]⟩,⟨some 14,none,.iaddr 1 (.t 12) (.t 13),0,[]⟩,⟨some 15,none,
 .load false 1 (.t 14),0,[]⟩,⟨some 16,none,.bin .geq (.t 15) (.c (.v (.int .i64 0))),0,[]⟩]) (.cond (.t 16) (.seq (.reg [⟨some 8,none,.mov (.c (.v (.int .i64 8))),0,[]⟩])
  .ret) .skip)) (.seq (.seq (.reg [⟨some 17,none,.mov (.t 1),0,[]⟩,⟨some 18,none,.mov (.t 3),0,[]⟩,⟨some 19,none,.bin .leq (.t 17) (.t 18),0,[]⟩]) (.cond (.t 19)
  (.seq (.reg [⟨some 8,none,.mov (.c (.v (.int .i64 1))),0,[]⟩]) .ret) .skip)) (.seq (.reg [⟨some 20,none,.mov (.t 0),0,[]⟩,⟨some 21,none,.nilck (.t 20),0,[]⟩,⟨some 22,
 none,.faddr 3 (.t 21),0,[]⟩,⟨some 23,none,.load false 1 (.t 22),0,[]⟩,⟨some 24,none,.mov (.t 1),0,[]⟩,⟨some 25,none,.mov (.t 2),0,[]⟩,⟨some 26,none,.iaddr 1 (.t 23)
  (.t 24),0,[]⟩,⟨none,none,.store 1 (.t 26) (.t 25),0,[]⟩]) (.seq (.reg [⟨some 8,none,.mov (.c (.v (.int .i64 0))),0,[]⟩]) .ret))))⟩
theorem pf114_is : pfs 114 = some pf114 := by kernel_rfl
def pf115 : PF := ⟨25,[.t 2,.t 3],.seq (.reg [⟨some 1,none,.box (.t 0),0,[]⟩,⟨some 2,none,.mov (.c (.v (.int .i64 0))),0,[]⟩,⟨some 3,none,.mov (.c (.v (.int .i64 0))),0,[]⟩])
  (.seq (.seq (.reg [⟨some 4,none,.faddr 0 (.t 1),0,[]⟩,⟨some 5,none,.load false 1 (.t 4),0,[]⟩]) (.block 0 (.seq (.seq (.reg [⟨some 7,none,.bin .eql (.t 5)
  (.c (.v (.int .i64 0))),0,[]⟩,⟨some 6,none,.mov (.t 7),0,[]⟩]) (.cond (.t 6) .skip (.seq (.reg [⟨some 8,none,.bin .eql (.t 5) (.c (.v (.int .i64 1))),0,[]⟩,⟨some 6,
 none,.mov (.t 8),0,[]⟩]) (.cond (.t 6) .skip (.seq (.reg [⟨some 9,none,.bin .eql (.t 5) (.c (.v (.int .i64 7))),0,[]⟩,⟨some 6,none,.mov (.t 9),0,[]⟩]) (.cond (.t 6)
  .skip (.seq (.reg [⟨some 10,none,.bin .eql (.t 5) (.c (.v (.int .i64 8))),0,[]⟩,⟨some 6,none,.mov (.t 10),0,[]⟩]) (.cond (.t 6) .skip (.reg [⟨some 11,none,
 .bin .eql (.t 5) (.c (.v (.int .i64 14))),0,[]⟩,⟨some 6,none,.mov (.t 11),0,[]⟩]))))))))) (.cond (.t 6) (.seq (.reg [⟨some 2,none,.mov (.c (.v (.int .i64 0))),0,[]⟩,
 ⟨some 3,none,.mov (.c (.v (.int .i64 1))),0,[]⟩]) .ret) (.seq (.seq (.reg [⟨some 13,none,.bin .eql (.t 5) (.c (.v (.int .i64 2))),0,[]⟩,⟨some 12,none,.mov (.t 13),0,[]⟩]
 ) (.cond (.t 12) .skip (.reg [⟨some 14,none,.bin .eql (.t 5) (.c (.v (.int .i64 11))),0,[]⟩,⟨some 12,none,.mov (.t 14),0,[]⟩]))) (.cond (.t 12) (.seq (.reg [⟨some 2,
 none,.mov (.c (.v (.int .i64 2))),0,[]⟩,⟨some 3,none,.mov (.c (.v (.int .i64 1))),0,[]⟩]) .ret) (.seq (.reg [⟨some 16,none,.bin .eql (.t 5) (.c (.v (.int .i64 4))),0,[]⟩
 ,⟨some 15,none,.mov (.t 16),0,[]⟩]) (.cond (.t 15) (.seq (.reg [⟨some 17,none,.faddr 2 (.t 1),0,[]⟩,⟨some 18,none,.load false 1 (.t 17),0,[]⟩,⟨some 2,none,.mov (.t 18),
 0,[]⟩,⟨some 3,none,.mov (.c (.v (.int .i64 1))),0,[]⟩]) .ret) (.seq (.seq (.reg [⟨some 20,none,.bin .eql (.t 5) (.c (.v (.int .i64 5))),0,[]⟩,⟨some 19,none,.mov (.t 20),
 0,[]⟩]) (.cond (.t 19) .skip (.seq (.reg [⟨some 21,none,.bin .eql (.t 5) (.c (.v (.int .i64 12))),0,[]⟩,⟨some 19,none,.mov (.t 21),0,[]⟩]) (.cond (.t 19)
  .skip (.reg [⟨some 22,none,.bin .eql (.t 5) (.c (.v (.int .i64 13))),0,[]⟩,⟨some 19,none,.mov (.t 22),0,[]⟩]))))) (.cond (.t 19) (.seq (.reg [⟨some 2,none,
 .mov (.c (.v (.int .i64 1))),0,[]⟩,⟨some 3,none,.mov (.c (.v (.int .i64 1))),0,[]⟩]) .ret) (.seq (.reg [⟨some 24,none,.bin .eql (.t 5) (.c (.v (.int .i64 9))),0,[]⟩,
 ⟨some 23,none,.mov (.t 24),0,[]⟩]) (.cond (.t 23) (.seq (.reg [⟨some 2,none,.mov (.c (.v (.int .i64 1))),0,[]⟩,⟨some 3,none,.mov (.c (.v (.int .i64 0))),0,[]⟩]) .ret)
  .skip)))))))))))) (.seq (.reg [⟨some 2,none,.mov (.c (.v (.int .i64 0))),0,[]⟩,⟨some 3,none,.mov (.c (.v (.int .i64 0))),0,[]⟩]) .ret))⟩
theorem pf115_is : pfs 115 = some pf115 := by kernel_rfl
def pf131 : PF := ⟨21,[.t 2],.seq (.reg [⟨some 2,none,.mov (.c (.v (.bool false))),0,[]⟩]) (.seq (.reg [⟨some 3,none,.mov (.t 0),0,[]⟩,⟨some 4,none,.bin .geq (.t 3) (.c (.v (.int .u8 97))
 ),0,[]⟩,⟨some 5,none,.mov (.t 4),0,[]⟩,⟨some 6,some (5,true),.mov (.t 0),0,[]⟩,⟨some 7,some (5,true),.bin .leq (.t 6) (.c (.v (.int .u8 122))),0,[]⟩,⟨some 8,none,
 .pick (.t 5) (.t 7) (.c (.v (.bool false))),0,[]⟩,⟨some 9,none,.mov (.t 8),0,[]⟩,⟨some 10,some (9,false),.mov (.t 0),0,[]⟩,⟨some 11,some (9,false),.bin .geq (.t 10)
  (.c (.v (.int .u8 65))),0,[]⟩,⟨some 12,some (9,false),.mov (.t 11),0,[]⟩,⟨some 13,some (12,true),.mov (.t 0),0,[]⟩,⟨some 14,some (12,true),.bin .leq (.t 13)
  (.c (.v (.int .u8 90))),0,[]⟩,⟨some 15,some (9,false),.pick (.t 12) (.t 14) (.c (.v (.bool false))),0,[]⟩,⟨some 16,none,.pick (.t 9) (.c (.v (.bool true))) (.t 15),0,[]
 ⟩,⟨some 17,none,.mov (.t 16),0,[]⟩,⟨some 18,some (17,false),.mov (.t 0),0,[]⟩,⟨some 19,some (17,false),.bin .eql (.t 18) (.c (.v (.int .u8 95))),0,[]⟩,⟨some 20,none,
 .pick (.t 17) (.c (.v (.bool true))) (.t 19),0,[]⟩,⟨some 2,none,.mov (.t 20),0,[]⟩]) .ret)⟩
theorem pf131_is : pfs 131 = some pf131 := by kernel_rfl
def pf132 : PF := ⟨9,[.t 4],.seq (.reg [⟨some 4,none,.mov (.c (.v (.bool false))),0,[]⟩]) (.seq (.reg [⟨some 5,none,.mov (.t 0),0,[]⟩,⟨some 6,none,.mov (.t 1),0,[]⟩,⟨some 7,none,
 .call (.c (.fn 161 [])) [.t 5,.t 6],0,[]⟩,⟨some 8,none,.bin .geq (.t 7) (.c (.v (.int .i64 0))),0,[]⟩,⟨some 4,none,.mov (.t 8),0,[]⟩]) .ret)⟩
theorem pf132_is : pfs 132 = some pf132 := by kernel_rfl
def pf133 : PF := ⟨13,[.t 3],.seq (.reg [⟨some 3,none,.mov (.c (.v (.bool false))),0,[]⟩]) (.seq (.reg [⟨some 4,none,.mov (.t 0),0,[]⟩,⟨some 5,none,.bin .lss (.t 4) (.c (.v (.int .i64 1))
 ),0,[]⟩,⟨some 6,none,.mov (.t 5),0,[]⟩,⟨some 7,some (6,false),.mov (.t 0),0,[]⟩,⟨some 8,some (6,false),.faddr 0 (.t 1),0,[]⟩,⟨some 9,some (6,false),.load false 1 (.t 8),
 0,[]⟩,⟨some 10,some (6,false),.lenS (.t 9),0,[]⟩,⟨some 11,some (6,false),.bin .geq (.t 7) (.t 10),0,[]⟩,⟨some 12,none,.pick (.t 6) (.c (.v (.bool true))) (.t 11),0,[]⟩,
 ⟨some 3,none,.mov (.t 12),0,[]⟩]) .ret)⟩
theorem pf133_is : pfs 133 = some pf133 := by kernel_rfl
def pf134 : PF := ⟨18,[.t 2],.seq (.reg [⟨some 2,none,.mov (.c (.v (.bool false))),0,[]⟩]) (.seq (.seq (.reg [⟨some 5,none,.mov (.t 0),0,[]⟩,⟨some 6,none,.lenS (.t 5),0,[]⟩,⟨some 7,none,
 .mov (.c (.v (.int .i64 0))),0,[]⟩]) (.block 0 (.loop (.seq (.reg [⟨some 8,none,.bin .lss (.t 7) (.t 6),0,[]⟩]) (.seq (.cond (.t 8) .skip (.exit 0))
  (.seq (.block 1 (.seq (.reg [⟨some 9,none,.mov (.t 7),0,[]⟩,⟨some 10,none,.iaddr 1 (.t 5) (.t 7),0,[]⟩,⟨some 11,none,.load false 1 (.t 10),0,[]⟩,⟨some 3,none,
 .mov (.t 9),0,[]⟩,⟨some 4,none,.mov (.t 11),0,[]⟩]) (.seq (.reg [⟨some 12,none,.mov (.t 0),0,[]⟩,⟨some 13,none,.mov (.t 3),0,[]⟩,⟨some 14,none,.slice 1 (.t 12)
  none (some (.t 13)) none,0,[]⟩,⟨some 15,none,.mov (.t 4),0,[]⟩,⟨some 16,none,.call (.c (.fn 162 [])) [.t 14,.t 15],0,[]⟩]) (.cond (.t 16) (.seq (.reg [⟨some 2,none,
 .mov (.c (.v (.bool true))),0,[]⟩]) .ret) .skip)))) (.reg [⟨some 17,none,.bin .add (.t 7) (.c (.v (.int .i64 1))),0,[]⟩,⟨some 7,none,.mov (.t 17),0,[]⟩])))))))
  (.seq (.reg [⟨some 2,none,.mov (.c (.v (.bool false))),0,[]⟩]) .ret))⟩
theorem pf134_is : pfs 134 = some pf134 := by kernel_rfl
def pf135 : PF := ⟨9,[.t 4],.seq (.reg [⟨some 4,none,.mov (.c (.v (.bool false))),0,[]⟩]) (.seq (.reg [⟨some 5,none,.mov (.t 0),0,[]⟩,⟨some 6,none,.mov (.t 1),0,[]⟩,⟨some 7,none,
 .call (.c (.fn 163 [])) [.t 5,.t 6],0,[]⟩,⟨some 8,none,.bin .geq (.t 7) (.c (.v (.int .i64 0))),0,[]⟩,⟨some 4,none,.mov (.t 8),0,[]⟩]) .ret)⟩
theorem pf135_is : pfs 135 = some pf135 := by kernel_rfl
def pf136 : PF := ⟨6,[.t 2],.seq (.reg [⟨some 2,none,.mov (.c (.v (.bool false))),0,[]⟩]) (.seq (.reg [⟨some 3,none,.mov (.t 0),0,[]⟩,⟨some 4,none,.call (.c (.fn 86 [])) [.t 3],0,[]⟩,
 ⟨some 5,none,.un .not (.t 4),0,[]⟩,⟨some 2,none,.mov (.t 5),0,[]⟩]) .ret)⟩
theorem pf136_is : pfs 136 = some pf136 := by kernel_rfl
def pf137 : PF := ⟨18,[.t 2],.seq (.reg [⟨some 2,none,.mov (.c (.v (.bool false))),0,[]⟩]) (.seq (.seq (.reg [⟨some 5,none,.mov (.t 0),0,[]⟩,⟨some 6,none,.lenS (.t 5),0,[]⟩,⟨some 7,none,
 .mov (.c (.v (.int .i64 0))),0,[]⟩]) (.block 0 (.loop (.seq (.reg [⟨some 8,none,.bin .lss (.t 7) (.t 6),0,[]⟩]) (.seq (.cond (.t 8) .skip (.exit 0))
  (.seq (.block 1 (.seq (.reg [⟨some 9,none,.mov (.t 7),0,[]⟩,⟨some 10,none,.iaddr 1 (.t 5) (.t 7),0,[]⟩,⟨some 11,none,.load false 1 (.t 10),0,[]⟩,⟨some 3,none,
 .mov (.t 9),0,[]⟩,⟨some 4,none,.mov (.t 11),0,[]⟩]) (.seq (.reg [⟨some 12,none,.mov (.t 0),0,[]⟩,⟨some 13,none,.mov (.t 3),0,[]⟩,⟨some 14,none,.slice 1 (.t 12)
  none (some (.t 13)) none,0,[]⟩,⟨some 15,none,.mov (.t 4),0,[]⟩,⟨some 16,none,.call (.c (.fn 164 [])) [.t 14,.t 15],0,[]⟩]) (.cond (.t 16) (.seq (.reg [⟨some 2,none,
 .mov (.c (.v (.bool true))),0,[]⟩]) .ret) .skip)))) (.reg [⟨some 17,none,.bin .add (.t 7) (.c (.v (.int .i64 1))),0,[]⟩,⟨some 7,none,.mov (.t 17),0,[]⟩])))))))
  (.seq (.reg [⟨some 2,none,.mov (.c (.v (.bool false))),0,[]⟩]) .ret))⟩
theorem pf137_is : pfs 137 = some pf137 := by kernel_rfl
def pf139 : PF := ⟨60,[.t 8],.seq (.reg [⟨some 5,none,.box (.t 1),0,[]⟩,⟨some 8,none,.mov (.c (.v (.int .i64 0))),0,[]⟩]) (.seq (.seq (.reg [⟨some 10,none,.load true 4 (.t 5),0,[]⟩,
 ⟨some 11,none,.mov (.t 2),0,[]⟩,⟨some 12,none,.mov (.t 3),0,[]⟩,⟨some 13,none,.call (.c (.fn 167 [])) [.t 10,.t 11,.t 12],0,[]⟩,⟨some 14,none,.un .not (.t 13),0,[]⟩])
  (.cond (.t 14) (.seq (.reg [⟨some 8,none,.mov (.c (.v (.int .i64 3))),0,[]⟩]) .ret) .skip)) (.seq (.reg [⟨some 9,none,.mov (.c (.v (.bool false))),0,[]⟩])
  (.seq (.seq (.reg [⟨some 15,none,.faddr 0 (.t 5),0,[]⟩,⟨some 16,none,.load false 1 (.t 15),0,[]⟩]) (.block 0 (.seq (.reg [⟨some 18,none,.bin .eql (.t 16)
  (.c (.v (.int .i64 4))),0,[]⟩,⟨some 17,none,.mov (.t 18),0,[]⟩]) (.cond (.t 17) (.seq (.seq (.reg [⟨some 19,none,.faddr 3 (.t 5),0,[]⟩,⟨some 20,none,
 .load false 1 (.t 19),0,[]⟩,⟨some 21,none,.call (.c (.fn 86 [])) [.t 20],0,[]⟩,⟨some 22,none,.un .not (.t 21),0,[]⟩]) (.cond (.t 22) (.seq (.reg [⟨some 8,none,
 .mov (.c (.v (.int .i64 29))),0,[]⟩]) .ret) .skip)) (.reg [⟨some 23,none,.faddr 1 (.t 5),0,[]⟩,⟨some 24,none,.load false 1 (.t 23),0,[]⟩,⟨some 25,none,.bin .geq (.t 24)
  (.c (.v (.int .i64 32))),0,[]⟩,⟨some 9,none,.mov (.t 25),0,[]⟩])) (.seq (.seq (.reg [⟨some 27,none,.bin .eql (.t 16) (.c (.v (.int .i64 1))),0,[]⟩,⟨some 26,none,
 .mov (.t 27),0,[]⟩]) (.cond (.t 26) .skip (.reg [⟨some 28,none,.bin .eql (.t 16) (.c (.v (.int .i64 6))),0,[]⟩,⟨some 26,none,.mov (.t 28),0,[]⟩]))) (.cond (.t 26)
  (.dreg [8,0,0,0,0,0,0,0,0,0,0,0] [⟨some 29,none,.faddr 1 (.t 5),0,[]⟩,⟨some 30,none,.load false 1 (.t 29),1,[0]⟩,⟨some 31,none,.mov (.t 0),2,[]⟩,⟨some 32,none,
 .nilck (.t 31),3,[2]⟩,⟨some 33,none,.faddr 0 (.t 32),4,[3,2]⟩,⟨some 34,none,.faddr 0 (.t 33),5,[4,3,2]⟩,⟨some 35,none,.load false 1 (.t 34),6,[5,4,3,2]⟩,⟨some 36,none,
 .lenS (.t 35),7,[6,5,4,3,2]⟩,⟨some 37,none,.bin .geq (.t 30) (.t 36),8,[7,6,5,4,3,2,1,0]⟩,⟨some 38,none,.mov (.t 37),9,[8,7,6,5,4,3,2,1,0]⟩,⟨some 39,some (38,false),
 .faddr 0 (.t 5),10,[9,8,7,6,5,4,3,2,1,0]⟩,⟨some 40,some (38,false),.load false 1 (.t 39),11,[10,9,8,7,6,5,4,3,2,1,0]⟩,⟨some 41,some (38,false),.bin .eql (.t 40)
  (.c (.v (.int .i64 6))),12,[11,10,9,8,7,6,5,4,3,2,1,0]⟩,⟨some 42,some (38,false),.mov (.t 41),13,[12,11,10,9,8,7,6,5,4,3,2,1,0]⟩,⟨some 43,some (42,true),.faddr 2 (.t 5)
 ,14,[13,12,11,10,9,8,7,6,5,4,3,2,1,0]⟩,⟨some 44,some (42,true),.load false 1 (.t 43),15,[14,13,12,11,10,9,8,7,6,5,4,3,2,1,0]⟩,⟨some 45,some (42,true),.bin .gtr (.t 44)
  (.c (.v (.int .i64 64))),16,[15,14,13,12,11,10,9,8,7,6,5,4,3,2,1,0]⟩,⟨some 46,some (38,false),.pick (.t 42) (.t 45) (.c (.v (.bool false))),17,[16,15,14,13,12,11,10,9,
 8,7,6,5,4,3,2,1,0]⟩,⟨some 47,none,.pick (.t 38) (.c (.v (.bool true))) (.t 46),18,[17,16,15,14,13,12,11,10,9,8,7,6,5,4,3,2,1,0]⟩,⟨some 9,none,.mov (.t 47),19,[18,17,16,
 15,14,13,12,11,10,9,8,7,6,5,4,3,2,1,0]⟩]) (.seq (.reg [⟨some 49,none,.bin .eql (.t 16) (.c (.v (.int .i64 7))),0,[]⟩,⟨some 48,none,.mov (.t 49),0,[]⟩]) (.cond (.t 48)
  (.dreg [8,0] [⟨some 50,none,.faddr 1 (.t 5),0,[]⟩,⟨some 51,none,.load false 1 (.t 50),1,[0]⟩,⟨some 52,none,.mov (.t 0),2,[]⟩,⟨some 53,none,.nilck (.t 52),3,[2]⟩,
 ⟨some 54,none,.faddr 0 (.t 53),4,[3,2]⟩,⟨some 55,none,.faddr 1 (.t 54),5,[4,3,2]⟩,⟨some 56,none,.load false 1 (.t 55),6,[5,4,3,2]⟩,⟨some 57,none,.lenS (.t 56),7,[6,5,4,
 3,2]⟩,⟨some 58,none,.bin .geq (.t 51) (.t 57),8,[7,6,5,4,3,2,1,0]⟩,⟨some 9,none,.mov (.t 58),9,[8,7,6,5,4,3,2,1,0]⟩]) .skip)))))))) (.seq (.seq (.reg [⟨some 59,none,
 .mov (.t 9),0,[]⟩]) (.cond (.t 59) (.seq (.reg [⟨some 8,none,.mov (.c (.v (.int .i64 2))),0,[]⟩]) .ret) .skip)) (.seq (.reg [⟨some 8,none,.mov (.c (.v (.int .i64 0))),0,
 []⟩]) .ret)))))⟩
theorem pf139_is : pfs 139 = some pf139 := by kernel_rfl
def pf140 : PF := ⟨34,[.t 6],.seq (.reg [⟨some 5,none,.box (.t 2),0,[]⟩,⟨some 6,none,.mov (.c (.v (.int .i64 0))),0,[]⟩]) (.seq (.seq (.reg [⟨some 7,none,.faddr 0 (.t 5),0,[]⟩,⟨some 8,
 none,.load false 1 (.t 7),0,[]⟩]) (.block 0 (.seq (.reg [⟨some 10,none,.bin .eql (.t 8) (.c (.v (.int .i64 1))),0,[]⟩,⟨some 9,none,.mov (.t 10),0,[]⟩]) (.cond (.t 9)
  (.seq (.reg [⟨some 11,none,.mov (.t 0),0,[]⟩,⟨some 12,none,.mov (.t 1),0,[]⟩,⟨some 13,none,.faddr 1 (.t 5),0,[]⟩,⟨some 14,none,.load false 1 (.t 13),0,[]⟩,⟨some 15,
 none,.call (.c (.fn 168 [])) [.t 11,.t 12,.t 14,.c (.v (.int .i64 1))],0,[]⟩,⟨some 6,none,.mov (.t 15),0,[]⟩]) .ret) (.seq (.reg [⟨some 17,none,.bin .eql (.t 8)
  (.c (.v (.int .i64 6))),0,[]⟩,⟨some 16,none,.mov (.t 17),0,[]⟩]) (.cond (.t 16) (.seq (.reg [⟨some 18,none,.mov (.t 0),0,[]⟩,⟨some 19,none,.mov (.t 1),0,[]⟩,⟨some 20,
 none,.faddr 1 (.t 5),0,[]⟩,⟨some 21,none,.load false 1 (.t 20),0,[]⟩,⟨some 22,none,.faddr 2 (.t 5),0,[]⟩,⟨some 23,none,.load false 1 (.t 22),0,[]⟩,⟨some 24,none,
 .call (.c (.fn 168 [])) [.t 18,.t 19,.t 21,.t 23],0,[]⟩,⟨some 6,none,.mov (.t 24),0,[]⟩]) .ret) (.seq (.reg [⟨some 26,none,.bin .eql (.t 8) (.c (.v (.int .i64 0))),0,[]⟩
 ,⟨some 25,none,.mov (.t 26),0,[]⟩]) (.cond (.t 25) (.seq (.dreg [6] [⟨some 27,none,.faddr 1 (.t 5),0,[]⟩,⟨some 28,none,.load false 1 (.t 27),1,[0]⟩,⟨some 29,none,
 .mov (.t 1),2,[]⟩,⟨some 30,none,.nilck (.t 29),3,[2]⟩,⟨some 31,none,.faddr 1 (.t 30),4,[3,2]⟩,⟨some 32,none,.load false 1 (.t 31),5,[4,3,2]⟩,⟨some 33,none,
 .bin .geq (.t 28) (.t 32),6,[5,4,3,2,1,0]⟩]) (.cond (.t 33) (.seq (.reg [⟨some 6,none,.mov (.c (.v (.int .i64 24))),0,[]⟩]) .ret) .skip)) .skip))))))))
  (.seq (.reg [⟨some 6,none,.mov (.c (.v (.int .i64 0))),0,[]⟩]) .ret))⟩
theorem pf140_is : pfs 140 = some pf140 := by kernel_rfl
def pf141 : PF := ⟨117,[.t 6],.seq (.reg [⟨some 4,none,.box (.t 1),0,[]⟩,⟨some 6,none,.mov (.c (.v (.int .i64 0))),0,[]⟩]) (.seq (.reg [⟨some 9,none,.mov (.t 0),0,[]⟩,⟨some 10,none,
 .mov (.t 0),0,[]⟩,⟨some 11,none,.nilck (.t 10),0,[]⟩,⟨some 12,none,.faddr 4 (.t 11),0,[]⟩,⟨some 13,none,.load false 1 (.t 12),0,[]⟩,⟨some 14,none,.bin .sub (.t 13)
  (.c (.v (.int .i64 1))),0,[]⟩,⟨some 15,none,.max (.c (.v (.int .i64 0))) (.t 14),0,[]⟩,⟨some 16,none,.nilck (.t 9),0,[]⟩,⟨some 17,none,.faddr 4 (.t 16),0,[]⟩,⟨none,
 none,.store 1 (.t 17) (.t 15),0,[]⟩]) (.seq (.seq (.reg [⟨some 18,none,.faddr 0 (.t 4),0,[]⟩,⟨some 19,none,.load false 1 (.t 18),0,[]⟩,⟨some 20,none,.bin .eql (.t 19)
  (.c (.v (.int .i64 5))),0,[]⟩]) (.cond (.t 20) (.reg [⟨some 21,none,.mov (.t 0),0,[]⟩,⟨some 22,none,.faddr 1 (.t 4),0,[]⟩,⟨some 23,none,.load false 1 (.t 22),0,[]⟩,
 ⟨some 24,none,.nilck (.t 21),0,[]⟩,⟨some 25,none,.faddr 4 (.t 24),0,[]⟩,⟨none,none,.store 1 (.t 25) (.t 23),0,[]⟩]) .skip)) (.seq (.reg [⟨some 27,none,
 .load true 4 (.t 4),0,[]⟩,⟨some 28,none,.call (.c (.fn 169 [])) [.t 27],0,[]⟩,⟨some 26,none,.mov (.t 28),0,[]⟩,⟨some 29,none,.ext (.t 26) 0,0,[]⟩,⟨some 30,none,
 .ext (.t 26) 1,0,[]⟩,⟨some 7,none,.mov (.t 29),0,[]⟩,⟨some 8,none,.mov (.t 30),0,[]⟩]) (.seq (.seq (.reg [⟨some 31,none,.mov (.t 0),0,[]⟩,⟨some 32,none,.nilck (.t 31),0,
 []⟩,⟨some 33,none,.faddr 2 (.t 32),0,[]⟩,⟨some 34,none,.load false 1 (.t 33),0,[]⟩,⟨some 35,none,.mov (.t 7),0,[]⟩,⟨some 36,none,.bin .lss (.t 34) (.t 35),0,[]⟩,
 ⟨some 37,none,.mov (.t 36),0,[]⟩,⟨some 38,some (37,false),.faddr 0 (.t 4),0,[]⟩,⟨some 39,some (37,false),.load false 1 (.t 38),0,[]⟩,⟨some 40,some (37,false),
 .bin .eql (.t 39) (.c (.v (.int .i64 10))),0,[]⟩,⟨some 41,some (37,false),.mov (.t 40),0,[]⟩,⟨some 42,some (41,true),.mov (.t 0),0,[]⟩,⟨some 43,some (41,true),
 .nilck (.t 42),0,[]⟩,⟨some 44,some (41,true),.faddr 3 (.t 43),0,[]⟩,⟨some 45,some (41,true),.load false 1 (.t 44),0,[]⟩,⟨some 46,some (41,true),.bin .eql (.t 45)
  (.c (.v (.int .i64 0))),0,[]⟩,⟨some 47,some (37,false),.pick (.t 41) (.t 46) (.c (.v (.bool false))),0,[]⟩,⟨some 48,none,.pick (.t 37) (.c (.v (.bool true))) (.t 47),0,
 []⟩]) (.cond (.t 48) (.seq (.reg [⟨some 6,none,.mov (.c (.v (.int .i64 27))),0,[]⟩]) .ret) .skip)) (.seq (.reg [⟨some 49,none,.mov (.t 0),0,[]⟩,⟨some 50,none,
 .nilck (.t 49),0,[]⟩,⟨some 51,none,.faddr 2 (.t 50),0,[]⟩,⟨some 52,none,.load false 1 (.t 51),0,[]⟩,⟨some 53,none,.mov (.t 8),0,[]⟩,⟨some 54,none,.mov (.t 7),0,[]⟩,
 ⟨some 55,none,.bin .sub (.t 53) (.t 54),0,[]⟩,⟨some 56,none,.bin .add (.t 52) (.t 55),0,[]⟩,⟨some 57,none,.nilck (.t 49),0,[]⟩,⟨some 58,none,.faddr 2 (.t 57),0,[]⟩,
 ⟨none,none,.store 1 (.t 58) (.t 56),0,[]⟩]) (.seq (.seq (.reg [⟨some 59,none,.faddr 0 (.t 4),0,[]⟩,⟨some 60,none,.load false 1 (.t 59),0,[]⟩])
  (.block 0 (.seq (.reg [⟨some 62,none,.bin .eql (.t 60) (.c (.v (.int .i64 9))),0,[]⟩,⟨some 61,none,.mov (.t 62),0,[]⟩]) (.cond (.t 61) (.dreg [15,0,0] [⟨some 63,none,
 .mov (.t 0),0,[]⟩,⟨some 64,none,.mov (.t 0),1,[]⟩,⟨some 65,none,.mov (.t 0),2,[]⟩,⟨some 66,none,.nilck (.t 65),3,[2]⟩,⟨some 67,none,.faddr 1 (.t 66),4,[3,2]⟩,⟨some 68,
 none,.load false 1 (.t 67),5,[4,3,2]⟩,⟨some 69,none,.bin .add (.t 68) (.c (.v (.int .i64 1))),6,[5,4,3,2]⟩,⟨some 70,none,.mov (.t 0),7,[]⟩,⟨some 71,none,.nilck (.t 70),
 8,[7]⟩,⟨some 72,none,.faddr 3 (.t 71),9,[8,7]⟩,⟨some 73,none,.load false 1 (.t 72),10,[9,8,7]⟩,⟨some 74,none,.bin .add (.t 73) (.c (.v (.int .i64 1))),11,[10,9,8,7]⟩,
 ⟨some 75,none,.nilck (.t 63),12,[10,9,8,7,6,5,4,3,2,0]⟩,⟨some 76,none,.faddr 1 (.t 75),13,[12,10,9,8,7,6,5,4,3,2,0]⟩,⟨none,none,.store 1 (.t 76) (.t 69),14,[13,12,10,9,
 8,7,6,5,4,3,2,0]⟩,⟨some 77,none,.nilck (.t 64),15,[14,13,12,11,10,9,8,7,6,5,4,3,2,0,1]⟩,⟨some 78,none,.faddr 3 (.t 77),16,[15,14,13,12,11,10,9,8,7,6,5,4,3,2,0,1]⟩,⟨none,
 none,.store 1 (.t 78) (.t 74),17,[16,15,14,13,12,11,10,9,8,7,6,5,4,3,2,0,1]⟩]) (.seq (.reg [⟨some 80,none,.bin .eql (.t 60) (.c (.v (.int .i64 10))),0,[]⟩,⟨some 79,none,
 .mov (.t 80),0,[]⟩]) (.cond (.t 79) (.dreg [15,0,0] [⟨some 81,none,.mov (.t 0),0,[]⟩,⟨some 82,none,.mov (.t 0),1,[]⟩,⟨some 83,none,.mov (.t 0),2,[]⟩,⟨some 84,none,
 .nilck (.t 83),3,[2]⟩,⟨some 85,none,.faddr 1 (.t 84),4,[3,2]⟩,⟨some 86,none,.load false 1 (.t 85),5,[4,3,2]⟩,⟨some 87,none,.bin .sub (.t 86) (.c (.v (.int .i64 1))),6,
 [5,4,3,2]⟩,⟨some 88,none,.mov (.t 0),7,[]⟩,⟨some 89,none,.nilck (.t 88),8,[7]⟩,⟨some 90,none,.faddr 3 (.t 89),9,[8,7]⟩,⟨some 91,none,.load false 1 (.t 90),10,[9,8,7]⟩,
 ⟨some 92,none,.bin .sub (.t 91) (.c (.v (.int .i64 1))),11,[10,9,8,7]⟩,⟨some 93,none,.nilck (.t 81),12,[10,9,8,7,6,5,4,3,2,0]⟩,⟨some 94,none,.faddr 1 (.t 93),13,[12,10,
 9,8,7,6,5,4,3,2,0]⟩,⟨none,none,.store 1 (.t 94) (.t 87),14,[13,12,10,9,8,7,6,5,4,3,2,0]⟩,⟨some 95,none,.nilck (.t 82),15,[14,13,12,11,10,9,8,7,6,5,4,3,2,0,1]⟩,⟨some 96,
 none,.faddr 3 (.t 95),16,[15,14,13,12,11,10,9,8,7,6,5,4,3,2,0,1]⟩,⟨none,none,.store 1 (.t 96) (.t 92),17,[16,15,14,13,12,11,10,9,8,7,6,5,4,3,2,0,1]⟩]) .skip))))))
  (.seq (.seq (.reg [⟨some 97,none,.faddr 0 (.t 4),0,[]⟩,⟨some 98,none,.load false 1 (.t 97),0,[]⟩,⟨some 99,none,.bin .eql (.t 98) (.c (.v (.int .i64 3))),0,[]⟩,
 ⟨some 100,none,.mov (.t 2),0,[]⟩,⟨some 101,none,.eqb true (.t 99) (.t 100),0,[]⟩]) (.cond (.t 101) (.seq (.reg [⟨some 6,none,.mov (.c (.v (.int .i64 3))),0,[]⟩]) .ret)
  .skip)) (.seq (.seq (.reg [⟨some 102,none,.mov (.t 2),0,[]⟩,⟨some 103,none,.mov (.t 102),0,[]⟩,⟨some 104,some (103,true),.mov (.t 0),0,[]⟩,⟨some 105,some (103,true),
 .nilck (.t 104),0,[]⟩,⟨some 106,some (103,true),.faddr 2 (.t 105),0,[]⟩,⟨some 107,some (103,true),.load false 1 (.t 106),0,[]⟩,⟨some 108,some (103,true),
 .bin .neq (.t 107) (.c (.v (.int .i64 1))),0,[]⟩,⟨some 109,some (103,true),.mov (.t 108),0,[]⟩,⟨some 110,some (109,false),.mov (.t 0),0,[]⟩,⟨some 111,some (109,false),
 .nilck (.t 110),0,[]⟩,⟨some 112,some (109,false),.faddr 3 (.t 111),0,[]⟩,⟨some 113,some (109,false),.load false 1 (.t 112),0,[]⟩,⟨some 114,some (109,false),
 .bin .neq (.t 113) (.c (.v (.int .i64 0))),0,[]⟩,⟨some 115,some (103,true),.pick (.t 109) (.c (.v (.bool true))) (.t 114),0,[]⟩,⟨some 116,none,.pick (.t 103) (.t 115)
  (.c (.v (.bool false))),0,[]⟩]) (.cond (.t 116) (.seq (.reg [⟨some 6,none,.mov (.c (.v (.int .i64 27))),0,[]⟩]) .ret) .skip)) (.seq (.reg [⟨some 6,none,
 .mov (.c (.v (.int .i64 0))),0,[]⟩]) .ret)))))))))⟩
theorem pf141_is : pfs 141 = some pf141 := by kernel_rfl
def pf152 : PF := ⟨15,[.t 2,.t 3,.t 4],.seq (.reg [⟨some 2,none,.mov (.c (.v (.bool false))),0,[]⟩,⟨some 3,none,.mov (.c (.v (.bool false))),0,[]⟩,⟨some 4,none,.mov (.c (.v (.bool false))
 ),0,[]⟩]) (.seq (.seq (.reg [⟨some 5,none,.mov (.t 0),0,[]⟩]) (.block 0 (.seq (.seq (.reg [⟨some 7,none,.bin .eql (.t 5) (.c (.v (.int .i64 0))),0,[]⟩,⟨some 6,none,
 .mov (.t 7),0,[]⟩]) (.cond (.t 6) .skip (.seq (.reg [⟨some 8,none,.bin .eql (.t 5) (.c (.v (.int .i64 1))),0,[]⟩,⟨some 6,none,.mov (.t 8),0,[]⟩]) (.cond (.t 6)
  .skip (.seq (.reg [⟨some 9,none,.bin .eql (.t 5) (.c (.v (.int .i64 5))),0,[]⟩,⟨some 6,none,.mov (.t 9),0,[]⟩]) (.cond (.t 6) .skip (.reg [⟨some 10,none,
 .bin .eql (.t 5) (.c (.v (.int .i64 7))),0,[]⟩,⟨some 6,none,.mov (.t 10),0,[]⟩]))))))) (.cond (.t 6) (.seq (.reg [⟨some 2,none,.mov (.c (.v (.bool true))),0,[]⟩,⟨some 3,
 none,.mov (.c (.v (.bool false))),0,[]⟩,⟨some 4,none,.mov (.c (.v (.bool false))),0,[]⟩]) .ret) (.seq (.reg [⟨some 12,none,.bin .eql (.t 5) (.c (.v (.int .i64 6))),0,[]⟩
 ,⟨some 11,none,.mov (.t 12),0,[]⟩]) (.cond (.t 11) (.seq (.reg [⟨some 2,none,.mov (.c (.v (.bool true))),0,[]⟩,⟨some 3,none,.mov (.c (.v (.bool true))),0,[]⟩,⟨some 4,
 none,.mov (.c (.v (.bool false))),0,[]⟩]) .ret) (.seq (.reg [⟨some 14,none,.bin .eql (.t 5) (.c (.v (.int .i64 4))),0,[]⟩,⟨some 13,none,.mov (.t 14),0,[]⟩])
  (.cond (.t 13) (.seq (.reg [⟨some 2,none,.mov (.c (.v (.bool true))),0,[]⟩,⟨some 3,none,.mov (.c (.v (.bool true))),0,[]⟩,⟨some 4,none,.mov (.c (.v (.bool true))),0,[]⟩
 ]) .ret) .skip)))))))) (.seq (.reg [⟨some 2,none,.mov (.c (.v (.bool false))),0,[]⟩,⟨some 3,none,.mov (.c (.v (.bool false))),0,[]⟩,⟨some 4,none,
 .mov (.c (.v (.bool false))),0,[]⟩]) .ret))⟩
theorem pf152_is : pfs 152 = some pf152 := by kernel_rfl
def pf161 : PF := ⟨19,[.t 4],.seq (.reg [⟨some 4,none,.mov (.c (.v (.int .i64 0))),0,[]⟩]) (.seq (.seq (.reg [⟨some 6,none,.mov (.t 0),0,[]⟩,⟨some 7,none,.lenS (.t 6),0,[]⟩,⟨some 8,none,
 .mov (.c (.v (.int .i64 0))),0,[]⟩]) (.block 0 (.loop (.seq (.reg [⟨some 9,none,.bin .lss (.t 8) (.t 7),0,[]⟩]) (.seq (.cond (.t 9) .skip (.exit 0))
  (.seq (.block 1 (.seq (.reg [⟨some 10,none,.mov (.t 8),0,[]⟩,⟨some 5,none,.mov (.t 10),0,[]⟩]) (.seq (.reg [⟨some 11,none,.mov (.t 1),0,[]⟩,⟨some 12,none,.mov (.t 0),0,
 []⟩,⟨some 13,none,.mov (.t 5),0,[]⟩,⟨some 14,none,.iaddr 1 (.t 12) (.t 13),0,[]⟩,⟨some 15,none,.load false 1 (.t 14),0,[]⟩,⟨some 16,none,.call (.t 11) [.t 15],0,[]⟩])
  (.cond (.t 16) (.seq (.reg [⟨some 17,none,.mov (.t 5),0,[]⟩,⟨some 4,none,.mov (.t 17),0,[]⟩]) .ret) .skip)))) (.reg [⟨some 18,none,.bin .add (.t 8)
  (.c (.v (.int .i64 1))),0,[]⟩,⟨some 8,none,.mov (.t 18),0,[]⟩]))))))) (.seq (.reg [⟨some 4,none,.mov (.c (.v (.int .i64 (-1)))),0,[]⟩]) .ret))⟩
theorem pf161_is : pfs 161 = some pf161 := by kernel_rfl
def pf162 : PF := ⟨9,[.t 4],.seq (.reg [⟨some 4,none,.mov (.c (.v (.bool false))),0,[]⟩]) (.seq (.reg [⟨some 5,none,.mov (.t 0),0,[]⟩,⟨some 6,none,.mov (.t 1),0,[]⟩,⟨some 7,none,
 .call (.c (.fn 179 [])) [.t 5,.t 6],0,[]⟩,⟨some 8,none,.bin .geq (.t 7) (.c (.v (.int .i64 0))),0,[]⟩,⟨some 4,none,.mov (.t 8),0,[]⟩]) .ret)⟩
theorem pf162_is : pfs 162 = some pf162 := by kernel_rfl
def pf163 : PF := ⟨19,[.t 4],.seq (.reg [⟨some 4,none,.mov (.c (.v (.int .i64 0))),0,[]⟩]) (.seq (.seq (.reg [⟨some 6,none,.mov (.t 0),0,[]⟩,⟨some 7,none,.lenS (.t 6),0,[]⟩,⟨some 8,none,
 .mov (.c (.v (.int .i64 0))),0,[]⟩]) (.block 0 (.loop (.seq (.reg [⟨some 9,none,.bin .lss (.t 8) (.t 7),0,[]⟩]) (.seq (.cond (.t 9) .skip (.exit 0))
  (.seq (.block 1 (.seq (.reg [⟨some 10,none,.mov (.t 8),0,[]⟩,⟨some 5,none,.mov (.t 10),0,[]⟩]) (.seq (.reg [⟨some 11,none,.mov (.t 1),0,[]⟩,⟨some 12,none,.mov (.t 0),0,
 []⟩,⟨some 13,none,.mov (.t 5),0,[]⟩,⟨some 14,none,.iaddr 1 (.t 12) (.t 13),0,[]⟩,⟨some 15,none,.load false 1 (.t 14),0,[]⟩,⟨some 16,none,.call (.t 11) [.t 15],0,[]⟩])
  (.cond (.t 16) (.seq (.reg [⟨some 17,none,.mov (.t 5),0,[]⟩,⟨some 4,none,.mov (.t 17),0,[]⟩]) .ret) .skip)))) (.reg [⟨some 18,none,.bin .add (.t 8)
  (.c (.v (.int .i64 1))),0,[]⟩,⟨some 8,none,.mov (.t 18),0,[]⟩]))))))) (.seq (.reg [⟨some 4,none,.mov (.c (.v (.int .i64 (-1)))),0,[]⟩]) .ret))⟩
theorem pf163_is : pfs 163 = some pf163 := by kernel_rfl
def pf164 : PF := ⟨9,[.t 4],.seq (.reg [⟨some 4,none,.mov (.c (.v (.bool false))),0,[]⟩]) (.seq (.reg [⟨some 5,none,.mov (.t 0),0,[]⟩,⟨some 6,none,.mov (.t 1),0,[]⟩,⟨some 7,none,
 .call (.c (.fn 180 [])) [.t 5,.t 6],0,[]⟩,⟨some 8,none,.bin .geq (.t 7) (.c (.v (.int .i64 0))),0,[]⟩,⟨some 4,none,.mov (.t 8),0,[]⟩]) .ret)⟩
theorem pf164_is : pfs 164 = some pf164 := by kernel_rfl
def pf167 : PF := ⟨89,[.t 6],.seq (.reg [⟨some 3,none,.box (.t 0),0,[]⟩,⟨some 6,none,.mov (.c (.v (.bool false))),0,[]⟩]) (.seq (.seq (.reg [⟨some 10,none,.faddr 0 (.t 3),0,[]⟩,⟨some 11,
 none,.load false 1 (.t 10),0,[]⟩,⟨some 12,none,.bin .lss (.t 11) (.c (.v (.int .i64 0))),0,[]⟩,⟨some 13,none,.mov (.t 12),0,[]⟩,⟨some 14,some (13,false),.faddr 0 (.t 3),
 0,[]⟩,⟨some 15,some (13,false),.load false 1 (.t 14),0,[]⟩,⟨some 16,some (13,false),.bin .geq (.t 15) (.c (.v (.int .i64 15))),0,[]⟩,⟨some 17,none,.pick (.t 13)
  (.c (.v (.bool true))) (.t 16),0,[]⟩,⟨some 18,none,.mov (.t 17),0,[]⟩,⟨some 19,some (18,false),.faddr 1 (.t 3),0,[]⟩,⟨some 20,some (18,false),.load false 1 (.t 19),0,[]
 ⟩,⟨some 21,some (18,false),.bin .lss (.t 20) (.c (.v (.int .i64 0))),0,[]⟩,⟨some 22,none,.pick (.t 18) (.c (.v (.bool true))) (.t 21),0,[]⟩,⟨some 23,none,.mov (.t 22),0,
 []⟩,⟨some 24,some (23,false),.faddr 2 (.t 3),0,[]⟩,⟨some 25,some (23,false),.load false 1 (.t 24),0,[]⟩,⟨some 26,some (23,false),.bin .lss (.t 25) (.c (.v (.int .i64 0))
 ),0,[]⟩,⟨some 27,none,.pick (.t 23) (.c (.v (.bool true))) (.t 26),0,[]⟩]) (.cond (.t 27) (.seq (.reg [⟨some 6,none,.mov (.c (.v (.bool false))),0,[]⟩]) .ret) .skip))
  (.seq (.reg [⟨some 29,none,.faddr 0 (.t 3),0,[]⟩,⟨some 30,none,.load false 1 (.t 29),0,[]⟩,⟨some 31,none,.call (.c (.fn 181 [])) [.t 30],0,[]⟩,⟨some 28,none,
 .mov (.t 31),0,[]⟩,⟨some 32,none,.ext (.t 28) 0,0,[]⟩,⟨some 33,none,.ext (.t 28) 1,0,[]⟩,⟨some 34,none,.ext (.t 28) 2,0,[]⟩,⟨some 7,none,.mov (.t 32),0,[]⟩,⟨some 8,none,
 .mov (.t 33),0,[]⟩,⟨some 9,none,.mov (.t 34),0,[]⟩]) (.seq (.seq (.reg [⟨some 35,none,.mov (.t 7),0,[]⟩,⟨some 36,none,.un .not (.t 35),0,[]⟩,⟨some 37,none,.mov (.t 36),
 0,[]⟩,⟨some 38,some (37,true),.faddr 1 (.t 3),0,[]⟩,⟨some 39,some (37,true),.load false 1 (.t 38),0,[]⟩,⟨some 40,some (37,true),.bin .neq (.t 39) (.c (.v (.int .i64 0)))
 ,0,[]⟩,⟨some 41,none,.pick (.t 37) (.t 40) (.c (.v (.bool false))),0,[]⟩,⟨some 42,none,.mov (.t 41),0,[]⟩,⟨some 43,some (42,false),.mov (.t 8),0,[]⟩,⟨some 44,some (42,
 false),.un .not (.t 43),0,[]⟩,⟨some 45,some (42,false),.mov (.t 44),0,[]⟩,⟨some 46,some (45,true),.faddr 2 (.t 3),0,[]⟩,⟨some 47,some (45,true),.load false 1 (.t 46),0,
 []⟩,⟨some 48,some (45,true),.bin .neq (.t 47) (.c (.v (.int .i64 0))),0,[]⟩,⟨some 49,some (42,false),.pick (.t 45) (.t 48) (.c (.v (.bool false))),0,[]⟩,⟨some 50,none,
 .pick (.t 42) (.c (.v (.bool true))) (.t 49),0,[]⟩,⟨some 51,none,.mov (.t 50),0,[]⟩,⟨some 52,some (51,false),.mov (.t 9),0,[]⟩,⟨some 53,some (51,false),.un .not (.t 52),
 0,[]⟩,⟨some 54,some (51,false),.mov (.t 53),0,[]⟩,⟨some 55,some (54,true),.faddr 3 (.t 3),0,[]⟩,⟨some 56,some (54,true),.load false 1 (.t 55),0,[]⟩,⟨some 57,some (54,
 true),.bin .neq (.t 56) (.c (.v (.string (ByteArray.mk #[])))),0,[]⟩,⟨some 58,some (51,false),.pick (.t 54) (.t 57) (.c (.v (.bool false))),0,[]⟩,⟨some 59,none,
 .pick (.t 51) (.c (.v (.bool true))) (.t 58),0,[]⟩,⟨some 60,none,.mov (.t 59),0,[]⟩,⟨some 61,some (60,false),.faddr 0 (.t 3),0,[]⟩,⟨some 62,some (60,false),
 .load false 1 (.t 61),0,[]⟩,⟨some 63,some (60,false),.bin .eql (.t 62) (.c (.v (.int .i64 6))),0,[]⟩,⟨some 64,some (60,false),.mov (.t 2),0,[]⟩,⟨some 65,some (60,false),
 .bin .gtr (.t 64) (.c (.v (.int .i64 0))),0,[]⟩,⟨some 66,some (60,false),.eqb true (.t 63) (.t 65),0,[]⟩,⟨some 67,none,.pick (.t 60) (.c (.v (.bool true))) (.t 66),0,[]⟩
 ]) (.cond (.t 67) (.seq (.reg [⟨some 6,none,.mov (.c (.v (.bool false))),0,[]⟩]) .ret) .skip)) (.seq (.seq (.reg [⟨some 68,none,.faddr 0 (.t 3),0,[]⟩,⟨some 69,none,
 .load false 1 (.t 68),0,[]⟩,⟨some 70,none,.bin .neq (.t 69) (.c (.v (.int .i64 5))),0,[]⟩]) (.cond (.t 70) (.seq (.reg [⟨some 6,none,.mov (.c (.v (.bool true))),0,[]⟩])
  .ret) .skip)) (.seq (.reg [⟨some 71,none,.faddr 1 (.t 3),0,[]⟩,⟨some 72,none,.load false 1 (.t 71),0,[]⟩,⟨some 73,none,.bin .leq (.t 72) (.c (.v (.int .i64 32))),0,[]⟩,
 ⟨some 74,none,.mov (.t 73),0,[]⟩,⟨some 75,some (74,true),.faddr 1 (.t 3),0,[]⟩,⟨some 76,some (74,true),.load false 1 (.t 75),0,[]⟩,⟨some 77,some (74,true),.mov (.t 1),0,
 []⟩,⟨some 78,some (74,true),.lenS (.t 77),0,[]⟩,⟨some 79,some (74,true),.bin .leq (.t 76) (.t 78),0,[]⟩,⟨some 80,none,.pick (.t 74) (.t 79) (.c (.v (.bool false))),0,[]⟩
 ,⟨some 81,none,.mov (.t 80),0,[]⟩,⟨some 82,some (81,true),.mov (.t 1),0,[]⟩,⟨some 83,some (81,true),.faddr 1 (.t 3),0,[]⟩,⟨some 84,some (81,true),.load false 1 (.t 83),
 0,[]⟩,⟨some 85,some (81,true),.slice 4 (.t 82) none (some (.t 84)) none,0,[]⟩,⟨some 86,some (81,true),.call (.c (.fn 182 [])) [.t 85,.c (.fn 183 [])],0,[]⟩,⟨some 87,
 some (81,true),.un .not (.t 86),0,[]⟩,⟨some 88,none,.pick (.t 81) (.t 87) (.c (.v (.bool false))),0,[]⟩,⟨some 6,none,.mov (.t 88),0,[]⟩]) .ret)))))⟩
theorem pf167_is : pfs 167 = some pf167 := by kernel_rfl
def pf168 : PF := ⟨37,[.t 8],.seq (.reg [⟨some 8,none,.mov (.c (.v (.int .i64 0))),0,[]⟩]) (.seq (.block 0 (.seq (.reg [⟨some 10,none,.mov (.t 0),0,[]⟩,⟨some 11,none,.nilck (.t 10),0,[]⟩,
 ⟨some 12,none,.faddr 3 (.t 11),0,[]⟩,⟨some 13,none,.load false 1 (.t 12),0,[]⟩,⟨some 14,none,.mov (.t 2),0,[]⟩,⟨some 15,none,.iaddr 1 (.t 13) (.t 14),0,[]⟩,⟨some 16,
 none,.load false 1 (.t 15),0,[]⟩,⟨some 17,none,.bin .geq (.t 16) (.c (.v (.int .i64 0))),0,[]⟩,⟨some 9,none,.mov (.t 17),0,[]⟩]) (.cond (.t 9) (.seq (.reg [⟨some 8,none,
 .mov (.c (.v (.int .i64 8))),0,[]⟩]) .ret) (.seq (.reg [⟨some 19,none,.mov (.t 2),0,[]⟩,⟨some 20,none,.mov (.t 1),0,[]⟩,⟨some 21,none,.nilck (.t 20),0,[]⟩,⟨some 22,none,
 .faddr 0 (.t 21),0,[]⟩,⟨some 23,none,.load false 1 (.t 22),0,[]⟩,⟨some 24,none,.bin .leq (.t 19) (.t 23),0,[]⟩,⟨some 18,none,.mov (.t 24),0,[]⟩]) (.cond (.t 18)
  (.seq (.reg [⟨some 8,none,.mov (.c (.v (.int .i64 1))),0,[]⟩]) .ret) .skip))))) (.seq (.dreg [11,0] [⟨some 25,none,.mov (.t 0),0,[]⟩,⟨some 26,none,.nilck (.t 25),1,[0]⟩
 ,⟨some 27,none,.faddr 3 (.t 26),2,[1,0]⟩,⟨some 28,none,.load false 1 (.t 27),3,[2,1,0]⟩,⟨some 29,none,.mov (.t 2),4,[]⟩,⟨some 30,none,.mov (.t 1),5,[]⟩,⟨some 31,none,
 .nilck (.t 30),6,[5]⟩,⟨some 32,none,.faddr 1 (.t 31),7,[6,5]⟩,⟨some 33,none,.load false 1 (.t 32),8,[7,6,5]⟩,⟨some 34,none,.mov (.t 3),9,[]⟩,⟨some 35,none,
 .bin .add (.t 33) (.t 34),10,[9,8,7,6,5]⟩,⟨some 36,none,.iaddr 1 (.t 28) (.t 29),11,[10,9,8,7,6,5,4,3,2,1,0]⟩,⟨none,none,.store 1 (.t 36) (.t 35),12,[11,10,9,8,7,6,5,4,
 3,2,1,0]⟩]) (.seq (.reg [⟨some 8,none,.mov (.c (.v (.int .i64 0))),0,[]⟩]) .ret)))⟩
theorem pf168_is : pfs 168 = some pf168 := by kernel_rfl
def pf169 : PF := ⟨25,[.t 2,.t 3],.seq (.reg [⟨some 1,none,.box (.t 0),0,[]⟩,⟨some 2,none,.mov (.c (.v (.int .i64 0))),0,[]⟩,⟨some 3,none,.mov (.c (.v (.int .i64 0))),0,[]⟩])
  (.seq (.seq (.reg [⟨some 4,none,.faddr 0 (.t 1),0,[]⟩,⟨some 5,none,.load false 1 (.t 4),0,[]⟩]) (.block 0 (.seq (.seq (.reg [⟨some 7,none,.bin .eql (.t 5)
  (.c (.v (.int .i64 0))),0,[]⟩,⟨some 6,none,.mov (.t 7),0,[]⟩]) (.cond (.t 6) .skip (.seq (.reg [⟨some 8,none,.bin .eql (.t 5) (.c (.v (.int .i64 1))),0,[]⟩,⟨some 6,
 none,.mov (.t 8),0,[]⟩]) (.cond (.t 6) .skip (.seq (.reg [⟨some 9,none,.bin .eql (.t 5) (.c (.v (.int .i64 7))),0,[]⟩,⟨some 6,none,.mov (.t 9),0,[]⟩]) (.cond (.t 6)
  .skip (.seq (.reg [⟨some 10,none,.bin .eql (.t 5) (.c (.v (.int .i64 8))),0,[]⟩,⟨some 6,none,.mov (.t 10),0,[]⟩]) (.cond (.t 6) .skip (.reg [⟨some 11,none,
 .bin .eql (.t 5) (.c (.v (.int .i64 14))),0,[]⟩,⟨some 6,none,.mov (.t 11),0,[]⟩]))))))))) (.cond (.t 6) (.seq (.reg [⟨some 2,none,.mov (.c (.v (.int .i64 0))),0,[]⟩,
 ⟨some 3,none,.mov (.c (.v (.int .i64 1))),0,[]⟩]) .ret) (.seq (.seq (.reg [⟨some 13,none,.bin .eql (.t 5) (.c (.v (.int .i64 2))),0,[]⟩,⟨some 12,none,.mov (.t 13),0,[]⟩]
 ) (.cond (.t 12) .skip (.reg [⟨some 14,none,.bin .eql (.t 5) (.c (.v (.int .i64 11))),0,[]⟩,⟨some 12,none,.mov (.t 14),0,[]⟩]))) (.cond (.t 12) (.seq (.reg [⟨some 2,
 none,.mov (.c (.v (.int .i64 2))),0,[]⟩,⟨some 3,none,.mov (.c (.v (.int .i64 1))),0,[]⟩]) .ret) (.seq (.reg [⟨some 16,none,.bin .eql (.t 5) (.c (.v (.int .i64 4))),0,[]⟩
 ,⟨some 15,none,.mov (.t 16),0,[]⟩]) (.cond (.t 15) (.seq (.reg [⟨some 17,none,.faddr 2 (.t 1),0,[]⟩,⟨some 18,none,.load false 1 (.t 17),0,[]⟩,⟨some 2,none,.mov (.t 18),
 0,[]⟩,⟨some 3,none,.mov (.c (.v (.int .i64 1))),0,[]⟩]) .ret) (.seq (.seq (.reg [⟨some 20,none,.bin .eql (.t 5) (.c (.v (.int .i64 5))),0,[]⟩,⟨some 19,none,.mov (.t 20),
 0,[]⟩]) (.cond (.t 19) .skip (.seq (.reg [⟨some 21,none,.bin .eql (.t 5) (.c (.v (.int .i64 12))),0,[]⟩,⟨some 19,none,.mov (.t 21),0,[]⟩]) (.cond (.t 19)
  .skip (.reg [⟨some 22,none,.bin .eql (.t 5) (.c (.v (.int .i64 13))),0,[]⟩,⟨some 19,none,.mov (.t 22),0,[]⟩]))))) (.cond (.t 19) (.seq (.reg [⟨some 2,none,
 .mov (.c (.v (.int .i64 1))),0,[]⟩,⟨some 3,none,.mov (.c (.v (.int .i64 1))),0,[]⟩]) .ret) (.seq (.reg [⟨some 24,none,.bin .eql (.t 5) (.c (.v (.int .i64 9))),0,[]⟩,
 ⟨some 23,none,.mov (.t 24),0,[]⟩]) (.cond (.t 23) (.seq (.reg [⟨some 2,none,.mov (.c (.v (.int .i64 1))),0,[]⟩,⟨some 3,none,.mov (.c (.v (.int .i64 0))),0,[]⟩]) .ret)
  .skip)))))))))))) (.seq (.reg [⟨some 2,none,.mov (.c (.v (.int .i64 0))),0,[]⟩,⟨some 3,none,.mov (.c (.v (.int .i64 0))),0,[]⟩]) .ret))⟩
theorem pf169_is : pfs 169 = some pf169 := by kernel_rfl
def pf179 : PF := ⟨19,[.t 4],.seq (.reg [⟨some 4,none,.mov (.c (.v (.int .i64 0))),0,[]⟩]) (.seq (.seq (.reg [⟨some 6,none,.mov (.t 0),0,[]⟩,⟨some 7,none,.lenS (.t 6),0,[]⟩,⟨some 8,none,
 .mov (.c (.v (.int .i64 0))),0,[]⟩]) (.block 0 (.loop (.seq (.reg [⟨some 9,none,.bin .lss (.t 8) (.t 7),0,[]⟩]) (.seq (.cond (.t 9) .skip (.exit 0))
  (.seq (.block 1 (.seq (.reg [⟨some 10,none,.mov (.t 8),0,[]⟩,⟨some 5,none,.mov (.t 10),0,[]⟩]) (.seq (.reg [⟨some 11,none,.mov (.t 1),0,[]⟩,⟨some 12,none,.mov (.t 0),0,
 []⟩,⟨some 13,none,.mov (.t 5),0,[]⟩,⟨some 14,none,.iaddr 1 (.t 12) (.t 13),0,[]⟩,⟨some 15,none,.load false 1 (.t 14),0,[]⟩,⟨some 16,none,.bin .eql (.t 11) (.t 15),0,[]⟩]
 ) (.cond (.t 16) (.seq (.reg [⟨some 17,none,.mov (.t 5),0,[]⟩,⟨some 4,none,.mov (.t 17),0,[]⟩]) .ret) .skip)))) (.reg [⟨some 18,none,.bin .add (.t 8)
  (.c (.v (.int .i64 1))),0,[]⟩,⟨some 8,none,.mov (.t 18),0,[]⟩]))))))) (.seq (.reg [⟨some 4,none,.mov (.c (.v (.int .i64 (-1)))),0,[]⟩]) .ret))⟩
theorem pf179_is : pfs 179 = some pf179 := by kernel_rfl
def pf180 : PF := ⟨19,[.t 4],.seq (.reg [⟨some 4,none,.mov (.c (.v (.int .i64 0))),0,[]⟩]) (.seq (.seq (.reg [⟨some 6,none,.mov (.t 0),0,[]⟩,⟨some 7,none,.lenS (.t 6),0,[]⟩,⟨some 8,none,
 .mov (.c (.v (.int .i64 0))),0,[]⟩]) (.block 0 (.loop (.seq (.reg [⟨some 9,none,.bin .lss (.t 8) (.t 7),0,[]⟩]) (.seq (.cond (.t 9) .skip (.exit 0))
  (.seq (.block 1 (.seq (.reg [⟨some 10,none,.mov (.t 8),0,[]⟩,⟨some 5,none,.mov (.t 10),0,[]⟩]) (.seq (.reg [⟨some 11,none,.mov (.t 1),0,[]⟩,⟨some 12,none,.mov (.t 0),0,
 []⟩,⟨some 13,none,.mov (.t 5),0,[]⟩,⟨some 14,none,.iaddr 1 (.t 12) (.t 13),0,[]⟩,⟨some 15,none,.load false 1 (.t 14),0,[]⟩,⟨some 16,none,.bin .eql (.t 11) (.t 15),0,[]⟩]
 ) (.cond (.t 16) (.seq (.reg [⟨some 17,none,.mov (.t 5),0,[]⟩,⟨some 4,none,.mov (.t 17),0,[]⟩]) .ret) .skip)))) (.reg [⟨some 18,none,.bin .add (.t 8)
  (.c (.v (.int .i64 1))),0,[]⟩,⟨some 8,none,.mov (.t 18),0,[]⟩]))))))) (.seq (.reg [⟨some 4,none,.mov (.c (.v (.int .i64 (-1)))),0,[]⟩]) .ret))⟩
theorem pf180_is : pfs 180 = some pf180 := by kernel_rfl
def pf181 : PF := ⟨15,[.t 2,.t 3,.t 4],.seq (.reg [⟨some 2,none,.mov (.c (.v (.bool false))),0,[]⟩,⟨some 3,none,.mov (.c (.v (.bool false))),0,[]⟩,⟨some 4,none,.mov (.c (.v (.bool false))
 ),0,[]⟩]) (.seq (.seq (.reg [⟨some 5,none,.mov (.t 0),0,[]⟩]) (.block 0 (.seq (.seq (.reg [⟨some 7,none,.bin .eql (.t 5) (.c (.v (.int .i64 0))),0,[]⟩,⟨some 6,none,
 .mov (.t 7),0,[]⟩]) (.cond (.t 6) .skip (.seq (.reg [⟨some 8,none,.bin .eql (.t 5) (.c (.v (.int .i64 1))),0,[]⟩,⟨some 6,none,.mov (.t 8),0,[]⟩]) (.cond (.t 6)
  .skip (.seq (.reg [⟨some 9,none,.bin .eql (.t 5) (.c (.v (.int .i64 5))),0,[]⟩,⟨some 6,none,.mov (.t 9),0,[]⟩]) (.cond (.t 6) .skip (.reg [⟨some 10,none,
 .bin .eql (.t 5) (.c (.v (.int .i64 7))),0,[]⟩,⟨some 6,none,.mov (.t 10),0,[]⟩]))))))) (.cond (.t 6) (.seq (.reg [⟨some 2,none,.mov (.c (.v (.bool true))),0,[]⟩,⟨some 3,
 none,.mov (.c (.v (.bool false))),0,[]⟩,⟨some 4,none,.mov (.c (.v (.bool false))),0,[]⟩]) .ret) (.seq (.reg [⟨some 12,none,.bin .eql (.t 5) (.c (.v (.int .i64 6))),0,[]⟩
 ,⟨some 11,none,.mov (.t 12),0,[]⟩]) (.cond (.t 11) (.seq (.reg [⟨some 2,none,.mov (.c (.v (.bool true))),0,[]⟩,⟨some 3,none,.mov (.c (.v (.bool true))),0,[]⟩,⟨some 4,
 none,.mov (.c (.v (.bool false))),0,[]⟩]) .ret) (.seq (.reg [⟨some 14,none,.bin .eql (.t 5) (.c (.v (.int .i64 4))),0,[]⟩,⟨some 13,none,.mov (.t 14),0,[]⟩])
  (.cond (.t 13) (.seq (.reg [⟨some 2,none,.mov (.c (.v (.bool true))),0,[]⟩,⟨some 3,none,.mov (.c (.v (.bool true))),0,[]⟩,⟨some 4,none,.mov (.c (.v (.bool true))),0,[]⟩
 ]) .ret) .skip)))))))) (.seq (.reg [⟨some 2,none,.mov (.c (.v (.bool false))),0,[]⟩,⟨some 3,none,.mov (.c (.v (.bool false))),0,[]⟩,⟨some 4,none,
 .mov (.c (.v (.bool false))),0,[]⟩]) .ret))⟩
theorem pf181_is : pfs 181 = some pf181 := by kernel_rfl
def pf182 : PF := ⟨9,[.t 4],.seq (.reg [⟨some 4,none,.mov (.c (.v (.bool false))),0,[]⟩]) (.seq (.reg [⟨some 5,none,.mov (.t 0),0,[]⟩,⟨some 6,none,.mov (.t 1),0,[]⟩,⟨some 7,none,
 .call (.c (.fn 185 [])) [.t 5,.t 6],0,[]⟩,⟨some 8,none,.bin .geq (.t 7) (.c (.v (.int .i64 0))),0,[]⟩,⟨some 4,none,.mov (.t 8),0,[]⟩]) .ret)⟩
theorem pf182_is : pfs 182 = some pf182 := by kernel_rfl
def pf183 : PF := ⟨6,[.t 2],.seq (.reg [⟨some 1,none,.box (.t 0),0,[]⟩,⟨some 2,none,.mov (.c (.v (.bool false))),0,[]⟩]) (.seq (.reg [⟨some 3,none,.faddr 0 (.t 1),0,[]⟩,⟨some 4,none,
 .load false 1 (.t 3),0,[]⟩,⟨some 5,none,.bin .neq (.t 4) (.c (.v (.int .i64 6))),0,[]⟩,⟨some 2,none,.mov (.t 5),0,[]⟩]) .ret)⟩
theorem pf183_is : pfs 183 = some pf183 := by kernel_rfl
def pf185 : PF := ⟨19,[.t 4],.seq (.reg [⟨some 4,none,.mov (.c (.v (.int .i64 0))),0,[]⟩]) (.seq (.seq (.reg [⟨some 6,none,.mov (.t 0),0,[]⟩,⟨some 7,none,.lenS (.t 6),0,[]⟩,⟨some 8,none,
 .mov (.c (.v (.int .i64 0))),0,[]⟩]) (.block 0 (.loop (.seq (.reg [⟨some 9,none,.bin .lss (.t 8) (.t 7),0,[]⟩]) (.seq (.cond (.t 9) .skip (.exit 0))
  (.seq (.block 1 (.seq (.reg [⟨some 10,none,.mov (.t 8),0,[]⟩,⟨some 5,none,.mov (.t 10),0,[]⟩]) (.seq (.reg [⟨some 11,none,.mov (.t 1),0,[]⟩,⟨some 12,none,.mov (.t 0),0,
 []⟩,⟨some 13,none,.mov (.t 5),0,[]⟩,⟨some 14,none,.iaddr 4 (.t 12) (.t 13),0,[]⟩,⟨some 15,none,.load true 4 (.t 14),0,[]⟩,⟨some 16,none,.call (.t 11) [.t 15],0,[]⟩])
  (.cond (.t 16) (.seq (.reg [⟨some 17,none,.mov (.t 5),0,[]⟩,⟨some 4,none,.mov (.t 17),0,[]⟩]) .ret) .skip)))) (.reg [⟨some 18,none,.bin .add (.t 8)
  (.c (.v (.int .i64 1))),0,[]⟩,⟨some 8,none,.mov (.t 18),0,[]⟩]))))))) (.seq (.reg [⟨some 4,none,.mov (.c (.v (.int .i64 (-1)))),0,[]⟩]) .ret))⟩
theorem pf185_is : pfs 185 = some pf185 := by kernel_rfl
end Go.Proofs.Eng
