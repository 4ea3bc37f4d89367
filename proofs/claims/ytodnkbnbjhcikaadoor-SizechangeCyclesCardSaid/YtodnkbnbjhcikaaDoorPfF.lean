/- The prepared code of the functions. No conditions. -/
import Derived.Test.YtodnkbnbjhcikaaDoorKP
set_option linter.all false
set_option linter.deprecated false
set_option linter.unnecessarySimpa false
set_option linter.unusedVariables false
set_option linter.unusedSimpArgs false
set_option linter.defProp false
namespace Go.Proofs.Eng
def splitN : Nat → Code → Option (Code × Code)
  | 0, c => some (.skip, c)
  | n + 1, .seq a b => (splitN n b).map fun (x, y) => (.seq a x, y)
  | _, _ => none
def itF (g : FuncId) (caps : List AV) (s : ASt) (i : Nat) : Option (Option (List AV)) :=
  if g = 59 then
    match caps with
    | [.ptr k 0] => match s.H[k]? with
      | some (.cells _ [.ptr j 0]) => match s.H[j]? with
        | some (.cells _ [_, .sl l _]) => if (l.all fun x => x.cells.length == 3) = true ∧ l.length ≤ 4000000000000000000 then (match l[i]? with | some (.agg c) => some (some [.agg c]) | some _ => none | none => if i = l.length then some none else none) else none
        | _ => none
      | _ => none
    | _ => none
  else none
end Go.Proofs.Eng
namespace Go.Proofs.Eng.F
open Go Go.Proofs Go.Proofs.Eng
def md (f : Nat) : Md := if f = 43 then .shared else if f = 45 then .raw else .pure
def bf : Bf := ⟨false, fun g => g == 43 || g == 45, itF⟩
noncomputable def pfs (f : Nat) : Option PF := if f = 58 then some ⟨0, [], .ora keyO⟩ else prepF Tryd.prog bf f
theorem pfsOK : PfsOK Tryd.prog pfs := fun f pf h => by
  unfold pfs at h
  split at h
  · rename_i hf
    subst hf
    simp only [Option.some.injEq] at h; subst h
    exact .inr (.inl ⟨_, rfl, key_ok⟩)
  · exact .inl ⟨_, h⟩
set_option maxRecDepth 100000
def pf37 : PF := ⟨79,[.c 4 true 3],.seq (.reg [⟨some 2,none,.box (.t 0),0,[]⟩,⟨some 3,none,.box (.t 1),0,[]⟩,⟨some 4,none,.alloc [.v (.int .i64 0),.v (.int .i64 0),.sl [] .nil],0,[]⟩])
  (.seq (.reg [⟨some 13,none,.faddr 0 (.t 2),0,[]⟩,⟨some 14,none,.load false 1 (.t 13),0,[]⟩,⟨some 15,none,.faddr 1 (.t 3),0,[]⟩,⟨some 16,none,.load false 1 (.t 15),0,[]⟩
 ,⟨some 17,none,.build [.v (.int .i64 0),.v (.int .i64 0),.sl [] .nil] [(0,1,.t 14),(1,1,.t 16)],0,[]⟩,⟨some 5,none,.alloc [.v (.int .i64 0),.v (.int .i64 0),.sl [] .nil]
 ,0,[]⟩,⟨none,none,.store 3 (.t 5) (.t 17),0,[]⟩]) (.seq (.seq (.reg [⟨some 18,none,.faddr 2 (.t 3),0,[]⟩,⟨some 19,none,.load false 1 (.t 18),0,[]⟩,⟨some 20,none,
 .lenS (.t 19),0,[]⟩,⟨some 21,none,.mov (.c (.v (.int .i64 0))),0,[]⟩]) (.block 0 (.loop (.seq (.reg [⟨some 22,none,.bin .lss (.t 21) (.t 20),0,[]⟩]) (.seq (.cond (.t 22)
  .skip (.exit 0)) (.seq (.block 1 (.seq (.reg [⟨some 23,none,.iaddr 1 (.t 19) (.t 21),0,[]⟩,⟨some 24,none,.load false 1 (.t 23),0,[]⟩,⟨some 7,none,.mov (.t 24),0,[]⟩])
  (.seq (.reg [⟨some 25,none,.faddr 2 (.t 2),0,[]⟩,⟨some 26,none,.load false 1 (.t 25),0,[]⟩,⟨some 27,none,.iaddr 1 (.t 26) (.c (.v (.int .i64 0))),0,[]⟩,⟨some 28,none,
 .load false 1 (.t 27),0,[]⟩,⟨some 29,none,.lenS (.t 28),0,[]⟩,⟨some 30,none,.mksl (.v (.int .i64 0)) 1 false (.t 29),0,[]⟩,⟨some 8,none,.mov (.t 30),0,[]⟩])
  (.seq (.seq (.reg [⟨some 31,none,.mov (.t 7),0,[]⟩,⟨some 32,none,.lenS (.t 31),0,[]⟩,⟨some 33,none,.mov (.c (.v (.int .i64 0))),0,[]⟩])
  (.block 2 (.loop (.seq (.reg [⟨some 34,none,.bin .lss (.t 33) (.t 32),0,[]⟩]) (.seq (.cond (.t 34) .skip (.exit 2)) (.seq (.block 3 (.seq (.reg [⟨some 35,none,
 .mov (.t 33),0,[]⟩,⟨some 36,none,.iaddr 1 (.t 31) (.t 33),0,[]⟩,⟨some 37,none,.load false 1 (.t 36),0,[]⟩,⟨some 9,none,.mov (.t 35),0,[]⟩,⟨some 10,none,.mov (.t 37),0,[]
 ⟩]) (.seq (.seq (.reg [⟨some 38,none,.mov (.t 10),0,[]⟩,⟨some 39,none,.bin .eql (.t 38) (.c (.v (.int .i64 0))),0,[]⟩]) (.cond (.t 39) (.exit 3) .skip))
  (.seq (.reg [⟨some 40,none,.faddr 2 (.t 2),0,[]⟩,⟨some 41,none,.load false 1 (.t 40),0,[]⟩,⟨some 42,none,.mov (.t 9),0,[]⟩,⟨some 43,none,.iaddr 1 (.t 41) (.t 42),0,[]⟩,
 ⟨some 44,none,.load false 1 (.t 43),0,[]⟩,⟨some 45,none,.lenS (.t 44),0,[]⟩,⟨some 46,none,.mov (.c (.v (.int .i64 0))),0,[]⟩]) (.block 4 (.loop (.seq (.reg [⟨some 47,
 none,.bin .lss (.t 46) (.t 45),0,[]⟩]) (.seq (.cond (.t 47) .skip (.exit 4)) (.seq (.block 5 (.seq (.reg [⟨some 48,none,.mov (.t 46),0,[]⟩,⟨some 49,none,.iaddr 1 (.t 44)
  (.t 46),0,[]⟩,⟨some 50,none,.load false 1 (.t 49),0,[]⟩,⟨some 11,none,.mov (.t 48),0,[]⟩,⟨some 12,none,.mov (.t 50),0,[]⟩]) (.seq (.reg [⟨some 51,none,.mov (.t 12),0,[]
 ⟩,⟨some 52,none,.bin .neq (.t 51) (.c (.v (.int .i64 0))),0,[]⟩,⟨some 53,none,.mov (.t 52),0,[]⟩,⟨some 54,some (53,true),.mov (.t 10),0,[]⟩,⟨some 55,some (53,true),
 .mov (.t 12),0,[]⟩,⟨some 56,some (53,true),.max (.t 54) (.t 55),0,[]⟩,⟨some 57,some (53,true),.mov (.t 8),0,[]⟩,⟨some 58,some (53,true),.mov (.t 11),0,[]⟩,⟨some 59,
 some (53,true),.iaddr 1 (.t 57) (.t 58),0,[]⟩,⟨some 60,some (53,true),.load false 1 (.t 59),0,[]⟩,⟨some 61,some (53,true),.bin .gtr (.t 56) (.t 60),0,[]⟩,⟨some 62,none,
 .pick (.t 53) (.t 61) (.c (.v (.bool false))),0,[]⟩]) (.cond (.t 62) (.reg [⟨some 63,none,.mov (.t 8),0,[]⟩,⟨some 64,none,.mov (.t 11),0,[]⟩,⟨some 65,none,.mov (.t 10),
 0,[]⟩,⟨some 66,none,.mov (.t 12),0,[]⟩,⟨some 67,none,.max (.t 65) (.t 66),0,[]⟩,⟨some 68,none,.iaddr 1 (.t 63) (.t 64),0,[]⟩,⟨none,none,.store 1 (.t 68) (.t 67),0,[]⟩])
  .skip)))) (.reg [⟨some 69,none,.bin .add (.t 46) (.c (.v (.int .i64 1))),0,[]⟩,⟨some 46,none,.mov (.t 69),0,[]⟩])))))))))) (.reg [⟨some 70,none,.bin .add (.t 33)
  (.c (.v (.int .i64 1))),0,[]⟩,⟨some 33,none,.mov (.t 70),0,[]⟩]))))))) (.reg [⟨some 71,none,.faddr 2 (.t 5),0,[]⟩,⟨some 72,none,.load false 1 (.t 71),0,[]⟩,⟨some 73,
 none,.mov (.t 8),0,[]⟩,⟨some 74,none,.bsl (.sl [] .nil) 1 [(0,1,.t 73)],0,[]⟩,⟨some 75,none,.app 1 none (.t 72) (.t 74),0,[]⟩,⟨some 76,none,.faddr 2 (.t 5),0,[]⟩,⟨none,
 none,.store 1 (.t 76) (.t 75),0,[]⟩]))))) (.reg [⟨some 77,none,.bin .add (.t 21) (.c (.v (.int .i64 1))),0,[]⟩,⟨some 21,none,.mov (.t 77),0,[]⟩])))))))
  (.seq (.reg [⟨some 78,none,.load true 3 (.t 5),0,[]⟩,⟨none,none,.store 3 (.t 4) (.t 78),0,[]⟩]) .ret)))⟩
theorem pf37_is : pfs 37 = some pf37 := by kernel_rfl
def pf43 : PF := ⟨29,[],.seq (.reg [⟨some 3,none,.box (.t 1),0,[]⟩]) (.seq (.reg [⟨some 5,none,.load true 3 (.t 3),0,[]⟩,⟨some 6,none,.call (.c (.fn 58 [])) [.t 5],0,[]⟩,⟨some 4,none,
 .mov (.t 6),0,[]⟩]) (.seq (.reg [⟨some 7,none,.mov (.t 0),0,[]⟩,⟨some 8,none,.nilck (.t 7),0,[]⟩,⟨some 9,none,.faddr 0 (.t 8),0,[]⟩,⟨some 10,none,.load false 1 (.t 9),0,
 []⟩,⟨some 11,none,.mov (.t 4),0,[]⟩,⟨some 12,none,.look (.v (.bool false)) false true (.t 10) (.t 11),0,[]⟩,⟨some 13,none,.un .not (.t 12),0,[]⟩]) (.cond (.t 13)
  (.seq (.reg [⟨some 14,none,.mov (.t 0),0,[]⟩,⟨some 15,none,.nilck (.t 14),0,[]⟩,⟨some 16,none,.faddr 0 (.t 15),0,[]⟩,⟨some 17,none,.load false 1 (.t 16),0,[]⟩,⟨some 18,
 none,.mov (.t 4),0,[]⟩,⟨none,none,.mapup true (.t 17) (.t 18) (.c (.v (.bool true))),0,[]⟩]) (.dreg [8,0,0] [⟨some 19,none,.mov (.t 0),0,[]⟩,⟨some 20,none,.mov (.t 0),1,
 []⟩,⟨some 21,none,.nilck (.t 20),2,[1]⟩,⟨some 22,none,.faddr 1 (.t 21),3,[2,1]⟩,⟨some 23,none,.load false 1 (.t 22),4,[3,2,1]⟩,⟨some 24,none,.load true 3 (.t 3),5,[]⟩,
 ⟨some 25,none,.bsl (.agg [.v (.int .i64 0),.v (.int .i64 0),.sl [] .nil]) 1 [(0,3,.t 24)],6,[5]⟩,⟨some 26,none,.app 3 none (.t 23) (.t 25),7,[6,5,4,3,2,1]⟩,⟨some 27,
 none,.nilck (.t 19),8,[7,6,5,4,3,2,1,0]⟩,⟨some 28,none,.faddr 1 (.t 27),9,[8,7,6,5,4,3,2,1,0]⟩,⟨none,none,.store 1 (.t 28) (.t 26),10,[9,8,7,6,5,4,3,2,1,0]⟩])) .skip)))⟩
theorem pf43_is : pfs 43 = some pf43 := by kernel_rfl
def pf45 : PF := ⟨4,[.t 2],.seq (.reg [⟨some 1,none,.box (.t 0),0,[]⟩,⟨some 2,none,.mov (.c (.v .nilFunc)),0,[]⟩]) (.seq (.reg [⟨some 3,none,.mkfn 59 [.t 1],0,[]⟩,⟨some 2,none,
 .mov (.t 3),0,[]⟩]) .ret)⟩
theorem pf45_is : pfs 45 = some pf45 := by kernel_rfl
def pf930 : PF := ⟨0,[],.seq (.reg [⟨some 2,none,.mov (.c (.sl [] .nil)),0,[]⟩,⟨some 3,none,.mov (.c (.v (.bool false))),0,[]⟩]) (.seq (.reg [⟨some 11,none,.mkmap,0,[]⟩,⟨some 12,none,
 .build [.v (.map none),.sl [] .nil] [(0,1,.t 11)],0,[]⟩,⟨some 13,none,.box (.t 12),0,[]⟩,⟨some 4,none,.alloc [.v (.pointer none)],0,[]⟩,⟨none,none,.store 1 (.t 4)
  (.t 13),0,[]⟩]) (.seq (.seq (.reg [⟨some 14,none,.mov (.t 0),0,[]⟩,⟨some 15,none,.lenS (.t 14),0,[]⟩,⟨some 16,none,.mov (.c (.v (.int .i64 0))),0,[]⟩])
  (.block 0 (.loop (.seq (.reg [⟨some 17,none,.bin .lss (.t 16) (.t 15),0,[]⟩]) (.seq (.cond (.t 17) .skip (.exit 0)) (.seq (.block 1 (.seq (.reg [⟨some 18,none,
 .iaddr 3 (.t 14) (.t 16),0,[]⟩,⟨some 19,none,.load true 3 (.t 18),0,[]⟩,⟨some 6,none,.alloc [.v (.int .i64 0),.v (.int .i64 0),.sl [] .nil],0,[]⟩,⟨none,none,
 .store 3 (.t 6) (.t 19),0,[]⟩]) (.reg [⟨some 20,none,.load false 1 (.t 4),0,[]⟩,⟨some 21,none,.load true 3 (.t 6),0,[]⟩,⟨some 22,none,.call (.c (.fn 43 [])) [.t 20,
 .t 21],0,[]⟩]))) (.reg [⟨some 23,none,.bin .add (.t 16) (.c (.v (.int .i64 1))),0,[]⟩,⟨some 16,none,.mov (.t 23),0,[]⟩]))))))) (.seq (.reg [⟨some 24,none,
 .load false 1 (.t 4),0,[]⟩,⟨some 25,none,.nilck (.t 24),0,[]⟩,⟨some 26,none,.faddr 1 (.t 25),0,[]⟩,⟨some 27,none,.load false 1 (.t 26),0,[]⟩,⟨some 28,none,
 .clone 3 true false (.t 27),0,[]⟩,⟨some 7,none,.alloc [.sl [] .nil],0,[]⟩,⟨none,none,.store 1 (.t 7) (.t 28),0,[]⟩]) (.seq (.seq (.reg [⟨some 29,none,
 .load false 1 (.t 4),0,[]⟩,⟨some 30,none,.call (.c (.fn 45 [])) [.t 29],0,[]⟩]) (.block 2 (.rangeq itF (.t 30) [31] (.reg [⟨some 8,none,.alloc [.v (.int .i64 0),
 .v (.int .i64 0),.sl [] .nil],0,[]⟩,⟨none,none,.store 3 (.t 8) (.t 31),0,[]⟩]) (.block 3 (.seq (.seq (.reg [⟨some 32,none,.load false 1 (.t 4),0,[]⟩,⟨some 33,none,
 .nilck (.t 32),0,[]⟩,⟨some 34,none,.faddr 1 (.t 33),0,[]⟩,⟨some 35,none,.load false 1 (.t 34),0,[]⟩,⟨some 36,none,.lenS (.t 35),0,[]⟩,⟨some 37,none,.bin .gtr (.t 36)
  (.c (.v (.int .i64 2000))),0,[]⟩]) (.cond (.t 37) (.exit 2) .skip)) (.seq (.reg [⟨some 38,none,.load false 1 (.t 7),0,[]⟩,⟨some 39,none,.lenS (.t 38),0,[]⟩,⟨some 40,
 none,.mov (.c (.v (.int .i64 0))),0,[]⟩]) (.block 4 (.loop (.seq (.reg [⟨some 41,none,.bin .lss (.t 40) (.t 39),0,[]⟩]) (.seq (.cond (.t 41) .skip (.exit 4))
  (.seq (.block 5 (.seq (.reg [⟨some 42,none,.iaddr 3 (.t 38) (.t 40),0,[]⟩,⟨some 43,none,.load true 3 (.t 42),0,[]⟩,⟨some 10,none,.alloc [.v (.int .i64 0),
 .v (.int .i64 0),.sl [] .nil],0,[]⟩,⟨none,none,.store 3 (.t 10) (.t 43),0,[]⟩]) (.seq (.reg [⟨some 44,none,.faddr 1 (.t 8),0,[]⟩,⟨some 45,none,.load false 1 (.t 44),0,[]
 ⟩,⟨some 46,none,.faddr 0 (.t 10),0,[]⟩,⟨some 47,none,.load false 1 (.t 46),0,[]⟩,⟨some 48,none,.bin .eql (.t 45) (.t 47),0,[]⟩]) (.cond (.t 48) (.dreg [4] [⟨some 49,
 none,.load false 1 (.t 4),0,[]⟩,⟨some 50,none,.load true 3 (.t 8),1,[]⟩,⟨some 51,none,.load true 3 (.t 10),2,[]⟩,⟨some 52,none,.call (.c (.fn 37 [])) [.t 50,.t 51],3,[2,
 1]⟩,⟨some 53,none,.call (.c (.fn 43 [])) [.t 49,.t 52],4,[3,2,1,0]⟩]) .skip)))) (.reg [⟨some 54,none,.bin .add (.t 40) (.c (.v (.int .i64 1))),0,[]⟩,⟨some 40,none,
 .mov (.t 54),0,[]⟩])))))))))))) (.seq (.seq (.reg [⟨some 55,none,.load false 1 (.t 4),0,[]⟩,⟨some 56,none,.nilck (.t 55),0,[]⟩,⟨some 57,none,.faddr 1 (.t 56),0,[]⟩,
 ⟨some 58,none,.load false 1 (.t 57),0,[]⟩,⟨some 59,none,.lenS (.t 58),0,[]⟩,⟨some 60,none,.bin .gtr (.t 59) (.c (.v (.int .i64 2000))),0,[]⟩]) (.cond (.t 60)
  (.seq (.reg [⟨some 2,none,.mov (.c (.sl [] .nil)),0,[]⟩,⟨some 3,none,.mov (.c (.v (.bool false))),0,[]⟩]) .ret) .skip)) .skip)))))⟩
theorem pf930_is : ((Tryd.f30.body.bind (splitN 6)).bind fun x => prepQ Tryd.prog bf x.1) = some pf930.body := by kernel_rfl
end Go.Proofs.Eng.F
