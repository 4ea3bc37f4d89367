/- The prepared code of the functions. No conditions. -/
import Derived.Test.YtflfmkkcnphdcaaGreatCO
set_option linter.all false
set_option linter.deprecated false
set_option linter.unnecessarySimpa false
set_option linter.unusedVariables false
set_option linter.unusedSimpArgs false
set_option linter.defProp false
namespace Go.Proofs.Eng
open Go Go.Proofs
def Pd : List Nat := [2000008, 89, 139, 140, 141, 168, 67, 69, 70, 145, 146, 148, 149, 150, 151, 172, 77, 109, 110, 144, 74, 113, 114]
def a7e : List Nat := [34, 68, 112, 88, 2000069, 3000039, 3000040, 3000041, 12, 15, 21, 22, 28, 71, 72, 90, 91, 92, 93, 95, 42, 43, 44, 45, 46, 47, 48, 49, 50, 51, 52, 53, 54, 55, 56, 13, 14, 16, 19, 20, 35, 57, 58, 59, 60, 61, 62, 99, 100, 102, 103, 104, 105]
def md (f : Nat) : Md := if a7e.contains f then .raw else if Pd.contains f then .shared else .pure
def bf : Bf := ⟨false, λ g => a7e.contains g || Pd.contains g, itF⟩
def bsF (f : Nat) : Bool := [90, 92, 103].contains f
noncomputable def pfs (f : Nat) : Option PF := if f = 112 then some ⟨0, [], .ora P5⟩ else if f = 88 then some ⟨0, [], .ora Un⟩ else if f = 29 then none else if f = 39 then some ⟨0, [], .ora (N1 1)⟩ else if f = 40 then some ⟨0, [], .ora (N1 1)⟩ else if f = 41 then some ⟨0, [], .ora (N1 4)⟩ else if f = 23 then D2 Tryz.prog bf 23 else Gm Tryz.prog { bf with b := bsF f, sh := λ g => bf.sh g || (g == 4000000 && f == 51) } f
theorem a4b : (D2 Tryz.prog bf 23).all (λ p => p.body.ou) = true := by kernel_rfl
theorem a8n : sx Tryz.prog 39 = some (false, 1, 23) := by kernel_rfl
theorem a84 : sx Tryz.prog 40 = some (false, 1, 24) := by kernel_rfl
theorem a8v : sx Tryz.prog 41 = some (true, 4, 60) := by kernel_rfl
theorem a7q : zu Tryz.prog pfs := λ f pf h => by
 unfold pfs at h
 split at h
 ·rename_i hf
  subst hf
  simp only [fe] at h; subst h
  exact .inr (.inl ⟨_, rfl, Zp⟩)
 split at h
 ·rename_i hf
  subst hf
  simp only [fe] at h; subst h
  exact .inr (.inl ⟨_, rfl, a3v⟩)
 split at h
 ·cases h
 split at h
 ·rename_i hf
  subst hf
  simp only [fe] at h; subst h
  exact .inr (.inl ⟨_, rfl, O3 a8n⟩)
 split at h
 ·rename_i hf
  subst hf
  simp only [fe] at h; subst h
  exact .inr (.inl ⟨_, rfl, O3 a84⟩)
 split at h
 ·rename_i hf
  subst hf
  simp only [fe] at h; subst h
  exact .inr (.inl ⟨_, rfl, O3 a8v⟩)
 split at h
 ·rename_i hf
  subst hf
  have hq := a4b
  rw [h] at hq
  exact .inr (.inr ⟨bf, a5r, h, hq⟩)
 ·exact .inl ⟨_, h⟩
theorem hm : Tryz.prog.follows .mixedOrders = true := by kernel_rfl
set_option maxRecDepth 100000
abbrev zi (k : Int) : X := .c (.v (.int .i64 k))
abbrev zb (b : Bool) : X := .c (.v (.bool b))
abbrev zX (d : Nat) (o : PO) (i : Nat) (l : List Nat) : PI := ⟨some d,none,o,i,l⟩
abbrev zY (d g : Nat) (b : Bool) (o : PO) (i : Nat) (l : List Nat) : PI := ⟨some d,some (g,b),o,i,l⟩
abbrev zO (d : Nat) (o : PO) : PI := ⟨some d,none,o,0,[]⟩
abbrev zN (o : PO) : PI := ⟨none,none,o,0,[]⟩
abbrev zG (d g : Nat) (b : Bool) (o : PO) : PI := ⟨some d,some (g,b),o,0,[]⟩
abbrev zM (d x : Nat) : PI := ⟨some d,none,.mov (.t x),0,[]⟩
abbrev zL (d x : Nat) : PI := ⟨some d,none,.load false 1 (.t x),0,[]⟩
abbrev zR (d n x : Nat) : PI := ⟨some d,none,.load true n (.t x),0,[]⟩
abbrev zF (d k x : Nat) : PI := ⟨some d,none,.gp k (.t x),0,[]⟩
abbrev zK (d x : Nat) : PI := ⟨some d,none,.ir (.t x),0,[]⟩
abbrev zS (d x : Nat) : PI := ⟨some d,none,.qw (.t x),0,[]⟩
abbrev zE (d x i : Nat) : PI := ⟨some d,none,.ext (.t x) i,0,[]⟩
abbrev zC (d f : Nat) (l : List X) : PI := ⟨some d,none,.call (.c (.fn f [])) l,0,[]⟩
abbrev zB (d : Nat) (o : BinOp) (x y : X) : PI := ⟨some d,none,.bin o x y,0,[]⟩
abbrev zP (d a b : Nat) (c : Bool) : PI := ⟨some d,none,.pick (.t a) (.t b) (.c (.v (.bool c))),0,[]⟩
abbrev zQ (d a : Nat) (c : Bool) (b : Nat) : PI := ⟨some d,none,.pick (.t a) (.c (.v (.bool c))) (.t b),0,[]⟩
abbrev yM (d g : Nat) (b : Bool) (x : Nat) : PI := ⟨some d,some (g,b),.mov (.t x),0,[]⟩
abbrev yL (d g : Nat) (b : Bool) (x : Nat) : PI := ⟨some d,some (g,b),.load false 1 (.t x),0,[]⟩
abbrev yF (d g : Nat) (b : Bool) (k x : Nat) : PI := ⟨some d,some (g,b),.gp k (.t x),0,[]⟩
abbrev yK (d g : Nat) (b : Bool) (x : Nat) : PI := ⟨some d,some (g,b),.ir (.t x),0,[]⟩
abbrev yB (d g : Nat) (b : Bool) (o : BinOp) (x y : X) : PI := ⟨some d,some (g,b),.bin o x y,0,[]⟩
def pf7 : PF := ⟨123,[.t 4],.seq (.reg [zO 4 (.mov (zb false))]) (.seq (.reg [zM 18 0,zO 19 (.bin .rem (.t 18) (.c (.v (.int .u8 40)))),zO 20 (.conv .i64 (.t 19)),zM 21 1,
 zO 22 (.bin .rem (.t 21) (.c (.v (.int .u8 40)))),zO 23 (.conv .i64 (.t 22)),zM 5 20,zM 6 23]) (.seq (.reg [zO 7 (.mov (.c (.fn 24 [])))]) (.seq (.reg [zO 24 (.build [.v (.int .i64 0),
 .v (.int .i64 0),.v (.string (ByteArray.mk #[])),.sl [] .nil,.sl [] .nil] [(0,1,.c (.v (.int .i64 5))),(2,1,.c (.v (.string (ByteArray.mk #[112,108,117,115]))))]),zM 25 7,
 zO 26 (.call (.t 25) [.c (.v (.int .i64 0))]),zC 27 25 [.t 24,.t 26],zM 28 7,zO 29 (.call (.t 28) [.c (.v (.int .i64 1))]),zC 30 25 [.t 27,.t 29],zO 8 (.alloc [.v (.int .i64 0),
 .v (.int .i64 0),.v (.string (ByteArray.mk #[])),.sl [] .nil,.sl [] .nil]),zN (.store 5 (.t 8) (.t 30))]) (.seq (.reg [zR 31 5 8,zO 32 (.bsl (.agg [.v (.int .i64 0),.v (.int .i64 0),
 .v (.string (ByteArray.mk #[])),.sl [] .nil,.sl [] .nil]) 1 [(0,5,.t 31)]),zO 33 (.build [.v (.int .i64 0),.v (.int .i64 0),.v (.string (ByteArray.mk #[])),.sl [] .nil,.sl [] .nil] [(0,1,
 .c (.v (.int .i64 3))),(1,1,.c (.v (.int .i64 1))),(2,1,.c (.v (.string (ByteArray.mk #[115,117,99,99])))),(4,1,.t 32)]),zO 9 (.alloc [.v (.int .i64 0),.v (.int .i64 0),
 .v (.string (ByteArray.mk #[])),.sl [] .nil,.sl [] .nil]),zN (.store 5 (.t 9) (.t 33))]) (.seq (.jr [11] [zX 10 (.alloc [.v (.int .i64 0),.v (.int .i64 0),.v (.string (ByteArray.mk #[])),
 .sl [] .nil,.sl [] .nil]) 10 [],zO 34 (.bsl (.v (.int .i64 0)) 2 [(0,1,.c (.v (.int .i64 0))),(1,1,.c (.v (.int .i64 1)))]),zX 35 (.mov (.t 7)) 1 [],
 zX 36 (.call (.t 35) [.c (.v (.int .i64 1))]) 2 [1],zX 37 (.mov (.t 7)) 3 [],zX 38 (.call (.t 37) [.c (.v (.int .i64 0))]) 4 [2,1,3],zX 39 (.load true 5 (.t 9)) 5 [],
 zX 40 (.bsl (.agg [.v (.int .i64 0),.v (.int .i64 0),.v (.string (ByteArray.mk #[])),.sl [] .nil,.sl [] .nil]) 3 [(0,5,.t 36),(5,5,.t 38),(10,5,.t 39)]) 6 [5,4,3,2,1],
 zX 41 (.build [.v (.int .i64 0) ,.v (.int .i64 0),.v (.string (ByteArray.mk #[])),.sl [] .nil,.sl [] .nil] [(0,1,.c (.v (.int .i64 4))),(3,1,.t 34),(4,1,.t 40)]) 7 [6,5,4,3,2,1,0],
 zX 42 (.call (.c (.fn 26 [])) [.t 41]) 8 [7,6,5,4,3,2,1,0],zX 43 (.call (.c (.fn 26 [])) [.t 42]) 9 [8,7,6,5,4,3,2,1,0],⟨none,none,.store 5 (.t 10) (.t 43),11,[9,8,7,6,5,4,3,2,1,0,
 10]⟩]) (.seq (.jr [12] [zX 11 (.alloc [.sl [] .nil,.v (.int .i64 0),.v (.int .i64 0),.v (.string (ByteArray.mk #[])),.sl [] .nil,.sl [] .nil]) 11 [] ,zR 44 5 10,
 zX 45 (.build [.v (.string (ByteArray.mk #[])),.v (.int .i64 0),.v (.int .i64 0),.v (.string (ByteArray.mk #[])),.sl [] .nil,.sl [] .nil] [(0,1,.c (.v (.string (ByteArray.mk #[112,108,117,
 115])))),(1,5,.t 44)]) 1 [0],zX 46 (.bsl (.agg [.v (.string (ByteArray.mk #[])),.v (.int .i64 0),.v (.int .i64 0),.v (.string (ByteArray.mk #[])),.sl [] .nil,.sl [] .nil]) 1 [(0,6,
 .t 45)]) 2 [1,0],zX 47 (.build [.v (.int .i64 0),.v (.int .i64 0),.v (.string (ByteArray.mk #[])),.sl [] .nil,.sl [] .nil] [(0,1,.c (.v (.int .i64 5))),(2,1,
 .c (.v (.string (ByteArray.mk #[112,108,117,115]))))]) 3 [],zX 48 (.mov (.t 5)) 4 [],zX 49 (.call (.c (.fn 27 [])) [.t 48]) 5 [4],zX 50 (.call (.c (.fn 25 [])) [.t 47,.t 49]) 6 [5,4,3],
 zX 51 (.mov (.t 6)) 7 [],zX 52 (.call (.c (.fn 27 [])) [.t 51]) 8 [6,5,4,3,7],zX 53 (.call (.c (.fn 25 [])) [.t 50,.t 52]) 9 [8,7,6,5,4,3],zX 54 (.build [.sl [] .nil,.v (.int .i64 0),
 .v (.int .i64 0),.v (.string (ByteArray.mk #[])),.sl [] .nil,.sl [] .nil] [(0,1,.t 46),(1,5,.t 53)]) 10 [9,8,7,6,5,4,3,2,1,0],⟨none,none,.store 6 (.t 11) (.t 54),12,[10,9,8,7,6,5,4,3,2,1,0,
 11]⟩]) (.seq (.reg [zR 55 6 11,zC 56 19 [.t 55],zM 12 56]) (.seq (.seq (.reg [zM 57 12,
 zO 58 (.eqp false (.t 57) (.c (.v (.pointer none))))]) (.cond (.t 58) (.seq (.reg [zO 4 (.mov (zb false))]) .ret) .skip)) (.seq (.reg [zM 60 12,zC 61 15 [.t 60,.c (.v (.int .i64 100000))],
 zM 59 61,zE 62 59 0,zE 63 59 1,zM 13 62 ,zM 14 63]) (.seq (.reg [zM 65 12,zC 66 28 [.t 65],zM 64 66,zE 67 64 0,zE 68 64 1,zO 15 (.alloc [.v (.string (ByteArray.mk #[])),.sl [] .nil]),
 zN (.store 2 (.t 15) (.t 67)),zM 16 68]) (.seq (.reg [zO 17 (.mov (zi 0))]) (.seq (.block 0 (.loop (.seq (.seq (.reg [zF 69 0 15,zL 70 69,
 zO 71 (.bin .eql (.t 70) (.c (.v (.string (ByteArray.mk #[115,117,99,99]))))),zM 72 71,yF 73 72 true 1 15,yL 74 72 true 73,zG 75 72 true (.qw (.t 74)),yB 76 72 true .eql (.t 75) (zi 1),
 zP 77 72 76 false,zM 78 77,yM 79 78 true 17,yB 80 78 true .lss (.t 79) (zi 200),zP 81 78 80 false]) (.cond (.t 81) .skip (.exit 0))) (.block 1 (.seq (.reg [zF 82 1 15,zL 83 82,
 zO 84 (.j9 2 (.t 83) (zi 0)),zR 85 2 84,zN (.store 2 (.t 15) (.t 85))]) (.reg [zM 86 17,zB 87 .add (.t 86) (zi 1),zM 17 87])))))) (.seq (.reg [zC 88 11 [],zM 89 88,yM 90 89 true 13,
 zP 91 89 90 false,zM 92 91,yM 93 92 true 14,yB 94 92 true .eql (.t 93) (zi 0),zP 95 92 94 false,zM 96 95,yM 97 96 true 16,yB 98 96 true .eql (.t 97) (zi 0),zP 99 96 98 false,zM 100 99,
 yM 101 100 true 17,yM 102 100 true 5,yM 103 100 true 6,yB 104 100 true .add (.t 102) (.t 103),yB 105 100 true .eql (.t 101) (.t 104),zP 106 100 105 false,zM 107 106,yF 108 107 true 0 15,
 yL 109 107 true 108 ,zG 110 107 true (.bin .eql (.t 109) (.c (.v (.string (ByteArray.mk #[122,101,114,111]))))),zP 111 107 110 false,zM 112 111,yF 113 112 true 1 15,yL 114 112 true 113,
 zG 115 112 true (.qw (.t 114)),yB 116 112 true .eql (.t 115) (zi 0),⟨some 117,none,.pick (.t 112) (.t 116) (zb false),0,[] ⟩,zM 118 117,yM 119 118 true 12,
 zG 120 118 true (.call (.c (.fn 22 [])) [.t 119]),yB 121 118 true .eql (.t 120) (zi 0),zP 122 118 121 false,zM 4 122]) .ret)))))) )))))))⟩
theorem pf7_is : pfs 7 = some pf7 := by kernel_rfl
def pf12 : PF := ⟨78,[.t 2,.t 3],.seq (.reg [zO 1 (.box (.t 0)),zO 2 (.mov (.c (.v (.pointer none)))),zO 3 (.mov (zi 0))]) (.seq (.seq (.reg [zR 8 3 1,zC 9 38 [.t 8],
 zM 4 9]) (.seq (.reg [zM 10 4,zB 11 .neq (.t 10) (zi 0)]) (.cond (.t 11) (.seq (.reg [zM 12 4,zO 2 (.mov (.c (.v (.pointer none)))),zM 3 12]) .ret) .skip))) (.seq (.jr [5,0,0,0,
 0] [zF 13 1 1,zX 14 (.load false 1 (.t 13)) 1 [0],zX 15 (.call (.c (.fn 39 [])) [.t 14]) 2 [1,0],zX 16 (.gp 2 (.t 1)) 3 [],zX 17 (.load false 1 (.t 16)) 4 [3],
 zX 18 (.call (.c (.fn 40 [])) [.t 17]) 5 [2,1,0,4,3],zX 19 (.build [.sl [] .nil,.sl [] .nil,.sl [] .nil] [(1,1,.t 15),(2,1,.t 18)]) 6 [5,4,3,2,1,0],zX 20 (.build [.sl [] .nil,.sl [] .nil,
 .sl [] .nil,.v (.int .i64 0),.v (.int .i64 0),.v (.pointer none),.sl [] .nil,.sl [] .nil,.v (.int .i64 0),.v (.bool false),.v (.int .i64 0),.v .nilFunc,.v .nilFunc,.v .nilFunc,.v .nilFunc,
 .v .nilFunc,.v .nilFunc,.v .nilFunc,.v .nilFunc,.v .nilFunc,.v .nilFunc,.v .nilFunc,.v .nilFunc,.v .nilFunc,.v .nilFunc,.v .nilFunc] [(0,3,.t 19)]) 7 [6,5,4,3,2,1,0],
 zX 21 (.box (.t 20)) 8 [7,6,5,4,3,2,1,0],zX 5 (.mov (.t 21)) 9 [8,7,6,5,4,3,2,1,0]]) (.seq (.seq (.reg [zF 22 0 1,zL 23 22,zS 24 23,
 zO 25 (.mov (zi 0))]) (.block 0 (.loop (.seq (.reg [zB 26 .lss (.t 25) (.t 24)]) (.seq (.cond (.t 26) .skip (.exit 0)) (.seq (.block 1 (.seq (.reg [zO 27 (.j9 1 (.t 23) (.t 25)),
 zL 28 27,zM 7 28]) (.jr [10,0,0,0] [zM 29 5,zX 30 (.mov (.t 5)) 1 [],zX 31 (.ir (.t 30)) 2 [1],zX 32 (.gp 0 (.t 31)) 3 [2,1],zX 33 (.gp 0 (.t 32)) 4 [3,2,1],
 zX 34 (.load false 1 (.t 33)) 5 [4,3,2,1],zX 35 (.mov (.t 7)) 6 [],zX 36 (.call (.c (.fn 41 [])) [.t 35]) 7 [6],zX 37 (.bsl (.sl [] .nil) 1 [(0,1,.t 36)]) 8 [7,6],
 zX 38 (.app 1 none (.t 34) (.t 37)) 9 [8,7,6,5,4,3,2,1],zX 39 (.ir (.t 29)) 10 [9,8,7,6,5,4,3,2,1,0],zX 40 (.gp 0 (.t 39)) 11 [10,9,8,7,6,5,4,3,2,1,0],zX 41 (.gp 0 (.t 40)) 12 [11,
 10,9,8,7,6,5,4,3,2,1,0],⟨none,none,.store 1 (.t 41) (.t 38),13,[12,11,10,9,8,7,6,5,4,3,2,1,0]⟩]))) (.reg [zB 42 .add (.t 25) (zi 1),zM 25 42]))))))) (.seq (.reg [zM 43 5,zM 44 5,
 zO 45 (.tx 42 [.t 44]),zM 46 5,zO 47 (.tx 43 [.t 46]),zM 48 5,zO 49 (.tx 44 [.t 48]),zM 50 5,zO 51 (.tx 45 [.t 50]),zM 52 5,zO 53 (.tx 46 [.t 52]),zM 54 5,
 zO 55 (.tx 47 [.t 54]),zM 56 5 ,zO 57 (.tx 48 [.t 56]),zM 58 5,zO 59 (.tx 49 [.t 58]),zM 60 5,zO 61 (.tx 50 [.t 60] ),zM 62 5,zO 63 (.tx 51 [.t 62]),zM 64 5,
 zO 65 (.tx 52 [.t 64]),zM 66 5,zO 67 (.tx 53 [.t 66]),zM 68 5,zO 69 (.tx 54 [.t 68]),zM 70 5,zO 71 (.tx 55 [.t 70]),zM 72 5,zO 73 (.tx 56 [.t 72]),zO 74 (.build [.v .nilFunc,
 .v .nilFunc,.v .nilFunc,.v .nilFunc,.v .nilFunc,.v .nilFunc,.v .nilFunc,.v .nilFunc,.v .nilFunc,.v .nilFunc,.v .nilFunc,.v .nilFunc,.v .nilFunc,.v .nilFunc,.v .nilFunc] [(0,1,.t 45),(1,1,
 .t 47),(2,1,.t 49) ,(3,1,.t 51),(4,1,.t 53),(5,1,.t 55),(6,1,.t 57),(7,1,.t 59),(8,1,.t 61),(9,1,.t 63),(10,1,.t 65),(11,1,.t 67),(12,1,.t 69),(13,1,.t 71),(14,1,.t 73)]),zK 75 43,
 zF 76 11 75,zN (.store 15 (.t 76) (.t 74))]) (.seq (.reg [zM 77 5,zM 2 77,zO 3 (.mov (zi 0))]) .ret)))))⟩
theorem pf12_is : pfs 12 = some pf12 := by kernel_rfl
def pf15 : PF := ⟨89,[.t 4,.t 5],.seq (.reg [zO 4 (.mov (zb false)),zO 5 (.mov (zi 0))]) (.seq (.seq (.reg [zO 7 (.mov (.t 1) ),
 zB 8 .lss (.t 7) (zi 0)]) (.cond (.t 8) (.seq (.reg [zO 4 (.mov (zb false)),zO 5 (.mov (zi 2))]) .ret) .skip)) (.seq (.block 0 (.loop (.seq (.seq (.reg [zM 9 1,zB 10 .gtr (.t 9) (zi 0),
 zM 11 10,yM 12 11 true 0,yK 13 11 true 12,yF 14 11 true 9 13,yL 15 11 true 14,zG 16 11 true (.un .not (.t 15)),zP 17 11 16 false,zM 18 17,yM 19 18 true 0,yK 20 18 true 19,
 yF 21 18 true 10 20,yL 22 18 true 21,yB 23 18 true .eql (.t 22) (zi 0),
 zP 24 18 23 false]) (.cond (.t 24) .skip (.exit 0))) (.seq (.block 1 (.seq (.jr [20] [zX 6 (.alloc [.v (.int .i64 0),.v (.int .i64 0),.v (.int .i64 0),
 .v (.string (ByteArray.mk #[]))]) 19 [],zM 27 0,zX 28 (.ir (.t 27)) 1 [0],zX 29 (.gp 0 (.t 28)) 2 [1,0],zX 30 (.gp 0 (.t 29)) 3 [2,1,0],zX 31 (.load false 1 (.t 30)) 4 [3,2,1,0],
 zX 32 (.mov (.t 0)) 5 [],zX 33 (.ir (.t 32)) 6 [5],zX 34 (.gp 3 (.t 33)) 7 [6,5],zX 35 (.gp 0 (.t 34)) 8 [7,6,5],zX 36 (.load false 1 (.t 35)) 9 [8,7,6,5],
 zX 37 (.j9 1 (.t 31) (.t 36)) 10 [9,8,7,6,5,4,3,2,1,0],zX 38 (.load false 1 (.t 37)) 11 [10,9,8,7,6,5,4,3,2,1,0],zX 39 (.mov (.t 0)) 12 [],zX 40 (.ir (.t 39)) 13 [12],
 zX 41 (.gp 3 (.t 40)) 14 [13,12],zX 42 (.gp 1 (.t 41)) 15 [14,13,12],zX 43 (.load false 1 (.t 42)) 16 [15,14,13,12],zX 44 (.j9 4 (.t 38) (.t 43)) 17 [16,15,14,13,12,11,10,9,8,7,6,
 5,4,3,2,1,0],⟨some 45,none,.load true 4 (.t 44),18,[17,16,15,14,13,12,11,10,9,8,7,6,5,4,3,2,1,0] ⟩,⟨none,none,.store 4 (.t 6) (.t 45),20,[18,17,16,15,14,13,12,11,10,9,8,7,6,5,4,3,2,1,0,
 19]⟩]) (.seq (.reg [zM 46 0,zK 47 46,zF 48 3 47,zF 49 1 48,zL 50 49,zB 51 .add (.t 50) (zi 1),zK 52 46,zF 53 3 52,zF 54 1 53,zN (.store 1 (.t 54) (.t 51))]) (.seq (.reg [zM 55 0,zK 56 55,
 zF 57 8 56,zO 58 (.load false 1 (.t 57) ),zB 59 .add (.t 58) (zi 1),zK 60 55,zF 61 8 60,zN (.store 1 (.t 61) (.t 59))]) (.jr [10010,0,0] [zM 62 0,zX 63 (.mov (.t 0)) 1 [],
 zX 64 (.gp 0 (.t 6)) 2 [],zX 65 (.load false 1 (.t 64)) 3 [2],zX 66 (.ir (.t 63)) 4 [1],zX 67 (.gp 11 (.t 66)) 5 [4,1],zX 68 (.wh 15 1 (.t 67) (.t 65)) 6 [3,2,5,4,1],
 zX 69 (.load false 1 (.t 68)) 7 [6,3,2,5,4,1],zX 70 (.load true 4 (.t 6)) 8 [],zX 71 (.call (.t 69) [.t 70]) 9 [8,7,6,3,2,5,4,1],zX 72 (.ir (.t 62)) 10 [9,8,7,6,5,4,3,2,1,0],
 zX 73 (.gp 10 (.t 72)) 11 [10,9,8,7,6,5,4,3,2,1,0],⟨none,none,.store 1 (.t 73) (.t 71),12,[11,10,9,8,7,6,5,4,3,2,1,0]⟩ ]))))) (.reg [zM 25 1,zB 26 .sub (.t 25) (zi 1),
 zM 1 26]))))) (.seq (.jr [16] [zM 74 0,zX 75 (.ir (.t 74)) 1 [0],zX 76 (.gp 9 (.t 75)) 2 [1,0],zX 77 (.load false 1 (.t 76)) 3 [2,1,0],zX 78 (.mov (.t 77)) 4 [3,2,1,0],
 zY 79 78 true (.mov (.t 0)) 5 [4,3,2,1,0],zY 80 78 true (.ir (.t 79)) 6 [5,4,3,2,1,0],zY 81 78 true (.gp 10 (.t 80)) 7 [6,5,4,3,2,1,0],zY 82 78 true (.load false 1 (.t 81)) 8 [7,6,5,
 4,3,2,1,0],zY 83 78 true (.bin .eql (.t 82) (zi 0) ) 9 [8,7,6,5,4,3,2,1,0],zX 84 (.pick (.t 78) (.t 83) (zb false)) 10 [9,8,7,6,5,4,3,2,1,0],zX 85 (.mov (.t 0)) 11 [],
 zX 86 (.ir (.t 85)) 12 [11],zX 87 (.gp 10 (.t 86)) 13 [12,11],zX 88 (.load false 1 (.t 87)) 14 [13,12,11],zX 4 (.mov (.t 84)) 15 [10,9,8,7,6,5,4,3,2,1,0],zX 5 (.mov (.t 88)) 16 [15,
 10,9,8,7,6,5,4,3,2,1,0,14,13,12,11]]) .ret)))⟩
theorem pf15_is : pfs 15 = some pf15 := by kernel_rfl
def pf19 : PF := ⟨22,[.t 2],.seq (.reg [zO 1 (.box (.t 0)),zO 2 (.mov (.c (.v (.pointer none))))]) (.seq (.reg [zR 8 6 1,zC 9 23 [.t 8],zM 7 9,zE 10 7 0,zE 11 7 1,zO 3 (.alloc [.sl [] .nil,
 .sl [] .nil,.sl [] .nil]),zN (.store 3 (.t 3) (.t 10)),zM 4 11]) (.seq (.seq (.reg [zM 12 4,
 zB 13 .neq (.t 12) (zi 0)]) (.cond (.t 13) (.seq (.reg [zO 2 (.mov (.c (.v (.pointer none))))]) .ret) .skip)) (.seq (.reg [zR 15 3 3,zC 16 12 [.t 15],zM 14 16,zE 17 14 0,zE 18 14 1,zM 5 17,
 zM 6 18]) (.seq (.seq (.reg [zM 19 6,zB 20 .neq (.t 19) (zi 0)]) (.cond (.t 20) (.seq (.reg [zO 2 (.mov (.c (.v (.pointer none))))]) .ret) .skip)) (.seq (.reg [zM 21 5,zM 2 21]) .ret)))))⟩
theorem pf19_is : pfs 19 = some pf19 := by kernel_rfl
def pf22 : PF := ⟨8,[.t 2],.seq (.reg [zO 2 (.mov (zi 0))]) (.seq (.reg [zM 3 0,zK 4 3,zF 5 7 4,zL 6 5,zS 7 6,zM 2 7]) .ret)⟩
theorem pf22_is : pfs 22 = some pf22 := by kernel_rfl
def pf23 : PF := ⟨69,[.c 2 true 3,.t 3],.seq (.reg [zO 1 (.box (.t 0)),zO 2 (.alloc [.sl [] .nil,.sl [] .nil,.sl [] .nil]),
 zO 3 (.mov (.c (.v (.int .i64 0) )))]) (.seq (.seq (.reg [zR 10 6 1,zC 11 66 [.t 10],zM 4 11]) (.seq (.reg [zM 12 4,
 zB 13 .neq (.t 12) (zi 0)]) (.cond (.t 13) (.seq (.reg [zO 14 (.build [.sl [] .nil,.sl [] .nil,.sl [] .nil] []),zM 15 4,zN (.store 3 (.t 2) (.t 14)),
 zM 3 15]) .ret) .skip))) (.seq (.reg [zF 16 0 1,zL 17 16,⟨some 18,none,.build [.sl [] .nil,.sl [] .nil,.sl [] .nil] [(0,1,.t 17)],0,[] ⟩,zO 19 (.box (.t 18)),
 zO 5 (.alloc [.v (.pointer none)]),zN (.store 1 (.t 5) (.t 19))]) (.seq (.reg [zO 6 (.alloc [.sl [] .nil,.sl [] .nil,.sl [] .nil])]) (.seq (.reg [zL 20 5,zF 21 1 1,zR 22 5 21 ,
 zC 23 67 [.t 20,.t 22]]) (.seq (.seq (.reg [zF 24 0 1,zL 25 24,zS 26 25,
 zO 27 (.mov (zi 0))]) (.block 0 (.loop (.seq (.reg [zB 28 .lss (.t 27) (.t 26)]) (.seq (.cond (.t 28) .skip (.exit 0)) (.seq (.block 1 (.seq (.reg [zO 29 (.j9 6 (.t 25) (.t 27)),
 zR 30 6 29,zO 8 (.alloc [.v (.string (ByteArray.mk #[])),.v (.int .i64 0),.v (.int .i64 0),.v (.string (ByteArray.mk #[])),.sl [] .nil,.sl [] .nil]),
 zN (.store 6 (.t 8) (.t 30))]) (.seq (.reg [zF 31 1 6,zL 32 31,zF 33 0 8,zL 34 33,zO 35 (.bsl (.v (.string (ByteArray.mk #[]))) 1 [(0,1,.t 34)]),zO 36 (.app 1 none (.t 32) (.t 35)),
 zF 37 1 6,zN (.store 1 (.t 37) (.t 36))]) (.jr [6007,0,0] [zF 38 2 6,zX 39 (.load false 1 (.t 38)) 1 [0],zX 40 (.load false 1 (.t 5)) 2 [],zX 41 (.gp 1 (.t 8)) 3 [],
 zX 42 (.load true 5 (.t 41)) 4 [3],zX 43 (.call (.c (.fn 67 [])) [.t 40,.t 42] ) 5 [4,3,2],zX 44 (.bsl (.v (.int .i64 0)) 1 [(0,1,.t 43)]) 6 [5,4,3,2],
 zX 45 (.app 1 none (.t 39) (.t 44)) 7 [6,5,4,3,2,1,0],zX 46 (.gp 2 (.t 6) ) 8 [7,6,5,4,3,2,1,0],⟨none,none,.store 1 (.t 46) (.t 45),9,[8,7,6,5,4,3,2,1,
 0]⟩])))) (.reg [zB 47 .add (.t 27) (zi 1),zM 27 47]))))))) (.seq (.seq (.reg [zL 48 5,zC 49 68 [.t 48]]) (.block 2 (.xg itF (.t 49) [50] (.reg [zO 9 (.alloc [.v (.int .i64 0),
 .v (.int .i64 0),.v (.string (ByteArray.mk #[])),.sl [] .nil,.sl [] .nil]),zN (.store 5 (.t 9) (.t 50))]) (.block 3 (.seq (.reg [zL 51 5,zK 52 51,zF 53 2 52,
 zN (.store 1 (.t 53) (.c (.sl [] .nil)))]) (.seq (.reg [zL 54 5,zR 55 5 9,zC 56 69 [.t 54,.t 55]]) (.seq (.reg [zL 57 5,zC 58 70 [.t 57,.c (.v (.int .i64 3)),.c (.v (.int .i64 0)),
 .c (.v (.int .i64 0)),.c (.v (.string (ByteArray.mk #[])))]]) (.jr [7,0,0] [zF 59 0 6,zX 60 (.load false 1 (.t 59)) 1 [0],zX 61 (.load false 1 (.t 5)) 2 [],zX 62 (.ir (.t 61)) 3 [2],
 zX 63 (.gp 2 (.t 62)) 4 [3,2],zX 64 (.load false 1 (.t 63)) 5 [4,3,2],zX 65 (.bsl (.sl [] .nil) 1 [(0,1,.t 64)]) 6 [5,4,3,2],zX 66 (.app 1 none (.t 60) (.t 65)) 7 [6,5,4,3,2,1,0],
 zX 67 (.gp 0 (.t 6)) 8 [7,6,5,4,3,2,1,0],⟨none,none,.store 1 (.t 67) (.t 66),9,[8,7,6,5,4,3,2,1,0]⟩])))))))) (.seq (.reg [zR 68 3 6,zN (.store 3 (.t 2) (.t 68)),
 zO 3 (.mov (zi 0))]) .ret)))))))⟩
theorem pf23_is : pfs 23 = some pf23 := by kernel_rfl
def pf24 : PF := ⟨5,[.c 2 true 5],.seq (.reg [zO 2 (.alloc [.v (.int .i64 0),.v (.int .i64 0),.v (.string (ByteArray.mk #[])),.sl [] .nil,.sl [] .nil])]) (.seq (.reg [zM 3 0,
 zO 4 (.build [.v (.int .i64 0),.v (.int .i64 0),.v (.string (ByteArray.mk #[])),.sl [] .nil,.sl [] .nil] [(1,1,.t 3)] ),zN (.store 5 (.t 2) (.t 4))]) .ret)⟩
theorem pf24_is : pfs 24 = some pf24 := by kernel_rfl
def pf25 : PF := ⟨9,[.c 4 true 5],.seq (.reg [zO 2 (.box (.t 0)),zO 3 (.box (.t 1)),zO 4 (.alloc [.v (.int .i64 0),.v (.int .i64 0),.v (.string (ByteArray.mk #[])),.sl [] .nil,
 .sl [] .nil])]) (.seq (.reg [zR 5 5 2,zR 6 5 3,zO 7 (.bsl (.agg [.v (.int .i64 0),.v (.int .i64 0),.v (.string (ByteArray.mk #[])),.sl [] .nil,.sl [] .nil]) 2 [(0,5,.t 5),(5,5,.t 6)]),
 zO 8 (.build [.v (.int .i64 0),.v (.int .i64 0),.v (.string (ByteArray.mk #[])),.sl [] .nil,.sl [] .nil] [(0,1,.c (.v (.int .i64 2))),(4,1,.t 7)]),zN (.store 5 (.t 4) (.t 8))]) .ret)⟩
theorem pf25_is : pfs 25 = some pf25 := by kernel_rfl
def pf26 : PF := ⟨6,[.c 2 true 5],.seq (.reg [zO 1 (.box (.t 0)),zO 2 (.alloc [.v (.int .i64 0),.v (.int .i64 0),.v (.string (ByteArray.mk #[])),.sl [] .nil,
 .sl [] .nil])]) (.seq (.reg [zR 3 5 1,zO 4 (.bsl (.agg [.v (.int .i64 0),.v (.int .i64 0),.v (.string (ByteArray.mk #[])),.sl [] .nil,.sl [] .nil]) 1 [(0,5,.t 3)]),
 zO 5 (.build [.v (.int .i64 0),.v (.int .i64 0),.v (.string (ByteArray.mk #[])),.sl [] .nil,.sl [] .nil] [(0,1,.c (.v (.int .i64 1))),(4,1,.t 4)]),zN (.store 5 (.t 2) (.t 5))]) .ret)⟩
theorem pf26_is : pfs 26 = some pf26 := by kernel_rfl
def pf27 : PF := ⟨15,[.c 2 true 5],.seq (.reg [zO 2 (.alloc [.v (.int .i64 0),.v (.int .i64 0),.v (.string (ByteArray.mk #[])),.sl [] .nil,.sl [] .nil])]) (.seq (.reg [zC 5 36 [],
 zO 3 (.alloc [.v (.int .i64 0),.v (.int .i64 0),.v (.string (ByteArray.mk #[])),.sl [] .nil,.sl [] .nil]),
 zN (.store 5 (.t 3) (.t 5))]) (.seq (.seq (.reg [zO 4 (.mov (zi 0))]) (.block 0 (.loop (.seq (.seq (.reg [zM 6 4,zM 7 0,
 zB 8 .lss (.t 6) (.t 7)]) (.cond (.t 8) .skip (.exit 0))) (.seq (.block 1 (.reg [zR 11 5 3,zO 12 (.bsl (.agg [.v (.int .i64 0),.v (.int .i64 0),.v (.string (ByteArray.mk #[])),.sl [] .nil,
 .sl [] .nil]) 1 [(0,5,.t 11)]),zO 13 (.build [.v (.int .i64 0),.v (.int .i64 0),.v (.string (ByteArray.mk #[])),.sl [] .nil,.sl [] .nil] [(0,1,.c (.v (.int .i64 3))),(1,1,
 .c (.v (.int .i64 1))) ,(2,1,.c (.v (.string (ByteArray.mk #[115,117,99,99])))),(4,1,.t 12)]),zN (.store 5 (.t 3) (.t 13))])) (.reg [zM 9 4,zB 10 .add (.t 9) (zi 1),
 zM 4 10])))))) (.seq (.reg [zR 14 5 3,zN (.store 5 (.t 2) (.t 14))]) .ret)))⟩
theorem pf27_is : pfs 27 = some pf27 := by kernel_rfl
def pf28 : PF := ⟨52,[.c 2 true 2,.t 3],.seq (.reg [zO 2 (.alloc [.v (.string (ByteArray.mk #[])),.sl [] .nil]),zO 3 (.mov (zi 0))]) (.seq (.seq (.reg [zM 6 0,zK 7 6,zF 8 9 7,zL 9 8,
 zO 10 (.un .not (.t 9)),zM 11 10,yM 12 11 false 0,yK 13 11 false 12,yF 14 11 false 10 13,yL 15 11 false 14,yB 16 11 false .neq (.t 15) (zi 0),zQ 17 11 true 16,zM 18 17,yM 19 18 false 0,
 yK 20 18 false 19,yF 21 18 false 6 20,yL 22 18 false 21,zG 23 18 false (.qw (.t 22)),yB 24 18 false .eql (.t 23) (zi 0),
 zQ 25 18 true 24]) (.cond (.t 25) (.seq (.reg [zO 26 (.build [.v (.string (ByteArray.mk #[])),.sl [] .nil] []),zN (.store 2 (.t 2) (.t 26)),
 zO 3 (.mov (zi 27))]) .ret) .skip)) (.seq (.jr [10,0,0] [zM 27 0,zX 28 (.ir (.t 27)) 1 [0],zX 29 (.gp 6 (.t 28)) 2 [1,0],zX 30 (.load false 1 (.t 29)) 3 [2,1,0],
 zX 31 (.mov (.t 0)) 4 [],zX 32 (.ir (.t 31)) 5 [4],zX 33 (.gp 6 (.t 32)) 6 [5,4],zX 34 (.load false 1 (.t 33)) 7 [6,5,4],zX 35 (.qw (.t 34)) 8 [7,6,5,4],
 zX 36 (.bin .sub (.t 35) (zi 1) ) 9 [8,7,6,5,4],zX 37 (.j9 1 (.t 30) (.t 36)) 10 [9,8,7,6,5,4,3,2,1,0],zX 38 (.load false 1 (.t 37)) 11 [10,9,8,7,6,5,4,3,2,1,0],
 zX 4 (.mov (.t 38)) 12 [11,10,9,8,7,6,5,4,3,2,1,0]]) (.seq (.seq (.reg [zM 39 4,zO 40 (.qj),zC 41 71 [.t 39,.t 40],zM 5 41]) (.block 0 (.seq (.reg [zM 43 5,zB 44 .lss (.t 43) (zi 0),
 zM 42 44]) (.cond (.t 42) (.seq (.reg [zO 45 (.build [.v (.string (ByteArray.mk #[])),.sl [] .nil] []),zN (.store 2 (.t 2) (.t 45)),zO 3 (.mov (zi 10))]) .ret) (.seq (.reg [zM 47 5,
 zB 48 .gtr (.t 47) (zi 4096),zM 46 48]) (.cond (.t 46) (.seq (.reg [zO 49 (.build [.v (.string (ByteArray.mk #[])),.sl [] .nil] []),zN (.store 2 (.t 2) (.t 49)),
 zO 3 (.mov (zi 5))]) .ret) .skip)))))) (.seq (.reg [zM 50 4,zC 51 72 [.t 50],zN (.store 2 (.t 2) (.t 51)),zO 3 (.mov (zi 0))]) .ret))))⟩
theorem pf28_is : pfs 28 = some pf28 := by kernel_rfl
def pf36 : PF := ⟨2,[.c 0 true 5],.seq (.reg [zO 0 (.alloc [.v (.int .i64 0),.v (.int .i64 0),.v (.string (ByteArray.mk #[])),.sl [] .nil,
 .sl [] .nil])]) (.seq (.reg [zO 1 (.build [.v (.int .i64 0),.v (.int .i64 0),.v (.string (ByteArray.mk #[])),.sl [] .nil,.sl [] .nil] [(0,1,.c (.v (.int .i64 3))),(2,1,
 .c (.v (.string (ByteArray.mk #[122,101,114,111]))))]),zN (.store 5 (.t 0) (.t 1))]) .ret)⟩
theorem pf36_is : pfs 36 = some pf36 := by kernel_rfl
def pf38 : PF := ⟨54,[.t 2],.seq (.reg [zO 1 (.box (.t 0)),zO 2 (.mov (zi 0))]) (.seq (.seq (.reg [zR 9 3 1,zC 10 87 [.t 9],zM 3 10]) (.seq (.reg [zM 11 3,
 zB 12 .neq (.t 11) (zi 0)]) (.cond (.t 12) (.seq (.reg [zM 13 3,zM 2 13]) .ret) .skip))) (.seq (.jr [6006,0,0] [zR 14 3 1,zX 15 (.bsl (.v (.int .i64 0)) 1 [(0,1,
 .c (.v (.int .i64 (-1))))]) 1 [],zX 16 (.gp 0 (.t 1)) 2 [],zX 17 (.load false 1 (.t 16)) 3 [2],zX 18 (.qw (.t 17)) 4 [3,2],zX 19 (.call (.c (.fn 88 [])) [.t 15,.t 18]) 5 [4,3,2,1],
 zX 20 (.build [.sl [] .nil,.sl [] .nil,.sl [] .nil,.sl [] .nil] [(0,3,.t 14),(3,1,.t 19)]) 6 [5,4,3,2,1,0],zX 21 (.box (.t 20)) 7 [6,5,4,3,2,1,0],zX 4 (.mov (.t 21)) 8 [7,6,5,4,3,2,1,
 0]]) (.seq (.reg [zM 22 4,zK 23 22,zF 24 3 23,zL 25 24,zO 26 (.j9 1 (.t 25) (zi 0)),zN (.store 1 (.t 26) (zi 0))]) (.seq (.seq (.reg [zO 27 (.gp 2 (.t 1) ),zL 28 27,zS 29 28,
 zO 30 (.mov (zi 0))]) (.block 0 (.loop (.seq (.reg [zB 31 .lss (.t 30) (.t 29)]) (.seq (.cond (.t 31) .skip (.exit 0)) (.seq (.block 1 (.seq (.reg [zO 32 (.j9 1 (.t 28) (.t 30)),
 zL 33 32,zM 6 33]) (.reg [zM 34 4,zK 35 34,zF 36 3 35,zL 37 36,zM 38 6,zO 39 (.j9 1 (.t 37) (.t 38)),zN (.store 1 (.t 39) (zi 0))]))) (.reg [zB 40 .add (.t 30) (zi 1),
 zM 30 40]))))))) (.seq (.seq (.reg [zF 41 0 1,zL 42 41,zS 43 42,
 zO 44 (.mov (zi 0))]) (.block 2 (.loop (.seq (.reg [zB 45 .lss (.t 44) (.t 43)]) (.seq (.cond (.t 45) .skip (.exit 2)) (.seq (.block 3 (.seq (.reg [zM 46 44,zM 7 46]) (.seq (.reg [zM 47 4,
 zM 48 7,zC 49 89 [.t 47,.t 48],zM 8 49]) (.seq (.reg [zM 50 8,zB 51 .neq (.t 50) (zi 0)]) (.cond (.t 51) (.seq (.reg [zM 52 8,zM 2 52]) .ret) .skip))))) (.reg [zB 53 .add (.t 44) (zi 1),
 zM 44 53]))))))) (.seq (.reg [zO 2 (.mov (zi 0))]) .ret))))))⟩
theorem pf38_is : pfs 38 = some pf38 := by kernel_rfl
def pf42 : PF := ⟨26,[.t 4],.seq (.reg [zO 3 (.box (.t 1)),zO 4 (.mov (zi 0))]) (.seq (.reg [zM 6 0,zK 7 6,zF 8 3 7,zF 9 2 8,zL 10 9,zM 5 10]) (.seq (.seq (.reg [zF 11 1 3,zL 12 11,
 zO 13 (.mov (zi 0))]) (.block 0 (.loop (.seq (.reg [zB 14 .lss (.t 13) (.t 12)]) (.seq (.cond (.t 14) .skip (.exit 0)) (.seq (.block 1 (.reg [zM 15 5,zK 16 15,zF 17 1 16,zL 18 17,
 zM 5 18])) (.reg [zB 19 .add (.t 13) (zi 1),zM 13 19]))))))) (.seq (.reg [zM 20 0,⟨some 21,none,.mov (.t 5),0,[] ⟩,zK 22 21,zF 23 0 22,zL 24 23,zC 25 90 [.t 20,.t 24],zM 4 25]) .ret)))⟩
theorem pf42_is : pfs 42 = some pf42 := by kernel_rfl
def pf43 : PF := ⟨16,[.t 4],.seq (.reg [zO 3 (.box (.t 1)),zO 4 (.mov (zi 0))]) (.seq (.jr [1002010,0] [zM 5 0,zX 6 (.gp 1 (.t 3)) 1 [],zX 7 (.load false 1 (.t 6)) 2 [1],
 zX 8 (.mov (.t 0)) 3 [],zX 9 (.ir (.t 8)) 4 [3],zX 10 (.gp 3 (.t 9)) 5 [4,3],zX 11 (.gp 2 (.t 10)) 6 [5,4,3],zX 12 (.load false 1 (.t 11)) 7 [6,5,4,3],
 zX 13 (.build [.v (.int .i64 0),.v (.int .i64 0),.v (.string (ByteArray.mk #[])),.v (.pointer none),.sl [] .nil] [(0,1,.c (.v (.int .i64 1))),(1,1,.t 7),(3,1,.t 12)]) 8 [7,6,5,4,3,2,1],
 zX 14 (.box (.t 13)) 9 [8,7,6,5,4,3,2,1],zX 15 (.call (.c (.fn 90 [])) [.t 5,.t 14]) 10 [9,8,7,6,5,4,3,2,1,0],zX 4 (.mov (.t 15)) 11 [10,9,8,7,6,5,4,3,2,1,0]]) .ret)⟩
theorem pf43_is : pfs 43 = some pf43 := by kernel_rfl
def pf44 : PF := ⟨35,[.t 4],.seq (.reg [zO 3 (.box (.t 1)),zO 4 (.mov (zi 0))]) (.seq (.reg [zM 7 0,zC 8 91 [.t 7],zM 9 0,zC 10 91 [.t 9],zM 5 8,zM 6 10]) (.seq (.seq (.reg [zM 11 6,
 zK 12 11,zF 13 0 12,zL 14 13]) (.block 0 (.seq (.reg [zB 16 .eql (.t 14) (zi 0),zM 15 16]) (.cond (.t 15) (.seq (.reg [zM 17 0,zM 18 6,zC 19 90 [.t 17,.t 18],
 zM 4 19]) .ret) (.seq (.reg [zB 21 .eql (.t 14) (zi 1),zM 20 21]) (.cond (.t 20) (.seq (.jr [12012,0] [zM 22 0,zX 23 (.mov (.t 6)) 1 [],zX 24 (.ir (.t 23)) 2 [1],
 zX 25 (.gp 1 (.t 24)) 3 [2,1],zX 26 (.load false 1 (.t 25)) 4 [3,2,1],zX 27 (.mov (.t 6)) 5 [],zX 28 (.ir (.t 27)) 6 [5],zX 29 (.gp 3 (.t 28)) 7 [6,5],
 zX 30 (.load false 1 (.t 29)) 8 [7,6,5],zX 31 (.mov (.t 5)) 9 [],zX 32 (.bsl (.v (.pointer none)) 1 [(0,1,.t 31)]) 10 [9],zX 33 (.call (.c (.fn 93 [])) [.t 30,.t 32]) 11 [10,9,8,7,6,5],
 zX 34 (.call (.c (.fn 92 [])) [.t 22,.t 26,.t 33]) 12 [11,10,9,8,7,6,5,4,3,2,1,0],zX 4 (.mov (.t 34)) 13 [12,11,10,9,8,7,6,5,4,3,2,1,
 0]]) .ret) .skip)))))) (.seq (.reg [zO 4 (.mov (zi 10))]) .ret)))⟩
theorem pf44_is : pfs 44 = some pf44 := by kernel_rfl
def pf45 : PF := ⟨48,[.t 4],.seq (.reg [zO 3 (.box (.t 1)),zO 4 (.mov (zi 0))]) (.seq (.reg [zM 6 0,zK 7 6,zF 8 7 7,zL 9 8,zS 10 9,zB 11 .sub (.t 10) (zi 1),
 zM 5 11]) (.seq (.seq (.reg [zM 12 5,zO 13 (.bin .lss (.t 12) (.c (.v (.int .i64 0) )))]) (.cond (.t 13) (.seq (.reg [zM 14 0,zK 15 14,zF 16 9 15,
 zN (.store 1 (.t 16) (zb true))]) (.seq (.reg [zO 4 (.mov (zi 0))]) .ret)) .skip)) (.seq (.reg [⟨some 17,none,.mov (.t 0),0,[] ⟩,zM 18 0,zK 19 18,zF 20 7 19,zL 21 20,zM 22 5,
 zO 23 (.j9 3 (.t 21) (.t 22)),zR 24 3 23,zK 25 17,zO 26 (.gp 3 (.t 25) ),zN (.store 3 (.t 26) (.t 24))]) (.seq (.reg [zM 27 0,zK 28 27,zF 29 7 28,zL 30 29,zM 31 5,
 zO 32 (.build [.v (.int .i64 0),.v (.int .i64 0),.v (.pointer none)] []),zO 33 (.j9 3 (.t 30) (.t 31)),zN (.store 3 (.t 33) (.t 32))]) (.seq (.jr [12,0,0] [zM 34 0,
 zX 35 (.mov (.t 0)) 1 [],zX 36 (.ir (.t 35)) 2 [1],zX 37 (.gp 7 (.t 36)) 3 [2,1],zX 38 (.load false 1 (.t 37)) 4 [3,2,1],zX 39 (.mov (.t 5)) 5 [],zX 40 (.mov (.t 0)) 6 [],
 zX 41 (.ir (.t 40)) 7 [6],zX 42 (.gp 7 (.t 41)) 8 [7,6],zX 43 (.load false 1 (.t 42)) 9 [8,7,6],zX 44 (.Lm (.t 43)) 10 [9,8,7,6],
 zX 45 (.slice 3 (.t 38) none (some (.t 39)) (some (.t 44))) 11 [10,9,8,7,6,5,4,3,2,1],zX 46 (.ir (.t 34)) 12 [11,10,9,8,7,6,5,4,3,2,1,0],zX 47 (.gp 7 (.t 46)) 13 [12,11,10,9,8,7,6,5,
 4,3,2,1,0],⟨none,none,.store 1 (.t 47) (.t 45),14,[13,12,11,10,9,8,7,6,5,4,3,2,1,0]⟩]) (.seq (.reg [zO 4 (.mov (zi 0))]) .ret))))))⟩
theorem pf45_is : pfs 45 = some pf45 := by kernel_rfl
def pf46 : PF := ⟨40,[.t 4],.seq (.reg [zO 3 (.box (.t 1)),zO 4 (.mov (zi 0))]) (.seq (.jr [7,0] [zM 7 0,zX 8 (.ir (.t 7)) 1 [0],zX 9 (.gp 6 (.t 8)) 2 [1,0],
 zX 10 (.load false 1 (.t 9)) 3 [2,1,0],zX 11 (.qw (.t 10)) 4 [3,2,1,0],zX 12 (.gp 2 (.t 3)) 5 [],zX 13 (.load false 1 (.t 12)) 6 [5],zX 14 (.bin .sub (.t 11) (.t 13)) 7 [6,5,4,3,2,1,
 0],⟨some 5,none,.mov (.t 14),8,[7,6,5,4,3,2,1,0] ⟩]) (.seq (.jr [11011,0,0] [zF 15 1 3,zX 16 (.load false 1 (.t 15)) 1 [0],zX 17 (.gp 3 (.t 3)) 2 [],
 zX 18 (.load false 1 (.t 17)) 3 [2],zX 19 (.mov (.t 0)) 4 [],zX 20 (.ir (.t 19)) 5 [4],zX 21 (.gp 6 (.t 20)) 6 [5,4],zX 22 (.load false 1 (.t 21)) 7 [6,5,4],zX 23 (.mov (.t 5)) 8 [],
 zX 24 (.slice 1 (.t 22) (some (.t 23)) none none) 9 [8,7,6,5,4],zX 25 (.clone 1 false false (.t 24)) 10 [9,8,7,6,5,4],zX 26 (.build [.v (.int .i64 0),.v (.int .i64 0),
 .v (.string (ByteArray.mk #[])),.v (.pointer none),.sl [] .nil] [(0,1,.c (.v (.int .i64 2))),(1,1,.t 16),(2,1,.t 18),(4,1,.t 25)]) 11 [10,9,8,7,6,5,4,3,2,1,0],zX 27 (.box (.t 26)) 12 [11,
 10,9,8,7,6,5,4,3,2,1,0],zX 6 (.mov (.t 27)) 13 [12,11,10,9,8,7,6,5,4,3,2,1,0]]) (.seq (.reg [zM 28 0,zM 29 0,zK 30 29,zF 31 6 30,zL 32 31,zM 33 5,
 zO 34 (.slice 1 (.t 32) none (some (.t 33)) none),zK 35 28,zF 36 6 35,zN (.store 1 (.t 36) (.t 34))]) (.seq (.reg [zM 37 0,zM 38 6,zC 39 90 [.t 37,.t 38],zM 4 39]) .ret))))⟩
theorem pf46_is : pfs 46 = some pf46 := by kernel_rfl
def pf47 : PF := ⟨96,[.t 4],.seq (.reg [zO 3 (.box (.t 1)),zO 4 (.mov (zi 0))]) (.seq (.jr [25,0] [zM 7 0,zX 8 (.ir (.t 7)) 1 [0],zX 9 (.gp 0 (.t 8)) 2 [1,0],
 zX 10 (.gp 0 (.t 9)) 3 [2,1,0],zX 11 (.load false 1 (.t 10)) 4 [3,2,1,0],zX 12 (.mov (.t 0)) 5 [],zX 13 (.ir (.t 12)) 6 [5],zX 14 (.gp 3 (.t 13)) 7 [6,5],
 zX 15 (.gp 0 (.t 14)) 8 [7,6,5],zX 16 (.load false 1 (.t 15)) 9 [8,7,6,5],zX 17 (.j9 1 (.t 11) (.t 16)) 10 [9,8,7,6,5,4,3,2,1,0],zX 18 (.load false 1 (.t 17)) 11 [10,9,8,7,6,5,4,3,2,
 1,0],zX 19 (.mov (.t 0)) 12 [],zX 20 (.ir (.t 19)) 13 [12],zX 21 (.gp 3 (.t 20)) 14 [13,12],zX 22 (.gp 1 (.t 21)) 15 [14,13,12],zX 23 (.load false 1 (.t 22)) 16 [15,14,13,12],
 zX 24 (.mov (.t 0)) 17 [],zX 25 (.ir (.t 24)) 18 [17],zX 26 (.gp 3 (.t 25)) 19 [18,17],zX 27 (.gp 1 (.t 26)) 20 [19,18,17],zX 28 (.load false 1 (.t 27)) 21 [20,19,18,17],
 zX 29 (.gp 1 (.t 3)) 22 [],zX 30 (.load false 1 (.t 29)) 23 [22],zX 31 (.bin .add (.t 28) (.t 30)) 24 [23,22,21,20,19,18,17],
 zX 32 (.slice 4 (.t 18) (some (.t 23)) (some (.t 31)) none) 25 [24,23,22,21,20,19,18,17,16,15,14,13,12,11,10,9,8,7,6,5,4,3,2,1,0],zX 5 (.mov (.t 32)) 26 [25,24,23,22,21,20,19,18,17,16,15,
 14,13,12,11,10,9,8,7,6,5,4,3,2,1,0]]) (.seq (.reg [zM 33 0,zC 34 91 [.t 33],zM 6 34]) (.seq (.seq (.jr [0,0,0,0,0,0,6,0,0,13,0] [zM 35 6,zX 36 (.ir (.t 35)) 1 [0],
 zX 37 (.gp 0 (.t 36)) 2 [1,0],zX 38 (.load false 1 (.t 37)) 3 [2,1,0],zX 39 (.bin .neq (.t 38) (zi 2)) 4 [3,2,1,0],zX 40 (.mov (.t 39)) 5 [4,3,2,1,0],zY 41 40 false (.mov (.t 6)) 6 [5,4,
 3,2,1,0],zY 42 40 false (.ir (.t 41)) 7 [6,5,4,3,2,1,0],zY 43 40 false (.gp 1 (.t 42)) 8 [7,6,5,4,3,2,1,0],zY 44 40 false (.load false 1 (.t 43)) 9 [8,7,6,5,4,3,2,1,0],
 zY 45 40 false (.mov (.t 5)) 10 [5,4,3,2,1,0],zY 46 40 false (.qw (.t 45)) 11 [10,5,4,3,2,1,0],zY 47 40 false (.bin .geq (.t 44) (.t 46)) 12 [11,10,9,8,7,6,5,4,3,2,1,0],
 zX 48 (.pick (.t 40) (zb true) (.t 47)) 13 [12,11,10,9,8,7,6,5,4,3,2,1,0],zX 49 (.mov (.t 48)) 14 [13,12,11,10,9,8,7,6,5,4,3,2,1,0],zY 50 49 false (.mov (.t 5)) 15 [14,13,12,11,10,9,8,7,6,
 5,4,3,2,1,0],zY 51 49 false (.mov (.t 6)) 16 [14,13,12,11,10,9,8,7,6,5,4,3,2,1,0],zY 52 49 false (.ir (.t 51)) 17 [16,14,13,12,11,10,9,8,7,6,5,4,3,2,1,0],
 zY 53 49 false (.gp 1 (.t 52)) 18 [17,16,14,13,12,11,10,9,8,7,6,5,4,3,2,1,0],zY 54 49 false (.load false 1 (.t 53)) 19 [18,17,16,14,13,12,11,10,9,8,7,6,5,4,3,2,1,0],
 zY 55 49 false (.j9 4 (.t 50) (.t 54)) 20 [19,18,17,16,15,14,13,12,11,10,9,8,7,6,5,4,3,2,1,0],zY 56 49 false (.gp 2 (.t 55)) 21 [20,19,18,17,16,15,14,13,12,11,10,9,8,7,6,5,4,3,2,1,0],
 zY 57 49 false (.load false 1 (.t 56)) 22 [21,20,19,18,17,16,15,14,13,12,11,10,9,8,7,6,5,4,3,2,1,0],zY 58 49 false (.mov (.t 6)) 23 [14,13,12,11,10,9,8,7,6,5,4,3,2,1,0],
 zY 59 49 false (.ir (.t 58)) 24 [23,14,13,12,11,10,9,8,7,6,5,4,3,2,1,0],zY 60 49 false (.gp 4 (.t 59)) 25 [24,23,14,13,12,11,10,9,8,7,6,5,4,3,2,1,0],
 zY 61 49 false (.load false 1 (.t 60)) 26 [25,24,23,14,13,12,11,10,9,8,7,6,5,4,3,2,1,0],zY 62 49 false (.qw (.t 61)) 27 [26,25,24,23,14,13,12,11,10,9,8,7,6,5,4,3,2,1,0],
 zY 63 49 false (.bin .neq (.t 57) (.t 62)) 28 [27,26,25,24,23,22,21,20,19,18,17,16,15,14,13,12,11,10,9,8,7,6,5,4,3,2,1,0],zX 64 (.pick (.t 49) (zb true) (.t 63)) 29 [28,27,26,25,24,23,22,
 21,20,19,18,17,16,15,14,13,12,11,10,9,8,7,6,5,4,3,2,1,0]]) (.cond (.t 64) (.seq (.reg [zO 4 (.mov (zi 10))]) .ret) .skip)) (.seq (.jr [7,0,0,0,0] [zM 65 0,zX 66 (.ir (.t 65)) 1 [0],
 zX 67 (.gp 3 (.t 66)) 2 [1,0],zX 68 (.gp 1 (.t 67)) 3 [2,1,0],zX 69 (.load false 1 (.t 68)) 4 [3,2,1,0],zX 70 (.gp 1 (.t 3)) 5 [],zX 71 (.load false 1 (.t 70)) 6 [5],
 zX 72 (.bin .add (.t 69) (.t 71)) 7 [6,5,4,3,2,1,0],zX 73 (.ir (.t 65)) 8 [7,6,5,4,3,2,1,0],zX 74 (.gp 3 (.t 73)) 9 [8,7,6,5,4,3,2,1,0],zX 75 (.gp 1 (.t 74)) 10 [9,8,7,6,5,4,3,2,1,
 0],⟨none,none,.store 1 (.t 75) (.t 72),11,[10,9,8,7,6,5,4,3,2,1,0]⟩]) (.seq (.jr [19019,0] [zM 76 0,zX 77 (.mov (.t 5)) 1 [],zX 78 (.mov (.t 6)) 2 [],zX 79 (.ir (.t 78)) 3 [2],
 zX 80 (.gp 1 (.t 79)) 4 [3,2],zX 81 (.load false 1 (.t 80)) 5 [4,3,2],zX 82 (.j9 4 (.t 77) (.t 81)) 6 [5,4,3,2,1],zX 83 (.gp 1 (.t 82)) 7 [6,5,4,3,2,1],
 zX 84 (.load false 1 (.t 83)) 8 [7,6,5,4,3,2,1],zX 85 (.mov (.t 0)) 9 [],zX 86 (.ir (.t 85)) 10 [9],zX 87 (.gp 3 (.t 86)) 11 [10,9],zX 88 (.gp 2 (.t 87)) 12 [11,10,9],
 zX 89 (.load false 1 (.t 88)) 13 [12,11,10,9],zX 90 (.mov (.t 6)) 14 [],zX 91 (.ir (.t 90)) 15 [14],zX 92 (.gp 4 (.t 91)) 16 [15,14],zX 93 (.load false 1 (.t 92)) 17 [16,15,14],
 zX 94 (.call (.c (.fn 93 [])) [.t 89,.t 93]) 18 [17,16,15,14,13,12,11,10,9],zX 95 (.call (.c (.fn 92 [])) [.t 76,.t 84,.t 94]) 19 [18,17,16,15,14,13,12,11,10,9,8,7,6,5,4,3,2,1,0],
 zX 4 (.mov (.t 95)) 20 [19,18,17,16,15,14,13,12,11,10,9,8,7,6,5,4,3,2,1,0]]) .ret)))))⟩
theorem pf47_is : pfs 47 = some pf47 := by kernel_rfl
def pf49 : PF := ⟨16,[.t 4],.seq (.reg [zO 3 (.box (.t 1)),zO 4 (.mov (zi 0))]) (.seq (.jr [10,0] [zM 5 0,zX 6 (.mov (.t 0)) 1 [],zX 7 (.ir (.t 6)) 2 [1],zX 8 (.gp 0 (.t 7)) 3 [2,1],
 zX 9 (.gp 2 (.t 8)) 4 [3,2,1],zX 10 (.load false 1 (.t 9)) 5 [4,3,2,1],zX 11 (.gp 1 (.t 3)) 6 [],zX 12 (.load false 1 (.t 11)) 7 [6],zX 13 (.j9 1 (.t 10) (.t 12)) 8 [7,6,5,4,3,2,
 1],zX 14 (.load false 1 (.t 13)) 9 [8,7,6,5,4,3,2,1],zX 15 (.call (.c (.fn 92 [])) [.t 5,.t 14,.c (.v (.pointer none))]) 10 [9,8,7,6,5,4,3,2,1,0],zX 4 (.mov (.t 15)) 11 [10,9,8,7,6,5,4,3,2,
 1,0]]) .ret)⟩
theorem pf49_is : pfs 49 = some pf49 := by kernel_rfl
def pf50 : PF := ⟨9,[.t 4],.seq (.reg [zO 3 (.box (.t 1)),zO 4 (.mov (zi 0))]) (.seq (.reg [zM 5 0,zO 6 (.build [.v (.int .i64 0),.v (.int .i64 0),.v (.string (ByteArray.mk #[])),
 .v (.pointer none),.sl [] .nil] []),zO 7 (.box (.t 6)),zC 8 90 [.t 5,.t 7],zM 4 8]) .ret)⟩
theorem pf50_is : pfs 50 = some pf50 := by kernel_rfl
def pf51 : PF := ⟨18,[.t 4],.seq (.reg [zO 3 (.box (.t 1)),zO 4 (.mov (zi 0))]) (.seq (.jr [9000000,7008,0,0,0,0] [zM 5 0,zM 6 0,zX 7 (.ir (.t 6)) 1 [0],zX 8 (.gp 3 (.t 7)) 2 [1,0],
 zX 9 (.gp 2 (.t 8)) 3 [2,1,0],zX 10 (.load false 1 (.t 9)) 4 [3,2,1,0],zX 11 (.mov (.t 0)) 5 [],zX 12 (.call (.c (.fn 91 [])) [.t 11]) 6 [5],zX 13 (.bsl (.v (.pointer none)) 1 [(0,1,
 .t 12)]) 7 [6,5],zX 14 (.call (.c (.fn 93 [])) [.t 10,.t 13]) 8 [7,6,5,4,3,2,1,0],zX 15 (.ir (.t 5)) 9 [8,7,6,5,4,3,2,1,0],zX 16 (.gp 3 (.t 15)) 10 [9,8,7,6,5,4,3,2,1,0],
 zX 17 (.gp 2 (.t 16)) 11 [10,9,8,7,6,5,4,3,2,1,0],⟨none,none,.store 1 (.t 17) (.t 14),12,[11,10,9,8,7,6,5,4,3,2,1,0] ⟩]) (.seq (.reg [zO 4 (.mov (zi 0))]) .ret))⟩
theorem pf51_is : pfs 51 = some pf51 := by kernel_rfl
def pf52 : PF := ⟨17,[.t 4],.seq (.reg [zO 3 (.box (.t 1)),zO 4 (.mov (zi 0))]) (.seq (.reg [zM 5 0,zM 6 0,zK 7 6,zF 8 3 7,zF 9 2 8,zL 10 9,zK 11 10,zF 12 1 11,zL 13 12,zK 14 5,zF 15 3 14,
 zF 16 2 15,zN (.store 1 (.t 16) (.t 13))]) (.seq (.reg [zO 4 (.mov (zi 0))]) .ret))⟩
theorem pf52_is : pfs 52 = some pf52 := by kernel_rfl
def pf53 : PF := ⟨18,[.t 4],.seq (.reg [zO 3 (.box (.t 1)),zO 4 (.mov (zi 0))]) (.seq (.reg [zM 7 0,zC 8 91 [.t 7],zM 9 0,zC 10 91 [.t 9],zM 5 8,zM 6 10]) (.seq (.reg [zM 11 0,zM 12 6,
 zM 13 5,zO 14 (.bsl (.v (.pointer none)) 2 [(0,1,.t 12),(1,1,.t 13)]),zO 15 (.build [.v (.int .i64 0),.v (.int .i64 0),.v (.string (ByteArray.mk #[])),.v (.pointer none),.sl [] .nil] [(0,1,
 .c (.v (.int .i64 3))),(4,1,.t 14)]),zO 16 (.box (.t 15)),zC 17 90 [.t 11,.t 16],zM 4 17]) .ret))⟩
theorem pf53_is : pfs 53 = some pf53 := by kernel_rfl
def pf54 : PF := ⟨7,[.t 4],.seq (.reg [zO 3 (.box (.t 1)),zO 4 (.mov (zi 0))]) (.seq (.reg [zM 5 0,zC 6 95 [.t 5,.c (.v (.int .i64 0))],zM 4 6]) .ret)⟩
theorem pf54_is : pfs 54 = some pf54 := by kernel_rfl
def pf55 : PF := ⟨7,[.t 4],.seq (.reg [zO 3 (.box (.t 1)),zO 4 (.mov (zi 0))]) (.seq (.reg [zM 5 0,zC 6 95 [.t 5,.c (.v (.int .i64 1))],zM 4 6]) .ret)⟩
theorem pf55_is : pfs 55 = some pf55 := by kernel_rfl
def pf56 : PF := ⟨5,[.t 4],.seq (.reg [zO 3 (.box (.t 1)),zO 4 (.mov (zi 0))]) (.seq (.reg [zO 4 (.mov (zi 30))]) .ret)⟩
theorem pf56_is : pfs 56 = some pf56 := by kernel_rfl
def pf66 : PF := ⟨5,[.t 2],.seq (.reg [zO 1 (.box (.t 0)),zO 2 (.mov (zi 0))]) (.seq (.reg [zO 3 (.Bk 109 [.t 1]),zC 4 77 [.t 3],zM 2 4]) .ret)⟩
theorem pf66_is : pfs 66 = some pf66 := by kernel_rfl
def pf67 : PF := ⟨22,[.t 4],.seq (.reg [zO 3 (.box (.t 1)),zO 4 (.mov (zi 0))]) (.seq (.jr [7] [zM 5 0,zX 6 (.ir (.t 5)) 1 [0],zX 7 (.gp 1 (.t 6)) 2 [1,0],
 zX 8 (.load false 1 (.t 7)) 3 [2,1,0],zX 9 (.load true 5 (.t 3)) 4 [],zX 10 (.qw (.t 8) ) 5 [3,2,1,0],zX 11 (.bsl (.agg [.v (.int .i64 0),.v (.int .i64 0),.v (.string (ByteArray.mk #[])),
 .sl [] .nil,.sl [] .nil]) 1 [(0,5,.c (.agg [.v (.int .i64 0),.v (.int .i64 0),.v (.string (ByteArray.mk #[])),.sl [] .nil,.sl [] .nil]))]) 6 [],
 zX 12 (.Lz 5 (.t 8) (.t 11) (.t 10) (.t 9) (.t 13)) 7 [],zF 14 0 5,zF 15 1 14,zN (.store 1 (.t 15) (.t 12)),zO 13 (.mov (.c .unk))]) (.seq (.reg [zM 16 0,zK 17 16,zF 18 1 17,zL 19 18,
 zS 20 19,zB 21 .sub (.t 20) (zi 1),zM 4 21]) .ret))⟩
theorem pf67_is : pfs 67 = some pf67 := by kernel_rfl
def pf68 : PF := ⟨4,[.t 2],.seq (.reg [zO 1 (.box (.t 0)),zO 2 (.mov (.c (.v .nilFunc)))]) (.seq (.reg [zO 3 (.Bk 111 [.t 1]),zM 2 3]) .ret)⟩
theorem pf68_is : pfs 68 = some pf68 := by kernel_rfl
def pf69 : PF := ⟨11,[],.seq (.reg [zO 3 (.box (.t 1))]) (.jr [5006] [zM 4 0,zX 6 (.gp 0 (.t 3)) 2 [],zX 7 (.load false 1 (.t 6)) 3 [2],zX 9 (.load true 5 (.t 3)) 5 [],
 zX 5 (.call (.c (.fn 112 [])) [.t 4]) 1 [0],zX 8 (.Ll 12 1 false (.t 5) (.t 7)) 4 [3,2,1,0],zX 10 (.call (.t 8) [.t 9]) 6 [5,4,3,2,1,0]])⟩
theorem pf69_is : pfs 69 = some pf69 := by kernel_rfl
def pf70 : PF := ⟨24,[],.reg [zM 10 0,zM 11 0,zK 12 11,zF 13 2 12,zL 14 13,zM 15 1,zM 16 2,zM 17 3,zM 18 4,zO 19 (.build [.v (.int .i64 0),.v (.int .i64 0),.v (.int .i64 0),
 .v (.string (ByteArray.mk #[]))] [(0,1,.t 15),(1,1,.t 16),(2,1,.t 17),(3,1,.t 18)]),zO 20 (.bsl (.agg [.v (.int .i64 0),.v (.int .i64 0),.v (.int .i64 0),
 .v (.string (ByteArray.mk #[]))]) 1 [(0,4,.t 19)]),zO 21 (.app 4 none (.t 14) (.t 20)),zK 22 10,zF 23 2 22,zN (.store 1 (.t 23) (.t 21))]⟩
theorem pf70_is : pfs 70 = some pf70 := by kernel_rfl
def pf71 : PF := ⟨55,[.t 4],.seq (.reg [zO 4 (.mov (zi 0))]) (.seq (.seq (.reg [zM 11 1,zM 12 0,zO 13 (.look (.v (.int .i64 0)) true (KK.pt) (.t 11) (.t 12)),zM 10 13,zE 14 10 0,zE 15 10 1,
 zM 5 14,zM 6 15]) (.seq (.reg [zM 16 6]) (.cond (.t 16) (.seq (.reg [zM 17 5,zM 4 17]) .ret) .skip))) (.seq (.reg [zO 7 (.mov (zi 1))]) (.seq (.seq (.reg [zM 18 0,zK 19 18,zF 20 0 19,
 zL 21 20,zO 22 (.bin .neq (.t 21) (zi 2) )]) (.cond (.t 22) (.reg [zO 7 (.mov (zi (-1)))]) .skip)) (.seq (.seq (.reg [zO 8 (.mov (zi 0))]) (.block 0 (.loop (.seq (.seq (.reg [zM 23 7,
 zB 24 .gtr (.t 23) (zi 0),zM 25 24,yM 26 25 true 8,yM 27 25 true 0,yK 28 25 true 27,zG 29 25 true (.gp 4 (.t 28) ),yL 30 25 true 29,zG 31 25 true (.qw (.t 30)),
 yB 32 25 true .lss (.t 26) (.t 31),zP 33 25 32 false]) (.cond (.t 33) .skip (.exit 0))) (.seq (.block 1 (.seq (.reg [zM 36 0,zK 37 36,zF 38 4 37,zL 39 38,zM 40 8,
 zO 41 (.j9 1 (.t 39) (.t 40)),zL 42 41,zM 43 1,zC 44 71 [.t 42,.t 43],zM 9 44]) (.seq (.reg [zM 45 9,
 zB 46 .lss (.t 45) (zi 0)]) (.cond (.t 46) (.reg [zO 7 (.mov (zi (-1)))]) (.reg [zM 47 7,zM 48 9,zB 49 .add (.t 47) (.t 48),zO 50 (.min (.t 49) (zi 4097)),zM 7 50]))))) (.reg [zM 34 8,
 zB 35 .add (.t 34) (zi 1),zM 8 35])))))) (.seq (.reg [zM 51 1,zM 52 0,zM 53 7,zN (.qk (KK.pt) (.t 51) (.t 52) (.t 53))]) (.seq (.reg [zM 54 7,zM 4 54]) .ret))))))⟩
theorem pf71_is : pfs 71 = some pf71 := by kernel_rfl
def pf72 : PF := ⟨29,[.c 2 true 2],.seq (.reg [zO 2 (.alloc [.v (.string (ByteArray.mk #[])),.sl [] .nil])]) (.seq (.reg [zM 6 0,zK 7 6,zF 8 2 7,zL 9 8,
 zO 10 (.build [.v (.string (ByteArray.mk #[])),.sl [] .nil] [(0,1,.t 9)]),zO 3 (.alloc [.v (.string (ByteArray.mk #[])),.sl [] .nil]),
 zN (.store 2 (.t 3) (.t 10))]) (.seq (.seq (.reg [zM 11 0,zK 12 11,zF 13 4 12,zL 14 13,zS 15 14,
 zO 16 (.mov (zi 0))]) (.block 0 (.loop (.seq (.reg [zB 17 .lss (.t 16) (.t 15)]) (.seq (.cond (.t 17) .skip (.exit 0)) (.seq (.block 1 (.seq (.reg [zO 18 (.j9 1 (.t 14) (.t 16)),
 zL 19 18,zM 5 19]) (.jr [4005,0,0] [zF 20 1 3,zX 21 (.load false 1 (.t 20)) 1 [0],zX 22 (.mov (.t 5)) 2 [],zX 23 (.call (.c (.fn 72 [])) [.t 22]) 3 [2],
 zX 24 (.bsl (.agg [.v (.string (ByteArray.mk #[])),.sl [] .nil]) 1 [(0,2,.t 23)]) 4 [3,2],zX 25 (.app 2 none (.t 21) (.t 24)) 5 [4,3,2,1,0],zX 26 (.gp 1 (.t 3)) 6 [5,4,3,2,1,0],⟨none,
 none,.store 1 (.t 26) (.t 25),7,[6,5,4,3,2,1,0]⟩]))) (.reg [zB 27 .add (.t 16) (zi 1),zM 16 27]))))))) (.seq (.reg [zR 28 2 3,zN (.store 2 (.t 2) (.t 28))]) .ret)))⟩
theorem pf72_is : pfs 72 = some pf72 := by kernel_rfl
def pf77 : PF := ⟨6,[.c 2 false 1],.seq (.reg [zO 2 (.alloc [.v (.int .i64 0)])]) (.seq (.reg [zO 3 (.Bk 120 [.t 2]),zN (.dfr (.t 3) [])]) (.seq (.reg [zM 4 0,
 zO 5 (.call (.t 4) [])]) (.seq (.reg [zN (.store 1 (.t 2) (zi 0))]) .ret)))⟩
theorem pf77_is : pfs 77 = some pf77 := by kernel_rfl
def pf80 : PF := ⟨9,[],.seq (.reg [zM 4 0,zO 5 (.un .not (.t 4))]) (.cond (.t 5) (.reg [zM 6 1,zO 7 (.build [.v (.int .i64 0)] [(0,1,.t 6)]),zO 8 (.Kg 182 (.t 7)),
 zN (.panic (.t 8))]) .skip)⟩
theorem pf80_is : pfs 80 = some pf80 := by kernel_rfl
def pf83 : PF := ⟨23,[.c 0 true 12],.seq (.reg [zO 0 (.alloc [.v .nilFunc,.v .nilFunc,.v .nilFunc,.v .nilFunc,.v .nilFunc,.v .nilFunc,.v .nilFunc,.v .nilFunc,.v .nilFunc,.v .nilFunc,
 .v .nilFunc,.v .nilFunc])]) (.seq (.reg [zO 1 (.mov (.c (.fn 126 [])))]) (.seq (.reg [zM 2 1,zO 3 (.call (.t 2) [.c (.v (.int .i64 0))]),zM 4 1,zO 5 (.call (.t 4) [.c (.v (.int .i64 1))]),
 zM 6 1,zO 7 (.call (.t 6) [.c (.v (.int .i64 2))]),zM 8 1,zO 9 (.call (.t 8) [.c (.v (.int .i64 0))]),zM 10 1,zO 11 (.call (.t 10) [.c (.v (.int .i64 0))]),zM 12 1,
 zO 13 (.call (.t 12) [.c (.v (.int .i64 2))]),zM 14 1,zO 15 (.call (.t 14) [.c (.v (.int .i64 2))]),zM 16 1,zO 17 (.call (.t 16) [.c (.v (.int .i64 1))]),zM 18 1,
 zO 19 (.call (.t 18) [.c (.v (.int .i64 1))]),zM 20 1,zO 21 (.call (.t 20) [.c (.v (.int .i64 0))]),zO 22 (.build [.v .nilFunc,.v .nilFunc,.v .nilFunc,.v .nilFunc,.v .nilFunc,.v .nilFunc,
 .v .nilFunc,.v .nilFunc,.v .nilFunc,.v .nilFunc,.v .nilFunc,.v .nilFunc] [(0,1,.t 3),(1,1,.t 5),(2,1,.t 7),(3,1,.c (.fn 128 [])),(4,1,.c (.fn 129 [])),(5,1,.t 9),(6,1,.t 11),(7,1,.t 13),(8,
 1,.t 15),(9,1,.t 17),(10,1,.t 19),(11,1,.t 21)]),zN (.store 12 (.t 0) (.t 22))]) .ret))⟩
theorem pf83_is : pfs 83 = some pf83 := by kernel_rfl
def pf85 : PF := ⟨50,[.t 4],.seq (.reg [zO 2 (.box (.t 0)),zO 3 (.box (.t 1)),zO 4 (.mov (zb false))]) (.seq (.seq (.reg [zF 5 0 3,zL 6 5,zB 7 .lss (.t 6) (zi 0),zM 8 7,yF 9 8 false 0 3,
 yL 10 8 false 9,yB 11 8 false .geq (.t 10) (zi 12),zQ 12 8 true 11,zM 13 12,yF 14 13 false 1 3,yL 15 13 false 14,yB 16 13 false .lss (.t 15) (zi 0),zQ 17 13 true 16,zM 18 17,
 yF 19 18 false 2 3,yL 20 18 false 19,zG 21 18 false (.bin .neq (.t 20) (.c (.v (.string (ByteArray.mk #[]))))),yM 22 18 false 21,yF 23 22 true 0 3,yL 24 22 true 23,
 zG 25 22 true (.call (.c (.fn 130 [])) [.t 24]),zG 26 22 true (.un .not (.t 25)),zG 27 18 false (.pick (.t 22) (.t 26) (zb false)),
 zQ 28 18 true 27]) (.cond (.t 28) (.seq (.reg [zO 4 (.mov (zb false))]) .ret) .skip)) (.seq (.jr [0,0,0,0,0,0,0,0,0,0,0,0,0,0,5,0,0] [zF 29 1 3,zX 30 (.load false 1 (.t 29)) 1 [0],
 zX 31 (.bin .eql (.t 30) (zi 0)) 2 [1,0],zX 32 (.mov (.t 31)) 3 [2,1,0],zY 33 32 false (.gp 0 (.t 3)) 4 [3,2,1,0],zY 34 32 false (.load false 1 (.t 33)) 5 [4,3,2,1,0],
 zY 35 32 false (.bin .eql (.t 34) (zi 0)) 6 [5,4,3,2,1,0],zX 36 (.pick (.t 32) (zb true) (.t 35)) 7 [6,5,4,3,2,1,0],zX 37 (.mov (.t 36)) 8 [7,6,5,4,3,2,1,0],
 zY 38 37 false (.gp 0 (.t 3)) 9 [8,7,6,5,4,3,2,1,0],zY 39 37 false (.load false 1 (.t 38)) 10 [9,8,7,6,5,4,3,2,1,0],zY 40 37 false (.bin .eql (.t 39) (zi 3)) 11 [10,9,8,7,6,5,4,3,2,1,0],
 zX 41 (.pick (.t 37) (zb true) (.t 40)) 12 [11,10,9,8,7,6,5,4,3,2,1,0],zX 42 (.mov (.t 41)) 13 [12,11,10,9,8,7,6,5,4,3,2,1,0],zY 43 42 true (.gp 0 (.t 3)) 14 [13,12,11,10,9,8,7,6,5,4,3,
 2,1,0],zY 44 42 true (.load false 1 (.t 43)) 15 [14,13,12,11,10,9,8,7,6,5,4,3,2,1,0],zY 45 42 true (.wh 12 1 (.t 2) (.t 44)) 16 [15,14,13,12,11,10,9,8,7,6,5,4,3,2,1,0],
 zY 46 42 true (.load false 1 (.t 45)) 17 [16,15,14,13,12,11,10,9,8,7,6,5,4,3,2,1,0],zY 47 42 true (.load true 5 (.t 3)) 18 [13,12,11,10,9,8,7,6,5,4,3,2,1,0],
 zY 48 42 true (.call (.t 46) [.t 47]) 19 [18,17,16,15,14,13,12,11,10,9,8,7,6,5,4,3,2,1,0],zX 49 (.pick (.t 42) (.t 48) (zb false)) 20 [19,18,17,16,15,14,13,12,11,10,9,8,7,6,5,4,3,2,1,0],
 zX 4 (.mov (.t 49)) 21 [20,19,18,17,16,15,14,13,12,11,10,9,8,7,6,5,4,3,2,1,0]]) .ret))⟩
theorem pf85_is : pfs 85 = some pf85 := by kernel_rfl
def pf86 : PF := ⟨39,[.t 2],.seq (.reg [zO 2 (.mov (zb false))]) (.seq (.reg [zO 3 (.mov (zb true))]) (.seq (.seq (.reg [zM 6 0,zO 7 (.Iv (.t 6)),
 zO 8 (.mov (zi 0))]) (.block 0 (.loop (.seq (.reg [zB 9 .lss (.t 8) (.t 7)]) (.seq (.cond (.t 9) .skip (.exit 0)) (.seq (.block 1 (.seq (.reg [zM 10 8,zM 4 10]) (.seq (.reg [zM 11 0,
 zM 12 4,zO 13 (.Jg (.t 11) (.t 12)),zM 5 13]) (.block 2 (.seq (.reg [zM 15 5,zC 16 131 [.t 15],zM 14 16]) (.cond (.t 14) (.reg [zO 3 (.mov (zb false))]) (.seq (.reg [zM 18 3,
 zM 17 18]) (.cond (.t 17) (.seq (.reg [zO 2 (.mov (zb false))]) .ret) (.seq (.reg [zM 20 5,zO 21 (.bin .eql (.t 20) (.c (.v (.int .u8 46)))),
 zM 19 21]) (.cond (.t 19) (.reg [zO 3 (.mov (zb true))]) (.seq (.reg [zM 23 5,zO 24 (.bin .lss (.t 23) (.c (.v (.int .u8 48)))),zM 25 24,yM 26 25 false 5,
 zG 27 25 false (.bin .gtr (.t 26) (.c (.v (.int .u8 57)))),zQ 28 25 true 27,zM 22 28]) (.cond (.t 22) (.seq (.reg [zM 29 5,
 zO 30 (.bin .neq (.t 29) (.c (.v (.int .u8 39))))]) (.cond (.t 30) (.seq (.reg [zO 2 (.mov (zb false))]) .ret) .skip)) .skip)))))))))))) (.reg [zB 31 .add (.t 8) (zi 1),
 zM 8 31]))))))) (.seq (.reg [zM 32 3,zO 33 (.un .not (.t 32)),zM 34 33,yM 35 34 true 0,zG 36 34 true (.Iv (.t 35)),yB 37 34 true .leq (.t 36) (zi 64),zP 38 34 37 false,zM 2 38]) .ret)))⟩
theorem pf86_is : pfs 86 = some pf86 := by kernel_rfl
def pf87 : PF := ⟨30,[.t 2],.seq (.reg [zO 1 (.box (.t 0)),zO 2 (.mov (zi 0))]) (.seq (.block 0 (.seq (.seq (.reg [zF 4 0 1,zL 5 4,zS 6 5,zB 7 .eql (.t 6) (zi 0),
 zM 3 7] ) (.cond (.t 3) .skip (.seq (.reg [zF 8 2 1,zL 9 8,zS 10 9,zF 11 1 1,zL 12 11,zS 13 12,zB 14 .neq (.t 10) (.t 13),zO 3 (.mov (.t 14) )]) (.cond (.t 3) .skip (.seq (.reg [zF 15 2 1,
 zL 16 15,zO 17 (.Bk 133 [.t 1]),zC 18 132 [.t 16,.t 17],zM 3 18]) (.cond (.t 3) .skip (.reg [zF 19 2 1,zL 20 19,zC 21 134 [.t 20],
 zM 3 21]))))))) (.cond (.t 3) (.seq (.reg [zO 2 (.mov (zi 3))]) .ret) (.seq (.reg [zF 23 1 1,zL 24 23,zO 25 (.call (.c (.fn 135 [] )) [.t 24,.c (.fn 136 [])]),
 zM 22 25]) (.cond (.t 22) (.seq (.reg [zO 2 (.mov (zi 29))]) .ret) (.seq (.reg [zF 27 1 1,zL 28 27,zC 29 137 [.t 28],
 zM 26 29]) (.cond (.t 26) (.seq (.reg [zO 2 (.mov (zi 8))]) .ret) .skip))))))) (.seq (.reg [zO 2 (.mov (zi 0))]) .ret))⟩
theorem pf87_is : pfs 87 = some pf87 := by kernel_rfl
def pf89 : PF := ⟨81,[.t 4],.seq (.reg [zO 4 (.mov (zi 0))]) (.seq (.reg [zM 12 0,zK 13 12,zF 14 0 13,zF 15 0 14,zL 16 15,zM 17 1,zO 18 (.j9 1 (.t 16) (.t 17)),zL 19 18,
 zM 5 19]) (.seq (.seq (.reg [zM 20 0,zK 21 20,zF 22 3 21,zL 23 22,zM 24 1,zO 25 (.j9 1 (.t 23) (.t 24)),zL 26 25,
 zB 27 .lss (.t 26) (zi 0)]) (.cond (.t 27) (.seq (.reg [zO 4 (.mov (zi 9))]) .ret) .skip)) (.seq (.seq (.reg [zM 28 5,zS 29 28,
 zB 30 .eql (.t 29) (zi 0)]) (.cond (.t 30) (.seq (.reg [zO 4 (.mov (zi 3))]) .ret) .skip)) (.seq (.reg [zM 31 1 ,zM 32 0,zK 33 32,zF 34 3 33,zL 35 34,zM 36 1,
 zO 37 (.j9 1 (.t 35) (.t 36)),zL 38 37,zO 39 (.build [.v (.int .i64 0),.v (.int .i64 0),.v (.int .i64 0),.v (.int .i64 0),.v (.int .i64 0)] [(0,1,.t 31),(1,1,.t 38)]),
 zO 40 (.box (.t 39)),zM 6 40]) (.seq (.seq (.reg [zM 41 5,zS 42 41,
 zO 43 (.mov (zi 0))]) (.block 0 (.loop (.seq (.reg [zB 44 .lss (.t 43) (.t 42)]) (.seq (.cond (.t 44) .skip (.exit 0)) (.seq (.block 1 (.seq (.reg [zM 45 43,
 zO 46 (.j9 4 (.t 41) (.t 43)),zR 47 4 46,zO 8 (.alloc [.v (.int .i64 0),.v (.int .i64 0),.v (.int .i64 0),.v (.string (ByteArray.mk #[]))]),zM 7 45,
 zN (.store 4 (.t 8) (.t 47))]) (.seq (.seq (.jr [10,0] [zM 48 0,zX 49 (.load true 4 (.t 8)) 1 [],zX 50 (.mov (.t 5)) 2 [],zX 51 (.mov (.t 7)) 3 [],zX 52 (.bin .add (.t 51) (zi 1)) 4 [3],
 zX 53 (.slice 4 (.t 50) (some (.t 52)) none none) 5 [4,3,2],zX 54 (.mov (.t 6)) 6 [],zX 55 (.ir (.t 54)) 7 [6],zX 56 (.gp 4 (.t 55)) 8 [7,6],zX 57 (.load false 1 (.t 56)) 9 [8,7,6],
 zX 58 (.call (.c (.fn 139 [])) [.t 48,.t 49,.t 53,.t 57]) 10 [9,8,7,6,5,4,3,2,1,0],zX 9 (.mov (.t 58)) 11 [10,9,8,7,6,5,4,3,2,1,0]]) (.seq (.reg [zM 59 9,
 zB 60 .neq (.t 59) (zi 0)]) (.cond (.t 60) (.seq (.reg [zM 61 9,zM 4 61]) .ret) .skip))) (.seq (.seq (.reg [zM 62 0,zM 63 6,zR 64 4 8,zC 65 140 [.t 62,.t 63,.t 64],
 zM 10 65] ) (.seq (.reg [zM 66 10,zB 67 .neq (.t 66) (zi 0)]) (.cond (.t 67) (.seq (.reg [zM 68 10,zM 4 68]) .ret) .skip))) (.seq (.reg [zM 69 6,zR 70 4 8,zM 71 7 ,zM 72 5,zS 73 72,
 zB 74 .sub (.t 73) (zi 1),zB 75 .eql (.t 71) (.t 74),zC 76 141 [.t 69,.t 70,.t 75],zM 11 76]) (.seq (.reg [zM 77 11,zB 78 .neq (.t 77) (zi 0)]) (.cond (.t 78) (.seq (.reg [zM 79 11,
 zM 4 79]) .ret) .skip))))))) (.reg [zB 80 .add (.t 43) (zi 1),zM 43 80]))))))) (.seq (.reg [zO 4 (.mov (zi 0))]) .ret))))))⟩
theorem pf89_is : pfs 89 = some pf89 := by kernel_rfl
def pf90 : PF := ⟨15,[.t 4],.seq (.reg [zO 4 (.mov (zi 0))]) (.seq (.reg [zM 5 0,zM 6 0,zK 7 6,zF 8 6 7,zL 9 8,zM 10 1,zO 11 (.bsl (.v (.pointer none)) 1 [(0,1,.t 10)]),
 zO 12 (.app 1 (some false) (.t 9) (.t 11)),zK 13 5,zF 14 6 13,zN (.store 1 (.t 14) (.t 12))]) (.seq (.reg [zO 4 (.mov (zi 0))]) .ret))⟩
theorem pf90_is : pfs 90 = some pf90 := by kernel_rfl
def pf91 : PF := ⟨28,[.t 2],.seq (.reg [zO 2 (.mov (.c (.v (.pointer none))))]) (.seq (.reg [zM 5 0,zK 6 5,zF 7 6 6,zL 8 7,zS 9 8,zB 10 .sub (.t 9) (zi 1),zM 3 10]) (.seq (.reg [zM 11 0,
 zK 12 11,zF 13 6 12,zL 14 13,zM 15 3,zO 16 (.j9 1 (.t 14) (.t 15)),zL 17 16,zM 4 17]) (.seq (.reg [zM 18 0,zM 19 0,zK 20 19,zF 21 6 20 ,zL 22 21,zM 23 3,
 zO 24 (.slice 1 (.t 22) none (some (.t 23)) none),zK 25 18,zF 26 6 25,zN (.store 1 (.t 26) (.t 24))]) (.seq (.reg [zM 27 4,zM 2 27]) .ret) )))⟩
theorem pf91_is : pfs 91 = some pf91 := by kernel_rfl
def pf92 : PF := ⟨32,[.t 6],.seq (.reg [zO 6 (.mov (zi 0))]) (.seq (.seq (.reg [zM 7 0,zK 8 7,zF 9 7 8,zL 10 9,zS 11 10,
 zB 12 .geq (.t 11) (zi 65536)]) (.cond (.t 12) (.seq (.reg [zO 6 (.mov (zi 7))]) .ret) .skip)) (.seq (.jr [11011,0,0] [zM 13 0,zX 14 (.mov (.t 0)) 1 [],zX 15 (.ir (.t 14)) 2 [1],
 zX 16 (.gp 7 (.t 15)) 3 [2,1],zX 17 (.load false 1 (.t 16)) 4 [3,2,1],zX 18 (.mov (.t 0)) 5 [],zX 19 (.ir (.t 18)) 6 [5],zX 20 (.gp 3 (.t 19)) 7 [6,5],
 zX 21 (.load true 3 (.t 20)) 8 [7,6,5],zX 22 (.bsl (.agg [.v (.int .i64 0),.v (.int .i64 0),.v (.pointer none)]) 1 [(0,3,.t 21)]) 9 [8,7,6,5],
 zX 23 (.app 3 (some true) (.t 17) (.t 22)) 10 [9,8,7,6,5,4,3,2,1],zX 24 (.ir (.t 13)) 11 [10,9,8,7,6,5,4,3,2,1,0],zX 25 (.gp 7 (.t 24)) 12 [11,10,9,8,7,6,5,4,3,2,1,0],⟨none,none,
 .store 1 (.t 25) (.t 23),13,[12,11,10,9,8,7,6,5,4,3,2,1,0]⟩]) (.seq (.reg [zM 26 0,zM 27 1,zM 28 2,zO 29 (.build [.v (.int .i64 0),.v (.int .i64 0),.v (.pointer none)] [(0,1,.t 27),(2,1,
 .t 28)]),zK 30 26,zF 31 3 30,zN (.store 3 (.t 31) (.t 29))]) (.seq (.reg [zO 6 (.mov (zi 0))]) .ret))))⟩
theorem pf92_is : pfs 92 = some pf92 := by kernel_rfl
def pf93 : PF := ⟨19,[.t 4],.seq (.reg [zO 4 (.mov (.c (.v (.pointer none))))]) (.seq (.seq (.reg [zM 7 1,zS 8 7,
 zO 9 (.mov (zi 0))]) (.block 0 (.loop (.seq (.reg [zB 10 .lss (.t 9) (.t 8)]) (.seq (.cond (.t 10) .skip (.exit 0)) (.seq (.block 1 (.seq (.reg [zO 11 (.j9 1 (.t 7) (.t 9)),zL 12 11,
 zM 6 12]) (.reg [zM 13 6,zM 14 0,zO 15 (.build [.v (.pointer none),.v (.pointer none)] [(0,1,.t 13),(1,1,.t 14)]),zO 16 (.box (.t 15)),zM 0 16]))) (.reg [zB 17 .add (.t 9) (zi 1),
 zM 9 17]))))))) (.seq (.reg [zM 18 0,zM 4 18]) .ret))⟩
theorem pf93_is : pfs 93 = some pf93 := by kernel_rfl
def pf95 : PF := ⟨28,[.t 4],.seq (.reg [zO 4 (.mov (zi 0))]) (.seq (.reg [zM 6 0,zC 7 91 [.t 6],zM 5 7]) (.seq (.seq (.reg [zM 8 5,zK 9 8,zF 10 0 9,
 zL 11 10]) (.block 0 (.seq (.reg [zB 13 .eql (.t 11) (zi 0),zM 12 13]) (.cond (.t 12) (.seq (.reg [zM 14 0,zM 15 5,zC 16 90 [.t 14,.t 15],
 zM 4 16]) .ret) (.seq (.reg [zB 18 .eql (.t 11) (zi 3),zM 17 18]) (.cond (.t 17) (.seq (.reg [zM 19 0,zM 20 5,zK 21 20,zF 22 4 21,zL 23 22,zM 24 1,zO 25 (.j9 1 (.t 23) (.t 24)),zL 26 25,
 zO 27 (.call (.c (.fn 90 [])) [.t 19,.t 26] ),zM 4 27]) .ret) .skip)))))) (.seq (.reg [zO 4 (.mov (zi 10))]) .ret)))⟩
theorem pf95_is : pfs 95 = some pf95 := by kernel_rfl
def pf109 : PF := ⟨60,[],.seq (.reg [zF 7 0 0,zL 8 7,zS 9 8,zB 10 .leq (.t 9) (zi 1000),zC 11 80 [.t 10,.c (.v (.int .i64 6))]]) (.seq (.reg [zC 12 83 [],zO 13 (.qj),
 zO 14 (.build [.v .nilFunc,.v .nilFunc,.v .nilFunc,.v .nilFunc,.v .nilFunc,.v .nilFunc,.v .nilFunc,.v .nilFunc,.v .nilFunc,.v .nilFunc,.v .nilFunc,.v .nilFunc,.v (.map none)] [(0,12,.t 12),
 (12,1,.t 13)]),zO 15 (.box (.t 14)),zM 1 15]) (.seq (.seq (.reg [zF 16 0 0,zL 17 16,zS 18 17,
 zO 19 (.mov (zi 0))]) (.block 0 (.loop (.seq (.reg [zB 20 .lss (.t 19) (.t 18)]) (.seq (.cond (.t 20) .skip (.exit 0)) (.seq (.block 1 (.seq (.reg [zO 21 (.j9 6 (.t 17) (.t 19)),
 zR 22 6 21,zO 3 (.alloc [.v (.string (ByteArray.mk #[])),.v (.int .i64 0),.v (.int .i64 0),.v (.string (ByteArray.mk #[])),.sl [] .nil,.sl [] .nil]),
 zN (.store 6 (.t 3) (.t 22))]) (.jr [6] [zM 23 1,zX 24 (.ir (.t 23)) 1 [0],zX 25 (.gp 12 (.t 24)) 2 [1,0],zX 26 (.load false 1 (.t 25)) 3 [2,1,0],zX 27 (.gp 0 (.t 3)) 4 [],
 zX 28 (.load false 1 (.t 27)) 5 [4],⟨none,none,.qk (KK.sc true) (.t 26) (.t 28) (zb true),6,[5,4,3,2,1,0]⟩]))) (.reg [zB 29 .add (.t 19) (zi 1),
 zM 19 29]))))))) (.seq (.reg [zO 30 (.qj),zM 4 30]) (.seq (.seq (.reg [zF 31 0 0,zL 32 31,zS 33 32,
 zO 34 (.mov (zi 0))]) (.block 2 (.loop (.seq (.reg [zB 35 .lss (.t 34) (.t 33)]) (.seq (.cond (.t 35) .skip (.exit 2)) (.seq (.block 3 (.seq (.reg [zO 36 (.j9 6 (.t 32) (.t 34)),
 zR 37 6 36,zO 6 (.alloc [.v (.string (ByteArray.mk #[])),.v (.int .i64 0),.v (.int .i64 0),.v (.string (ByteArray.mk #[])),.sl [] .nil,.sl [] .nil]),
 zN (.store 6 (.t 6) (.t 37))]) (.seq (.reg [zF 38 0 6,zL 39 38,zC 40 86 [.t 39],zC 41 80 [.t 40,.c (.v (.int .i64 29))]]) (.seq (.reg [zM 42 4,zF 43 0 6,zL 44 43,
 zO 45 (.look (.v (.bool false)) false (KK.sc true) (.t 42) (.t 44)),zO 46 (.un .not (.t 45)),zO 47 (.call (.c (.fn 80 [])) [.t 46,.c (.v (.int .i64 8))] )]) (.seq (.reg [zM 48 4,zF 49 0 6,
 zL 50 49,zN (.qk (KK.sc true) (.t 48) (.t 50) (zb true))]) (.reg [zM 51 1,zF 52 1 6,zR 53 5 52,zC 54 110 [.t 51,.t 53]])))))) (.reg [zB 55 .add (.t 34) (zi 1),
 zM 34 55])) ))))) (.reg [zM 56 1,zF 57 1 0,zR 58 5 57,zC 59 110 [.t 56,.t 58]])))))⟩
theorem pf109_is : pfs 109 = some pf109 := by kernel_rfl
def pf110 : PF := ⟨18,[],.seq (.reg [zO 3 (.box (.t 1))]) (.seq (.reg [zM 7 0,zR 8 5 3,zO 9 (.call (.c (.fn 144 [] )) [.t 7,.t 8,.c (.v (.int .i64 0))]),zM 6 9,zE 10 6 0,zE 11 6 1,zM 4 10,
 zM 5 11]) (.seq (.reg [zM 12 4,zB 13 .leq (.t 12) (zi 4096),zC 14 80 [.t 13,.c (.v (.int .i64 5))]]) (.reg [zM 15 5,zB 16 .leq (.t 15) (zi 200),zC 17 80 [.t 16,.c (.v (.int .i64 7))]])))⟩
theorem pf110_is : pfs 110 = some pf110 := by kernel_rfl
def pf120 : PF := ⟨17,[],.seq (.reg [zO 4 (.ua),zM 1 4]) (.seq (.reg [zM 5 1,zO 6 (.eqi true (.t 5) (.c (.v .nilIface)))]) (.cond (.t 6) (.seq (.reg [zM 8 1,
 zO 9 (.T6 182 true (.agg [.v (.int .i64 0)]) (.t 8)),zM 7 9,zE 10 7 0,zE 11 7 1,zO 2 (.alloc [.v (.int .i64 0)]),zN (.store 1 (.t 2) (.t 10)),zM 3 11]) (.seq (.seq (.reg [zM 12 3,
 zO 13 (.un .not (.t 12))]) (.cond (.t 13) (.reg [zM 14 1,zN (.panic (.t 14))]) .skip)) (.reg [zF 15 0 2,zL 16 15,zN (.store 1 (.t 0) (.t 16))]))) .skip))⟩
theorem pf120_is : pfs 120 = some pf120 := by kernel_rfl
def pf126 : PF := ⟨4,[.t 2],.seq (.reg [zO 1 (.box (.t 0)),zO 2 (.mov (.c (.v .nilFunc)))]) (.seq (.reg [zO 3 (.Bk 127 [.t 1]),zM 2 3]) .ret)⟩
theorem pf126_is : pfs 126 = some pf126 := by kernel_rfl
def pf127 : PF := ⟨15,[.t 3],.seq (.reg [zO 2 (.box (.t 0)),zO 3 (.mov (zb false))]) (.seq (.reg [zF 4 4 2,zL 5 4,zS 6 5,zL 7 1,zB 8 .eql (.t 6) (.t 7),zM 9 8,yF 10 9 true 3 2,
 yL 11 9 true 10,zG 12 9 true (.qw (.t 11)),yB 13 9 true .eql (.t 12) (zi 0),zP 14 9 13 false,zM 3 14]) .ret)⟩
theorem pf127_is : pfs 127 = some pf127 := by kernel_rfl
def pf128 : PF := ⟨18,[.t 2],.seq (.reg [zO 1 (.box (.t 0)),zO 2 (.mov (zb false))]) (.seq (.reg [zF 3 3 1,zL 4 3,zS 5 4,zB 6 .eql (.t 5) (zi 0),zM 7 6,yF 8 7 true 1 1,yL 9 7 true 8,
 yB 10 7 true .lss (.t 9) (zi 32),zP 11 7 10 false,zM 12 11,yF 13 12 true 4 1,yL 14 12 true 13,zG 15 12 true (.qw (.t 14)),yB 16 12 true .leq (.t 15) (zi 4096),zP 17 12 16 false,
 zM 2 17]) .ret)⟩
theorem pf128_is : pfs 128 = some pf128 := by kernel_rfl
def pf129 : PF := ⟨23,[.t 2],.seq (.reg [zO 1 (.box (.t 0)),zO 2 (.mov (zb false))]) (.seq (.reg [zF 3 3 1,zL 4 3,zS 5 4,zB 6 .leq (.t 5) (zi 32),zM 7 6,yF 8 7 true 4 1,yL 9 7 true 8,
 zG 10 7 true (.qw (.t 9)),yF 11 7 true 3 1,yL 12 7 true 11,zG 13 7 true (.qw (.t 12)),yB 14 7 true .add (.t 13) (zi 1),yB 15 7 true .eql (.t 10) (.t 14),zP 16 7 15 false,zM 17 16,
 yF 18 17 true 3 1,yL 19 17 true 18,zG 20 17 true (.call (.c (.fn 132 [])) [.t 19,.c (.fn 160 [])]),zG 21 17 true (.un .not (.t 20)),zP 22 17 21 false,zM 2 22]) .ret)⟩
theorem pf129_is : pfs 129 = some pf129 := by kernel_rfl
def pf130 : PF := ⟨9,[.t 2],.seq (.reg [zO 2 (.mov (zb false))]) (.seq (.reg [zM 3 0,zO 4 (.bin .eql (.t 3) (zi 3) ),zM 5 4,yM 6 5 false 0,yB 7 5 false .eql (.t 6) (zi 5),zQ 8 5 true 7,
 zM 2 8]) .ret)⟩
theorem pf130_is : pfs 130 = some pf130 := by kernel_rfl
def pf131 : PF := ⟨21,[.t 2],.seq (.reg [zO 2 (.mov (zb false))]) (.seq (.reg [zM 3 0,zO 4 (.bin .geq (.t 3) (.c (.v (.int .u8 97)) )),zM 5 4,yM 6 5 true 0,
 zG 7 5 true (.bin .leq (.t 6) (.c (.v (.int .u8 122)))),zP 8 5 7 false,zM 9 8,yM 10 9 false 0,zG 11 9 false (.bin .geq (.t 10) (.c (.v (.int .u8 65)))),yM 12 9 false 11,yM 13 12 true 0,
 zG 14 12 true (.bin .leq (.t 13) (.c (.v (.int .u8 90)))),zG 15 9 false (.pick (.t 12) (.t 14) (zb false)),⟨some 16,none,.pick (.t 9) (zb true) (.t 15),0,[] ⟩,zM 17 16,yM 18 17 false 0,
 zG 19 17 false (.bin .eql (.t 18) (.c (.v (.int .u8 95)))),zQ 20 17 true 19,zM 2 20]) .ret)⟩
theorem pf131_is : pfs 131 = some pf131 := by kernel_rfl
def pf132 : PF := ⟨9,[.t 4],.seq (.reg [zO 4 (.mov (zb false))]) (.seq (.reg [zM 5 0,zM 6 1,zC 7 161 [.t 5,.t 6],zB 8 .geq (.t 7) (zi 0),zM 4 8]) .ret)⟩
theorem pf132_is : pfs 132 = some pf132 := by kernel_rfl
def pf133 : PF := ⟨13,[.t 3],.seq (.reg [zO 3 (.mov (zb false))]) (.seq (.reg [zM 4 0,zO 5 (.bin .lss (.t 4) (.c (.v (.int .i64 1)) )),zM 6 5,yM 7 6 false 0,yF 8 6 false 0 1,yL 9 6 false 8,
 zG 10 6 false (.qw (.t 9)),yB 11 6 false .geq (.t 7) (.t 10),zQ 12 6 true 11,zM 3 12]) .ret)⟩
theorem pf133_is : pfs 133 = some pf133 := by kernel_rfl
def pf134 : PF := ⟨18,[.t 2],.seq (.reg [zO 2 (.mov (zb false))]) (.seq (.seq (.reg [zM 5 0,zS 6 5,
 zO 7 (.mov (zi 0))]) (.block 0 (.loop (.seq (.reg [zB 8 .lss (.t 7) (.t 6)]) (.seq (.cond (.t 8) .skip (.exit 0)) (.seq (.block 1 (.seq (.reg [zM 9 7,zO 10 (.j9 1 (.t 5) (.t 7)),
 zL 11 10,zM 3 9,zM 4 11]) (.seq (.reg [zM 12 0,zM 13 3,zO 14 (.slice 1 (.t 12) none (some (.t 13)) none),zM 15 4,zC 16 162 [.t 14,
 .t 15]]) (.cond (.t 16) (.seq (.reg [zO 2 (.mov (zb true))]) .ret) .skip)))) (.reg [zB 17 .add (.t 7) (zi 1),zM 7 17]))))))) (.seq (.reg [zO 2 (.mov (zb false))]) .ret))⟩
theorem pf134_is : pfs 134 = some pf134 := by kernel_rfl
def pf135 : PF := ⟨9,[.t 4],.seq (.reg [zO 4 (.mov (zb false))]) (.seq (.reg [zM 5 0,zM 6 1,zC 7 163 [.t 5,.t 6],zB 8 .geq (.t 7) (zi 0),zM 4 8]) .ret)⟩
theorem pf135_is : pfs 135 = some pf135 := by kernel_rfl
def pf136 : PF := ⟨6,[.t 2],.seq (.reg [zO 2 (.mov (zb false))]) (.seq (.reg [zM 3 0,zC 4 86 [.t 3],zO 5 (.un .not (.t 4)),zM 2 5]) .ret)⟩
theorem pf136_is : pfs 136 = some pf136 := by kernel_rfl
def pf137 : PF := ⟨18,[.t 2],.seq (.reg [zO 2 (.mov (zb false))]) (.seq (.seq (.reg [zM 5 0,zS 6 5,
 zO 7 (.mov (zi 0))]) (.block 0 (.loop (.seq (.reg [zB 8 .lss (.t 7) (.t 6)]) (.seq (.cond (.t 8) .skip (.exit 0)) (.seq (.block 1 (.seq (.reg [zM 9 7,zO 10 (.j9 1 (.t 5) (.t 7)),
 zL 11 10,zM 3 9,zM 4 11]) (.seq (.reg [zM 12 0,zM 13 3,zO 14 (.slice 1 (.t 12) none (some (.t 13)) none),zM 15 4,zC 16 164 [.t 14,
 .t 15]]) (.cond (.t 16) (.seq (.reg [zO 2 (.mov (zb true))]) .ret) .skip)))) (.reg [zB 17 .add (.t 7) (zi 1),zM 7 17]))))))) (.seq (.reg [zO 2 (.mov (zb false))]) .ret))⟩
theorem pf137_is : pfs 137 = some pf137 := by kernel_rfl
def pf139 : PF := ⟨60,[.t 8],.seq (.reg [zO 5 (.box (.t 1)),zO 8 (.mov (zi 0))]) (.seq (.seq (.reg [zR 10 4 5,zM 11 2,zM 12 3,zC 13 167 [.t 10,.t 11,.t 12],
 zO 14 (.un .not (.t 13))]) (.cond (.t 14) (.seq (.reg [zO 8 (.mov (zi 3))]) .ret) .skip)) (.seq (.reg [zO 9 (.mov (zb false))]) (.seq (.seq (.reg [zF 15 0 5,
 zL 16 15]) (.block 0 (.seq (.reg [zB 18 .eql (.t 16) (zi 4),zM 17 18]) (.cond (.t 17) (.seq (.seq (.reg [zF 19 3 5,zL 20 19,zC 21 86 [.t 20],
 zO 22 (.un .not (.t 21))]) (.cond (.t 22) (.seq (.reg [zO 8 (.mov (zi 29))]) .ret) .skip)) (.reg [zF 23 1 5,zL 24 23,zB 25 .geq (.t 24) (zi 32),
 zM 9 25])) (.seq (.seq (.reg [zB 27 .eql (.t 16) (zi 1),zM 26 27]) (.cond (.t 26) .skip (.reg [zB 28 .eql (.t 16) (zi 6),zM 26 28]))) (.cond (.t 26) (.jr [8,0,0,0,0,0,0,0,0,0,0,
 0] [zF 29 1 5,zX 30 (.load false 1 (.t 29)) 1 [0],zX 31 (.mov (.t 0)) 2 [],zX 32 (.ir (.t 31)) 3 [2],zX 33 (.gp 0 (.t 32)) 4 [3,2],zX 34 (.gp 0 (.t 33)) 5 [4,3,2],
 zX 35 (.load false 1 (.t 34)) 6 [5,4,3,2],zX 36 (.qw (.t 35)) 7 [6,5,4,3,2],zX 37 (.bin .geq (.t 30) (.t 36)) 8 [7,6,5,4,3,2,1,0],zX 38 (.mov (.t 37)) 9 [8,7,6,5,4,3,2,1,0],
 zY 39 38 false (.gp 0 (.t 5)) 10 [9,8,7,6,5,4,3,2,1,0],zY 40 38 false (.load false 1 (.t 39)) 11 [10,9,8,7,6,5,4,3,2,1,0],zY 41 38 false (.bin .eql (.t 40) (zi 6)) 12 [11,10,9,8,7,6,5,4,
 3,2,1,0],zY 42 38 false (.mov (.t 41)) 13 [12,11,10,9,8,7,6,5,4,3,2,1,0],zY 43 42 true (.gp 2 (.t 5) ) 14 [13,12,11,10,9,8,7,6,5,4,3,2,1,0],zY 44 42 true (.load false 1 (.t 43)) 15 [14,
 13,12,11,10,9,8,7,6,5,4,3,2,1,0],zY 45 42 true (.bin .gtr (.t 44) (zi 64)) 16 [15,14,13,12,11,10,9,8,7,6,5,4,3,2,1,0],zY 46 38 false (.pick (.t 42) (.t 45) (zb false)) 17 [16,15,14,13,12,
 11,10,9,8,7,6,5,4,3,2,1,0],zX 47 (.pick (.t 38) (zb true) (.t 46)) 18 [17,16,15,14,13,12,11,10,9,8,7,6,5,4,3,2,1,0],zX 9 (.mov (.t 47)) 19 [18,17,16,15,14,13,12,11,10,9,8,7,6,5,4,3,2,1,
 0]]) (.seq (.reg [zB 49 .eql (.t 16) (zi 7),zM 48 49]) (.cond (.t 48) (.jr [8,0] [zF 50 1 5,zX 51 (.load false 1 (.t 50)) 1 [0],zX 52 (.mov (.t 0)) 2 [],zX 53 (.ir (.t 52)) 3 [2],
 zX 54 (.gp 0 (.t 53)) 4 [3,2],zX 55 (.gp 1 (.t 54)) 5 [4,3,2],zX 56 (.load false 1 (.t 55)) 6 [5,4,3,2],zX 57 (.qw (.t 56)) 7 [6,5,4,3,2],zX 58 (.bin .geq (.t 51) (.t 57)) 8 [7,6,5,
 4,3,2,1,0],zX 9 (.mov (.t 58)) 9 [8,7,6,5,4,3,2,1,
 0]]) .skip)))))))) (.seq (.seq (.reg [zM 59 9]) (.cond (.t 59) (.seq (.reg [zO 8 (.mov (zi 2))]) .ret) .skip)) (.seq (.reg [zO 8 (.mov (zi 0))]) .ret)))))⟩
theorem pf139_is : pfs 139 = some pf139 := by kernel_rfl
def pf140 : PF := ⟨34,[.t 6],.seq (.reg [zO 5 (.box (.t 2)),zO 6 (.mov (zi 0))]) (.seq (.seq (.reg [zF 7 0 5,zL 8 7]) (.block 0 (.seq (.reg [zB 10 .eql (.t 8) (zi 1),
 zM 9 10]) (.cond (.t 9) (.seq (.reg [zM 11 0,zM 12 1,zF 13 1 5,zL 14 13,zC 15 168 [.t 11,.t 12,.t 14,.c (.v (.int .i64 1))],zM 6 15]) .ret) (.seq (.reg [zB 17 .eql (.t 8) (zi 6),
 zM 16 17]) (.cond (.t 16) (.seq (.reg [zM 18 0,zM 19 1,zF 20 1 5,zL 21 20,zF 22 2 5,zL 23 22,zC 24 168 [.t 18,.t 19,.t 21,.t 23],zM 6 24]) .ret) (.seq (.reg [zB 26 .eql (.t 8) (zi 0) ,
 zM 25 26]) (.cond (.t 25) (.seq (.jr [6] [zF 27 1 5,zX 28 (.load false 1 (.t 27)) 1 [0],zX 29 (.mov (.t 1)) 2 [],zX 30 (.ir (.t 29)) 3 [2],zX 31 (.gp 1 (.t 30)) 4 [3,2],
 zX 32 (.load false 1 (.t 31)) 5 [4,3,2],zX 33 (.bin .geq (.t 28) (.t 32)) 6 [5,4,3,2,1,
 0]]) (.cond (.t 33) (.seq (.reg [zO 6 (.mov (zi 24))]) .ret) .skip)) .skip)))))))) (.seq (.reg [zO 6 (.mov (zi 0))]) .ret))⟩
theorem pf140_is : pfs 140 = some pf140 := by kernel_rfl
def pf141 : PF := ⟨117,[.t 6],.seq (.reg [zO 4 (.box (.t 1)),zO 6 (.mov (zi 0))]) (.seq (.reg [zM 9 0,zM 10 0,zK 11 10,zF 12 4 11,zL 13 12,zB 14 .sub (.t 13) (zi 1),
 zO 15 (.max (zi 0) (.t 14)),zK 16 9,zF 17 4 16,zN (.store 1 (.t 17) (.t 15))]) (.seq (.seq (.reg [zF 18 0 4,zL 19 18,zB 20 .eql (.t 19) (zi 5)]) (.cond (.t 20) (.reg [zM 21 0,zF 22 1 4,
 zL 23 22,zK 24 21,zF 25 4 24,zN (.store 1 (.t 25) (.t 23))]) .skip)) (.seq (.reg [zR 27 4 4,zC 28 169 [.t 27],zM 26 28,zE 29 26 0,zE 30 26 1,zM 7 29,zM 8 30]) (.seq (.seq (.reg [zM 31 0,
 zK 32 31,zF 33 2 32,zL 34 33,zM 35 7,zB 36 .lss (.t 34) (.t 35),zM 37 36,yF 38 37 false 0 4,yL 39 37 false 38,yB 40 37 false .eql (.t 39) (zi 10),yM 41 37 false 40,yM 42 41 true 0,
 yK 43 41 true 42,yF 44 41 true 3 43,yL 45 41 true 44,yB 46 41 true .eql (.t 45) (zi 0),zG 47 37 false (.pick (.t 41) (.t 46) (zb false)),
 zQ 48 37 true 47]) (.cond (.t 48) (.seq (.reg [zO 6 (.mov (zi 27))]) .ret) .skip)) (.seq (.reg [zM 49 0,zK 50 49,zF 51 2 50,zL 52 51,zM 53 8,zM 54 7,zB 55 .sub (.t 53) (.t 54),
 zB 56 .add (.t 52) (.t 55),zK 57 49,zF 58 2 57,zN (.store 1 (.t 58) (.t 56))]) (.seq (.seq (.reg [zF 59 0 4,zL 60 59]) (.block 0 (.seq (.reg [zB 62 .eql (.t 60) (zi 9),
 zM 61 62]) (.cond (.t 61) (.jr [15,0,0] [zM 63 0,zX 64 (.mov (.t 0)) 1 [],zX 65 (.mov (.t 0)) 2 [],zX 66 (.ir (.t 65)) 3 [2],zX 67 (.gp 1 (.t 66)) 4 [3,2],
 zX 68 (.load false 1 (.t 67)) 5 [4,3,2],zX 69 (.bin .add (.t 68) (zi 1)) 6 [5,4,3,2],zX 70 (.mov (.t 0)) 7 [],zX 71 (.ir (.t 70)) 8 [7],zX 72 (.gp 3 (.t 71)) 9 [8,7],
 zX 73 (.load false 1 (.t 72)) 10 [9,8,7],zX 74 (.bin .add (.t 73) (zi 1)) 11 [10,9,8,7],zX 75 (.ir (.t 63)) 12 [10,9,8,7,6,5,4,3,2,0],zX 76 (.gp 1 (.t 75)) 13 [12,10,9,8,7,6,5,4,3,2,
 0],⟨none,none,.store 1 (.t 76) (.t 69),14,[13,12,10,9,8,7,6,5,4,3,2,0]⟩,zX 77 (.ir (.t 64)) 15 [14,13,12,11,10,9,8,7,6,5,4,3,2,0,1],zX 78 (.gp 3 (.t 77)) 16 [15,14,13,12,11,10,9,8,7,
 6,5,4,3,2,0,1],⟨none,none,.store 1 (.t 78) (.t 74),17,[16,15,14,13,12,11,10,9,8,7,6,5,4,3,2,0,1]⟩]) (.seq (.reg [zB 80 .eql (.t 60) (zi 10),zM 79 80]) (.cond (.t 79) (.jr [15,0,
 0] [zM 81 0,zX 82 (.mov (.t 0)) 1 [],zX 83 (.mov (.t 0)) 2 [],zX 84 (.ir (.t 83)) 3 [2],zX 85 (.gp 1 (.t 84)) 4 [3,2],zX 86 (.load false 1 (.t 85)) 5 [4,3,2],
 zX 87 (.bin .sub (.t 86) (zi 1)) 6 [5,4,3,2],zX 88 (.mov (.t 0)) 7 [],zX 89 (.ir (.t 88)) 8 [7],zX 90 (.gp 3 (.t 89)) 9 [8,7],zX 91 (.load false 1 (.t 90)) 10 [9,8,7],
 zX 92 (.bin .sub (.t 91) (zi 1)) 11 [10,9,8,7],zX 93 (.ir (.t 81)) 12 [10,9,8,7,6,5,4,3,2,0],zX 94 (.gp 1 (.t 93)) 13 [12,10,9,8,7,6,5,4,3,2,0],⟨none,none,.store 1 (.t 94) (.t 87),14,
 [13,12,10,9,8,7,6,5,4,3,2,0]⟩,zX 95 (.ir (.t 82)) 15 [14,13,12,11,10,9,8,7,6,5,4,3,2,0,1],zX 96 (.gp 3 (.t 95)) 16 [15,14,13,12,11,10,9,8,7,6,5,4,3,2,0,1],⟨none,none,
 .store 1 (.t 96) (.t 92),17,[16,15,14,13,12,11,10,9,8,7,6,5,4,3,2,0,1]⟩]) .skip)))))) (.seq (.seq (.reg [zF 97 0 4,zL 98 97,zB 99 .eql (.t 98) (zi 3),zM 100 2,
 zO 101 (.eqb true (.t 99) (.t 100))]) (.cond (.t 101) (.seq (.reg [zO 6 (.mov (zi 3))]) .ret) .skip)) (.seq (.seq (.reg [zM 102 2,zM 103 102,yM 104 103 true 0,yK 105 103 true 104,
 yF 106 103 true 2 105,yL 107 103 true 106,yB 108 103 true .neq (.t 107) (zi 1),yM 109 103 true 108,yM 110 109 false 0,yK 111 109 false 110,yF 112 109 false 3 111,yL 113 109 false 112,
 yB 114 109 false .neq (.t 113) (zi 0),zG 115 103 true (.pick (.t 109) (zb true) (.t 114)),
 zP 116 103 115 false]) (.cond (.t 116) (.seq (.reg [zO 6 (.mov (zi 27))]) .ret) .skip)) (.seq (.reg [zO 6 (.mov (zi 0))]) .ret)))))))))⟩
theorem pf141_is : pfs 141 = some pf141 := by kernel_rfl
def pf144 : PF := ⟨83,[.t 6,.t 7],.seq (.reg [zO 4 (.box (.t 1)),zO 6 (.mov (zi 0)),zO 7 (.mov (zi 0))]) (.seq (.jr [5,0] [zM 14 0,zX 15 (.ir (.t 14)) 1 [0],
 zX 16 (.gp 0 (.t 15)) 2 [1,0],zX 17 (.load true 12 (.t 16)) 3 [2,1,0],zX 18 (.load true 5 (.t 4)) 4 [],zX 19 (.call (.c (.fn 85 [])) [.t 17,.t 18]) 5 [4,3,2,1,0],
 zX 20 (.call (.c (.fn 80 [])) [.t 19,.c (.v (.int .i64 3))]) 6 [5,4,3,2,1,0]]) (.seq (.reg [zF 21 0 4,zL 22 21,zO 23 (.call (.c (.fn 130 []) ) [.t 22]),zO 24 (.un .not (.t 23)),zM 25 24,
 yF 26 25 false 2 4,yL 27 25 false 26,zG 28 25 false (.call (.c (.fn 86 [])) [.t 27]),zQ 29 25 true 28,zC 30 80 [.t 29,.c (.v (.int .i64 29))]]) (.seq (.reg [zF 31 0 4,zL 32 31,
 zB 33 .neq (.t 32) (zi 0),zM 34 33,yF 35 34 false 1 4,yL 36 34 false 35,yM 37 34 false 2,yB 38 34 false .lss (.t 36) (.t 37),zQ 39 34 true 38,zC 40 80 [.t 39,
 .c (.v (.int .i64 24))]]) (.seq (.jr [0,0,0,0,6,0,0] [zF 41 0 4,zX 42 (.load false 1 (.t 41)) 1 [0],zX 43 (.bin .neq (.t 42) (zi 5)) 2 [1,0],zX 44 (.mov (.t 43)) 3 [2,1,0],
 zY 45 44 false (.mov (.t 0)) 4 [3,2,1,0],zY 46 44 false (.ir (.t 45)) 5 [4,3,2,1,0],zY 47 44 false (.gp 12 (.t 46)) 6 [5,4,3,2,1,0],zY 48 44 false (.load false 1 (.t 47)) 7 [6,5,4,3,
 2,1,0],zY 49 44 false (.gp 2 (.t 4)) 8 [3,2,1,0],zY 50 44 false (.load false 1 (.t 49)) 9 [8,3,2,1,0],zY 51 44 false (.look (.v (.bool false)) false (KK.sc true) (.t 48) (.t 50)) 10 [9,
 8,7,6,5,4,3,2,1,0],zX 52 (.pick (.t 44) (zb true) (.t 51)) 11 [10,9,8,7,6,5,4,3,2,1,0],zX 53 (.call (.c (.fn 80 [])) [.t 52,.c (.v (.int .i64 9))]) 12 [11,10,9,8,7,6,5,4,3,2,1,
 0]]) (.seq (.reg [zO 8 (.mov (zi 1)),zO 9 (.mov (zi 0))]) (.seq (.seq (.reg [zF 54 4 4,zL 55 54,zS 56 55,
 zO 57 (.mov (zi 0))]) (.block 0 (.loop (.seq (.reg [zB 58 .lss (.t 57) (.t 56)]) (.seq (.cond (.t 58) .skip (.exit 0)) (.seq (.block 1 (.seq (.reg [zM 59 57,
 zO 60 (.j9 5 (.t 55) (.t 57)),zR 61 5 60,zO 11 (.alloc [.v (.int .i64 0),.v (.int .i64 0),.v (.string (ByteArray.mk #[])),.sl [] .nil,.sl [] .nil]),zM 10 59,
 zN (.store 5 (.t 11) (.t 61))]) (.seq (.jr [7,0,3] [zM 63 0,zX 64 (.load true 5 (.t 11)) 1 [],zX 65 (.mov (.t 2)) 2 [],zX 66 (.load true 5 (.t 4)) 3 [],zX 67 (.mov (.t 10)) 4 [],
 zX 68 (.call (.c (.fn 171 [])) [.t 66,.t 67]) 5 [4,3],zX 69 (.bin .add (.t 65) (.t 68)) 6 [5,4,3,2],zX 70 (.call (.c (.fn 144 [])) [.t 63,.t 64,.t 69]) 7 [6,5,4,3,2,1,0],
 zX 62 (.mov (.t 70)) 8 [7,6,5,4,3,2,1,0],zX 71 (.ext (.t 62) 0) 9 [8,7,6,5,4,3,2,1,0],zX 72 (.ext (.t 62) 1) 10 [8,7,6,5,4,3,2,1,0],zX 12 (.mov (.t 71)) 11 [9,8,7,6,5,4,3,2,1,0],
 zX 13 (.mov (.t 72)) 12 [11,9,10,8,7,6,5,4,3,2,1,0]]) (.reg [zM 73 8,zM 74 12,zB 75 .add (.t 73) (.t 74),zM 76 9,zM 77 13,zO 78 (.max (.t 76) (.t 77)),zM 8 75,
 zM 9 78])))) (.reg [zB 79 .add (.t 57) (zi 1),zM 57 79]))))))) (.seq (.reg [zM 80 8,zM 81 9,zB 82 .add (.t 81) (zi 1),zM 6 80,zM 7 82]) .ret)))))))⟩
theorem pf144_is : pfs 144 = some pf144 := by kernel_rfl
def pf145 : PF := ⟨7,[],.seq (.reg [zO 2 (.box (.t 0))]) (.reg [zL 3 1,zF 4 1 2,zL 5 4,zC 6 70 [.t 3,.c (.v (.int .i64 0)),.t 5,.c (.v (.int .i64 0)),.c (.v (.string (ByteArray.mk #[])))]])⟩
theorem pf145_is : pfs 145 = some pf145 := by kernel_rfl
def pf146 : PF := ⟨11,[],.seq (.reg [zO 2 (.box (.t 0))]) (.jr [7007] [zL 3 1,zX 4 (.load false 1 (.t 1)) 1 [],zX 5 (.gp 4 (.t 2)) 2 [],zX 6 (.load false 1 (.t 5)) 3 [2],
 zX 7 (.j9 5 (.t 6) (zi 0)) 4 [3,2],zX 8 (.load true 5 (.t 7)) 5 [4,3,2],zX 9 (.call (.c (.fn 67 [])) [.t 4,.t 8]) 6 [5,4,3,2,1],zX 10 (.call (.c (.fn 70 [])) [.t 3,.c (.v (.int .i64 1)),
 .t 9,.c (.v (.int .i64 0)),.c (.v (.string (ByteArray.mk #[])))]) 7 [6,5,4,3,2,1,0]])⟩
theorem pf146_is : pfs 146 = some pf146 := by kernel_rfl
def pf148 : PF := ⟨26,[],.seq (.reg [zO 3 (.box (.t 1))]) (.seq (.seq (.reg [zF 6 4 3,zL 7 6,zS 8 7,
 zO 9 (.mov (zi 0))]) (.block 0 (.loop (.seq (.reg [zB 10 .lss (.t 9) (.t 8)]) (.seq (.cond (.t 10) .skip (.exit 0)) (.seq (.block 1 (.seq (.reg [zO 11 (.j9 5 (.t 7) (.t 9)),zR 12 5 11,
 zO 5 (.alloc [.v (.int .i64 0),.v (.int .i64 0),.v (.string (ByteArray.mk #[])),.sl [] .nil,.sl [] .nil]),zN (.store 5 (.t 5) (.t 12))]) (.reg [zM 13 0,zR 14 5 5,zC 15 69 [.t 13,
 .t 14]]))) (.reg [zB 16 .add (.t 9) (zi 1),zM 9 16]))))))) (.reg [zM 17 0,zF 18 1 3,zL 19 18,zF 20 4 3,zL 21 20,zS 22 21,zF 23 2 3,zL 24 23,zC 25 70 [.t 17,.c (.v (.int .i64 4)),.t 19,
 .t 22,.t 24]]))⟩
theorem pf148_is : pfs 148 = some pf148 := by kernel_rfl
def pf149 : PF := ⟨37,[],.seq (.reg [zO 3 (.box (.t 1))]) (.seq (.reg [zM 6 0,zF 7 4 3,⟨some 8,none,.load false 1 (.t 7),0,[] ⟩,zO 9 (.j9 5 (.t 8) (zi 0)),zR 10 5 9,zC 11 69 [.t 6,
 .t 10]]) (.seq (.reg [zM 12 0,zF 13 3 3,zL 14 13,zS 15 14,zC 16 70 [.t 12,.c (.v (.int .i64 5)),.t 15,.c (.v (.int .i64 0)),.c (.v (.string (ByteArray.mk #[])))]]) (.seq (.reg [zF 17 3 3,
 zL 18 17,zS 19 18,zO 20 (.mov (zi 0))]) (.block 0 (.loop (.seq (.reg [zB 21 .lss (.t 20) (.t 19)]) (.seq (.cond (.t 21) .skip (.exit 0)) (.seq (.block 1 (.seq (.reg [zM 22 20,
 zO 23 (.j9 1 (.t 18) (.t 20)),zL 24 23,zM 4 22,zM 5 24 ]) (.reg [zM 25 0,zM 26 0,zF 27 4 3,zL 28 27,zM 29 4,zB 30 .add (.t 29) (zi 1),zO 31 (.j9 5 (.t 28) (.t 30)),zR 32 5 31,
 zC 33 67 [.t 26,.t 32],zM 34 5,zC 35 70 [.t 25,.c (.v (.int .i64 6)),.t 33,.t 34,.c (.v (.string (ByteArray.mk #[])))]]))) (.reg [zB 36 .add (.t 20) (zi 1),zM 20 36])))))))))⟩
theorem pf149_is : pfs 149 = some pf149 := by kernel_rfl
def pf150 : PF := ⟨12,[],.seq (.reg [zO 3 (.box (.t 1))]) (.reg [zM 4 0,zM 5 0,zK 6 5,zF 7 0 6,zL 8 7,zO 9 (.Bk 173 [.t 3]),zC 10 156 [.t 8,.t 9],zC 11 70 [.t 4,.c (.v (.int .i64 7)),
 .t 10,.c (.v (.int .i64 0)),.c (.v (.string (ByteArray.mk #[])))]])⟩
theorem pf150_is : pfs 150 = some pf150 := by kernel_rfl
def pf151 : PF := ⟨20,[],.seq (.reg [zO 3 (.box (.t 1))]) (.seq (.reg [zM 4 0,zF 5 4 3,⟨some 6,none,.load false 1 (.t 5),0,[] ⟩,zO 7 (.j9 5 (.t 6) (zi 0)),zR 8 5 7,zC 9 69 [.t 4,
 .t 8]]) (.seq (.reg [zM 10 0,zC 11 70 [.t 10,.c (.v (.int .i64 9)),.c (.v (.int .i64 0)),.c (.v (.int .i64 0)),.c (.v (.string (ByteArray.mk #[])))]]) (.seq (.reg [zM 12 0,zF 13 4 3,
 zL 14 13,zO 15 (.j9 5 (.t 14) (zi 1)),zR 16 5 15,zC 17 69 [.t 12,.t 16]]) (.reg [zM 18 0,zC 19 70 [.t 18,.c (.v (.int .i64 10)),.c (.v (.int .i64 0)),.c (.v (.int .i64 0)),
 .c (.v (.string (ByteArray.mk #[])))]]))))⟩
theorem pf151_is : pfs 151 = some pf151 := by kernel_rfl
def pf156 : PF := ⟨19,[.t 4],.seq (.reg [zO 4 (.mov (zi 0))]) (.seq (.seq (.reg [zM 6 0,zS 7 6,
 zO 8 (.mov (zi 0))]) (.block 0 (.loop (.seq (.reg [zB 9 .lss (.t 8) (.t 7)]) (.seq (.cond (.t 9) .skip (.exit 0)) (.seq (.block 1 (.seq (.reg [zM 10 8,zM 5 10]) (.seq (.reg [zM 11 1,
 zM 12 0,zM 13 5,zO 14 (.j9 6 (.t 12) (.t 13)),zR 15 6 14,zO 16 (.call (.t 11) [.t 15])]) (.cond (.t 16) (.seq (.reg [zM 17 5,zM 4 17]) .ret) .skip)))) (.reg [zB 18 .add (.t 8) (zi 1),
 zM 8 18]))))))) (.seq (.reg [zO 4 (.mov (zi (-1)))]) .ret))⟩
theorem pf156_is : pfs 156 = some pf156 := by kernel_rfl
def pf160 : PF := ⟨9,[.t 2],.seq (.reg [zO 2 (.mov (zb false))]) (.seq (.reg [zM 3 0,zO 4 (.bin .lss (.t 3) (zi 0) ),zM 5 4,yM 6 5 false 0,yB 7 5 false .gtr (.t 6) (zi 64),zQ 8 5 true 7,
 zM 2 8]) .ret)⟩
theorem pf160_is : pfs 160 = some pf160 := by kernel_rfl
def pf161 : PF := ⟨19,[.t 4],.seq (.reg [zO 4 (.mov (zi 0))]) (.seq (.seq (.reg [zM 6 0,zS 7 6,
 zO 8 (.mov (zi 0))]) (.block 0 (.loop (.seq (.reg [zB 9 .lss (.t 8) (.t 7)]) (.seq (.cond (.t 9) .skip (.exit 0)) (.seq (.block 1 (.seq (.reg [zM 10 8,zM 5 10]) (.seq (.reg [zM 11 1,
 zM 12 0,zM 13 5,zO 14 (.j9 1 (.t 12) (.t 13)),zL 15 14,zO 16 (.call (.t 11) [.t 15])]) (.cond (.t 16) (.seq (.reg [zM 17 5,zM 4 17]) .ret) .skip)))) (.reg [zB 18 .add (.t 8) (zi 1),
 zM 8 18]))))))) (.seq (.reg [zO 4 (.mov (zi (-1)))]) .ret))⟩
theorem pf161_is : pfs 161 = some pf161 := by kernel_rfl
def pf162 : PF := ⟨9,[.t 4],.seq (.reg [zO 4 (.mov (zb false))]) (.seq (.reg [zM 5 0,zM 6 1,zC 7 179 [.t 5,.t 6],zB 8 .geq (.t 7) (zi 0),zM 4 8]) .ret)⟩
theorem pf162_is : pfs 162 = some pf162 := by kernel_rfl
def pf163 : PF := ⟨19,[.t 4],.seq (.reg [zO 4 (.mov (zi 0))]) (.seq (.seq (.reg [zM 6 0,zS 7 6,
 zO 8 (.mov (zi 0))]) (.block 0 (.loop (.seq (.reg [zB 9 .lss (.t 8) (.t 7)]) (.seq (.cond (.t 9) .skip (.exit 0)) (.seq (.block 1 (.seq (.reg [zM 10 8,zM 5 10]) (.seq (.reg [zM 11 1,
 zM 12 0,zM 13 5,zO 14 (.j9 1 (.t 12) (.t 13)),zL 15 14,zO 16 (.call (.t 11) [.t 15])]) (.cond (.t 16) (.seq (.reg [zM 17 5,zM 4 17]) .ret) .skip)))) (.reg [zB 18 .add (.t 8) (zi 1),
 zM 8 18]))))))) (.seq (.reg [zO 4 (.mov (zi (-1)))]) .ret))⟩
theorem pf163_is : pfs 163 = some pf163 := by kernel_rfl
def pf164 : PF := ⟨9,[.t 4],.seq (.reg [zO 4 (.mov (zb false))]) (.seq (.reg [zM 5 0,zM 6 1,zC 7 180 [.t 5,.t 6],zB 8 .geq (.t 7) (zi 0),zM 4 8]) .ret)⟩
theorem pf164_is : pfs 164 = some pf164 := by kernel_rfl
def pf167 : PF := ⟨89,[.t 6],.seq (.reg [zO 3 (.box (.t 0)),zO 6 (.mov (zb false))]) (.seq (.seq (.reg [zF 10 0 3,zL 11 10,zB 12 .lss (.t 11) (zi 0),zM 13 12,yF 14 13 false 0 3,
 yL 15 13 false 14,yB 16 13 false .geq (.t 15) (zi 15),zQ 17 13 true 16,zM 18 17,yF 19 18 false 1 3,⟨some 20,some (18,false),.load false 1 (.t 19),0,[] ⟩,yB 21 18 false .lss (.t 20) (zi 0),
 zQ 22 18 true 21,zM 23 22,yF 24 23 false 2 3,yL 25 23 false 24,zG 26 23 false (.bin .lss (.t 25) (.c (.v (.int .i64 0)) )),
 zQ 27 23 true 26]) (.cond (.t 27) (.seq (.reg [zO 6 (.mov (zb false))]) .ret) .skip)) (.seq (.reg [zF 29 0 3,zL 30 29,zC 31 181 [.t 30],zM 28 31,zE 32 28 0,zE 33 28 1,zE 34 28 2,zM 7 32,
 zM 8 33,zM 9 34]) (.seq (.seq (.reg [zM 35 7,zO 36 (.un .not (.t 35)),zM 37 36,yF 38 37 true 1 3,yL 39 37 true 38,zG 40 37 true (.bin .neq (.t 39) (zi 0) ),zP 41 37 40 false,zM 42 41,
 yM 43 42 false 8,zG 44 42 false (.un .not (.t 43)),yM 45 42 false 44,yF 46 45 true 2 3,yL 47 45 true 46,yB 48 45 true .neq (.t 47) (zi 0),zG 49 42 false (.pick (.t 45) (.t 48) (zb false)),
 zQ 50 42 true 49,zM 51 50,yM 52 51 false 9,zG 53 51 false (.un .not (.t 52)),yM 54 51 false 53,yF 55 54 true 3 3,yL 56 54 true 55,
 zG 57 54 true (.bin .neq (.t 56) (.c (.v (.string (ByteArray.mk #[]))))),zG 58 51 false (.pick (.t 54) (.t 57) (zb false)),zQ 59 51 true 58,zM 60 59,yF 61 60 false 0 3,yL 62 60 false 61,
 yB 63 60 false .eql (.t 62) (zi 6),yM 64 60 false 2,yB 65 60 false .gtr (.t 64) (zi 0),zG 66 60 false (.eqb true (.t 63) (.t 65)),
 zQ 67 60 true 66 ]) (.cond (.t 67) (.seq (.reg [zO 6 (.mov (zb false))]) .ret) .skip)) (.seq (.seq (.reg [zF 68 0 3,zL 69 68,
 zB 70 .neq (.t 69) (zi 5)]) (.cond (.t 70) (.seq (.reg [zO 6 (.mov (zb true))]) .ret) .skip)) (.seq (.reg [zF 71 1 3,zL 72 71,zB 73 .leq (.t 72) (zi 32),zM 74 73,yF 75 74 true 1 3,
 yL 76 74 true 75,yM 77 74 true 1,zG 78 74 true (.qw (.t 77)),yB 79 74 true .leq (.t 76) (.t 78),zP 80 74 79 false ,zM 81 80,yM 82 81 true 1,yF 83 81 true 1 3,yL 84 81 true 83,
 zG 85 81 true (.slice 4 (.t 82) none (some (.t 84)) none),zG 86 81 true (.call (.c (.fn 182 [])) [.t 85,.c (.fn 183 [])]),zG 87 81 true (.un .not (.t 86)),zP 88 81 87 false,
 zM 6 88]) .ret)))))⟩
theorem pf167_is : pfs 167 = some pf167 := by kernel_rfl
def pf168 : PF := ⟨37,[.t 8],.seq (.reg [zO 8 (.mov (zi 0))]) (.seq (.block 0 (.seq (.reg [zM 10 0,zK 11 10,zF 12 3 11,zL 13 12,zM 14 2,zO 15 (.j9 1 (.t 13) (.t 14)),zL 16 15,
 zB 17 .geq (.t 16) (zi 0),zM 9 17]) (.cond (.t 9) (.seq (.reg [zO 8 (.mov (zi 8))]) .ret) (.seq (.reg [zM 19 2,zM 20 1,zK 21 20,zF 22 0 21,zL 23 22,zB 24 .leq (.t 19) (.t 23),
 zM 18 24]) (.cond (.t 18) (.seq (.reg [zO 8 (.mov (zi 1))]) .ret) .skip))))) (.seq (.jr [11,0] [zM 25 0,zX 26 (.ir (.t 25)) 1 [0] ,zX 27 (.gp 3 (.t 26)) 2 [1,0],
 zX 28 (.load false 1 (.t 27)) 3 [2,1,0],zX 29 (.mov (.t 2)) 4 [],zX 30 (.mov (.t 1)) 5 [],zX 31 (.ir (.t 30)) 6 [5],zX 32 (.gp 1 (.t 31)) 7 [6,5],zX 33 (.load false 1 (.t 32)) 8 [7,6,
 5],zX 34 (.mov (.t 3)) 9 [],zX 35 (.bin .add (.t 33) (.t 34)) 10 [9,8,7,6,5],zX 36 (.j9 1 (.t 28) (.t 29)) 11 [10,9,8,7,6,5,4,3,2,1,0],⟨none,none,.store 1 (.t 36) (.t 35),12,[11,10,9,8,
 7,6,5,4,3,2,1,0]⟩]) (.seq (.reg [zO 8 (.mov (zi 0))]) .ret)))⟩
theorem pf168_is : pfs 168 = some pf168 := by kernel_rfl
def pf169 : PF := ⟨25,[.t 2,.t 3],.seq (.reg [zO 1 (.box (.t 0)),zO 2 (.mov (zi 0)),zO 3 (.mov (zi 0))]) (.seq (.seq (.reg [zF 4 0 1,
 zL 5 4]) (.block 0 (.seq (.seq (.reg [zB 7 .eql (.t 5) (zi 0),zM 6 7]) (.cond (.t 6) .skip (.seq (.reg [zB 8 .eql (.t 5) (zi 1),
 zM 6 8]) (.cond (.t 6) .skip (.seq (.reg [zB 9 .eql (.t 5) (zi 7),zM 6 9]) (.cond (.t 6) .skip (.seq (.reg [zB 10 .eql (.t 5) (zi 8),
 zM 6 10]) (.cond (.t 6) .skip (.reg [zB 11 .eql (.t 5) (zi 14),zM 6 11]))))))))) (.cond (.t 6) (.seq (.reg [zO 2 (.mov (zi 0)),
 zO 3 (.mov (zi 1))]) .ret) (.seq (.seq (.reg [zB 13 .eql (.t 5) (zi 2),zM 12 13] ) (.cond (.t 12) .skip (.reg [zB 14 .eql (.t 5) (zi 11),
 zM 12 14]))) (.cond (.t 12) (.seq (.reg [zO 2 (.mov (zi 2)),zO 3 (.mov (zi 1))]) .ret) (.seq (.reg [zB 16 .eql (.t 5) (zi 4) ,zM 15 16]) (.cond (.t 15) (.seq (.reg [zF 17 2 1,zL 18 17,
 zM 2 18,zO 3 (.mov (zi 1))]) .ret) (.seq (.seq (.reg [zB 20 .eql (.t 5) (zi 5),zM 19 20]) (.cond (.t 19) .skip (.seq (.reg [zB 21 .eql (.t 5) (zi 12),
 zM 19 21]) (.cond (.t 19) .skip (.reg [zB 22 .eql (.t 5) (zi 13),zM 19 22]))))) (.cond (.t 19) (.seq (.reg [zO 2 (.mov (zi 1)),
 zO 3 (.mov (zi 1))]) .ret) (.seq (.reg [zB 24 .eql (.t 5) (zi 9),zM 23 24]) (.cond (.t 23) (.seq (.reg [zO 2 (.mov (zi 1)),
 zO 3 (.mov (zi 0))]) .ret) .skip)))))))))))) (.seq (.reg [zO 2 (.mov (zi 0)),zO 3 (.mov (zi 0))]) .ret))⟩
theorem pf169_is : pfs 169 = some pf169 := by kernel_rfl
def pf171 : PF := ⟨38,[.t 4],.seq (.reg [zO 2 (.box (.t 0)),zO 4 (.mov (zi 0))]) (.seq (.block 0 (.seq (.seq (.reg [zF 6 0 2,zL 7 6,zB 8 .eql (.t 7) (zi 1),
 zM 5 8]) (.cond (.t 5) .skip (.reg [zF 9 0 2,zL 10 9,zB 11 .eql (.t 10) (zi 7),zM 12 11,yM 13 12 true 1,yB 14 12 true .eql (.t 13) (zi 1),zP 15 12 14 false,
 zM 5 15]))) (.cond (.t 5) (.seq (.reg [zO 4 (.mov (zi 1))]) .ret) (.seq (.reg [zF 17 0 2,zL 18 17,zB 19 .eql (.t 18) (zi 4),zM 20 19,yM 21 20 true 1,yB 22 20 true .geq (.t 21) (zi 1),
 zP 23 20 22 false,zM 24 23,yM 25 24 true 1,yF 26 24 true 3 2,yL 27 24 true 26,zG 28 24 true (.qw (.t 27)),yB 29 24 true .leq (.t 25) (.t 28),zP 30 24 29 false,
 zM 16 30]) (.cond (.t 16) (.seq (.reg [zF 31 3 2,zL 32 31,zM 33 1,zB 34 .sub (.t 33) (zi 1),zO 35 (.j9 1 (.t 32) (.t 34)),zL 36 35,zO 37 (.max (zi 0) (.t 36)),
 zM 4 37]) .ret) .skip))))) (.seq (.reg [zO 4 (.mov (zi 0))]) .ret))⟩
theorem pf171_is : pfs 171 = some pf171 := by kernel_rfl
def pf172 : PF := ⟨20,[],.seq (.reg [zO 3 (.box (.t 0))]) (.seq (.seq (.reg [zF 6 4 3,zL 7 6,zS 8 7,
 zO 9 (.mov (zi 0))]) (.block 0 (.loop (.seq (.reg [zB 10 .lss (.t 9) (.t 8)]) (.seq (.cond (.t 10) .skip (.exit 0)) (.seq (.block 1 (.seq (.reg [zO 11 (.j9 5 (.t 7) (.t 9)),zR 12 5 11,
 zO 5 (.alloc [.v (.int .i64 0),.v (.int .i64 0),.v (.string (ByteArray.mk #[])),.sl [] .nil,.sl [] .nil]),zN (.store 5 (.t 5) (.t 12))]) (.reg [⟨some 13,none,.load false 1 (.t 1),0,[] ⟩,
 zR 14 5 5,zC 15 69 [.t 13,.t 14]]))) (.reg [⟨some 16,none,.bin .add (.t 9) (zi 1),0,[] ⟩,zM 9 16]))))))) (.reg [zL 17 1,zL 18 2,zC 19 70 [.t 17,.t 18,.c (.v (.int .i64 0)),
 .c (.v (.int .i64 0)),.c (.v (.string (ByteArray.mk #[])))]]))⟩
theorem pf172_is : pfs 172 = some pf172 := by kernel_rfl
def pf173 : PF := ⟨9,[.t 3],.seq (.reg [zO 2 (.box (.t 0)),zO 3 (.mov (zb false))]) (.seq (.reg [zF 4 0 2,zL 5 4,zF 6 2 1,zL 7 6,zB 8 .eql (.t 5) (.t 7),zO 3 (.mov (.t 8) )]) .ret)⟩
theorem pf173_is : pfs 173 = some pf173 := by kernel_rfl
def pf179 : PF := ⟨19,[.t 4],.seq (.reg [zO 4 (.mov (zi 0))]) (.seq (.seq (.reg [zM 6 0,zS 7 6,
 zO 8 (.mov (zi 0))]) (.block 0 (.loop (.seq (.reg [zB 9 .lss (.t 8) (.t 7)]) (.seq (.cond (.t 9) .skip (.exit 0)) (.seq (.block 1 (.seq (.reg [zM 10 8,zM 5 10]) (.seq (.reg [zM 11 1,
 zM 12 0,zM 13 5,zO 14 (.j9 1 (.t 12) (.t 13)),zL 15 14,zB 16 .eql (.t 11) (.t 15)] ) (.cond (.t 16) (.seq (.reg [zM 17 5,zM 4 17]) .ret) .skip)))) (.reg [zB 18 .add (.t 8) (zi 1),
 zM 8 18]))))))) (.seq (.reg [zO 4 (.mov (zi (-1)))]) .ret))⟩
theorem pf179_is : pfs 179 = some pf179 := by kernel_rfl
def pf180 : PF := ⟨19,[.t 4],.seq (.reg [zO 4 (.mov (zi 0))]) (.seq (.seq (.reg [zM 6 0,zS 7 6,
 zO 8 (.mov (zi 0))]) (.block 0 (.loop (.seq (.reg [zB 9 .lss (.t 8) (.t 7)]) (.seq (.cond (.t 9) .skip (.exit 0)) (.seq (.block 1 (.seq (.reg [zM 10 8,zM 5 10]) (.seq (.reg [zM 11 1,
 zM 12 0,zM 13 5,zO 14 (.j9 1 (.t 12) (.t 13)),zL 15 14,zB 16 .eql (.t 11) (.t 15)] ) (.cond (.t 16) (.seq (.reg [zM 17 5,zM 4 17]) .ret) .skip)))) (.reg [zB 18 .add (.t 8) (zi 1),
 zM 8 18]))))))) (.seq (.reg [zO 4 (.mov (zi (-1)))]) .ret))⟩
theorem pf180_is : pfs 180 = some pf180 := by kernel_rfl
def pf181 : PF := ⟨15,[.t 2,.t 3,.t 4],.seq (.reg [zO 2 (.mov (zb false)),zO 3 (.mov (zb false)),
 zO 4 (.mov (.c (.v (.bool false)) ))]) (.seq (.seq (.reg [zM 5 0]) (.block 0 (.seq (.seq (.reg [zB 7 .eql (.t 5) (zi 0),zM 6 7]) (.cond (.t 6) .skip (.seq (.reg [zB 8 .eql (.t 5) (zi 1),
 zM 6 8]) (.cond (.t 6) .skip (.seq (.reg [zB 9 .eql (.t 5) (zi 5),zM 6 9]) (.cond (.t 6) .skip (.reg [zB 10 .eql (.t 5) (zi 7),
 zM 6 10]))))))) (.cond (.t 6) (.seq (.reg [zO 2 (.mov (zb true)),zO 3 (.mov (zb false)),zO 4 (.mov (zb false))]) .ret) (.seq (.reg [zB 12 .eql (.t 5) (zi 6) ,
 zM 11 12]) (.cond (.t 11) (.seq (.reg [zO 2 (.mov (zb true)),zO 3 (.mov (zb true)),zO 4 (.mov (zb false))]) .ret) (.seq (.reg [zB 14 .eql (.t 5) (zi 4),
 zM 13 14]) (.cond (.t 13) (.seq (.reg [zO 2 (.mov (zb true)),zO 3 (.mov (zb true)),zO 4 (.mov (zb true)) ]) .ret) .skip)))))))) (.seq (.reg [zO 2 (.mov (zb false)),zO 3 (.mov (zb false)),
 zO 4 (.mov (zb false))]) .ret))⟩
theorem pf181_is : pfs 181 = some pf181 := by kernel_rfl
def pf182 : PF := ⟨9,[.t 4],.seq (.reg [zO 4 (.mov (zb false))]) (.seq (.reg [zM 5 0,zM 6 1,zC 7 185 [.t 5,.t 6],zB 8 .geq (.t 7) (zi 0),zM 4 8]) .ret)⟩
theorem pf182_is : pfs 182 = some pf182 := by kernel_rfl
def pf183 : PF := ⟨6,[.t 2],.seq (.reg [zO 1 (.box (.t 0)),zO 2 (.mov (zb false))]) (.seq (.reg [zF 3 0 1,zL 4 3,zB 5 .neq (.t 4) (zi 6),zM 2 5]) .ret)⟩
theorem pf183_is : pfs 183 = some pf183 := by kernel_rfl
def pf185 : PF := ⟨19,[.t 4],.seq (.reg [zO 4 (.mov (zi 0))]) (.seq (.seq (.reg [zM 6 0,zS 7 6,
 zO 8 (.mov (zi 0))]) (.block 0 (.loop (.seq (.reg [zB 9 .lss (.t 8) (.t 7)]) (.seq (.cond (.t 9) .skip (.exit 0)) (.seq (.block 1 (.seq (.reg [zM 10 8,zM 5 10]) (.seq (.reg [zM 11 1,
 zM 12 0,zM 13 5,zO 14 (.j9 4 (.t 12) (.t 13)),zR 15 4 14,zO 16 (.call (.t 11) [.t 15])]) (.cond (.t 16) (.seq (.reg [zM 17 5,zM 4 17]) .ret) .skip)))) (.reg [zB 18 .add (.t 8) (zi 1),
 zM 8 18]))))))) (.seq (.reg [zO 4 (.mov (zi (-1)))]) .ret))⟩
theorem pf185_is : pfs 185 = some pf185 := by kernel_rfl
end Go.Proofs.Eng
