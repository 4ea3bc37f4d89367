/- The prepared code of the functions. No conditions. -/
import Derived.Test.YtflfmkkcnphdcaaGreatCO
set_option linter.all false
set_option linter.deprecated false
set_option linter.unnecessarySimpa false
set_option linter.unusedVariables false
set_option linter.unusedSimpArgs false
set_option linter.defProp false
namespace Go.Proofs.Eng
open Go Go.Proofs
def Og:List Nat:=[2000008,89,139,140,141,168,67,69,70,145,146,148,149,150,151,172,77,109,110,144,74,113,114]
def a6j:List Nat:=[34,68,112,88,2000069,3000039,3000040,3000041,12,15,21,22,28,71,72,90,91,92,93,95,42,43,44,45,46,47,48,49,50,51,52,53,54,55,56,13,14,16,19,20,35,57,58,59,60,61,62,99,100,102,103,104,105]
def md (f:Nat):Md:=if a6j.contains f then .raw else if Og.contains f then .shared else .pure
def bf:Bf:=⟨false,λg=>a6j.contains g||Og.contains g,itF⟩
def bsF (f:Nat):Bool:=[90,92,103].contains f
noncomputable def pfs (f:Nat):Option PF:=if f=112 then some ⟨0,[],.ora Sb⟩else if f=88 then some ⟨0,[],.ora R5⟩else if f=29 then none else if f=39 then some ⟨0,[],.ora (Lz 1)⟩else if f=40 then some ⟨0,[],.ora (Lz 1)⟩else if f=41 then some ⟨0,[],.ora (Lz 4)⟩else if f=23 then Bm Tryz.prog bf 23 else Fo Tryz.prog {bf with b:=bsF f,sh:=λg=>bf.sh g||(g==4000000&&f==51)} f
theorem a27:(Bm Tryz.prog bf 23).all (λp=>p.body.qo)=true:=by kernel_rfl
theorem a7e:sn Tryz.prog 39=some (false,1,23):=by kernel_rfl
theorem a6p:sn Tryz.prog 40=some (false,1,24):=by kernel_rfl
theorem a77:sn Tryz.prog 41=some (true,4,60):=by kernel_rfl
theorem a1f:xy Tryz.prog pfs:=λf pf h=>by
 unfold pfs at h
 split at h
 ·rename_i hf
  subst hf
  simp only[fe]at h;subst h
  exact .inr (.inl ⟨_,rfl,Yt⟩)
 split at h
 ·rename_i hf
  subst hf
  simp only[fe]at h;subst h
  exact .inr (.inl ⟨_,rfl,a44⟩)
 split at h
 ·cases h
 split at h
 ·rename_i hf
  subst hf
  simp only[fe]at h;subst h
  exact .inr (.inl ⟨_,rfl,Kx a7e⟩)
 split at h
 ·rename_i hf
  subst hf
  simp only[fe]at h;subst h
  exact .inr (.inl ⟨_,rfl,Kx a6p⟩)
 split at h
 ·rename_i hf
  subst hf
  simp only[fe]at h;subst h
  exact .inr (.inl ⟨_,rfl,Kx a77⟩)
 split at h
 ·rename_i hf
  subst hf
  have hq:=a27
  rw[h]at hq
  exact .inr (.inr ⟨bf,a54,h,hq⟩)
 ·exact .inl ⟨_,h⟩
theorem hm:Tryz.prog.follows .mixedOrders=true:=by kernel_rfl
set_option maxRecDepth 100000
abbrev zi (k:Int):X:=.c (.v (.int .i64 k))
abbrev zb (b:Bool):X:=.c (.v (.bool b))
abbrev zX (d:Nat) (o:PO) (i:Nat) (l:List Nat):PI:=⟨some d,none,o,i,l⟩
abbrev zY (d g:Nat) (b:Bool) (o:PO) (i:Nat) (l:List Nat):PI:=⟨some d,some (g,b),o,i,l⟩
abbrev zO (d:Nat) (o:PO):PI:=⟨some d,none,o,0,[]⟩
abbrev zN (o:PO):PI:=⟨none,none,o,0,[]⟩
abbrev zG (d g:Nat) (b:Bool) (o:PO):PI:=⟨some d,some (g,b),o,0,[]⟩
abbrev zM (d x:Nat):PI:=⟨some d,none,.mov (.t x),0,[]⟩
abbrev zL (d x:Nat):PI:=⟨some d,none,.load false 1 (.t x),0,[]⟩
abbrev zR (d n x:Nat):PI:=⟨some d,none,.load true n (.t x),0,[]⟩
abbrev zF (d k x:Nat):PI:=⟨some d,none,.fy k (.t x),0,[]⟩
abbrev zK (d x:Nat):PI:=⟨some d,none,.gy (.t x),0,[]⟩
abbrev zS (d x:Nat):PI:=⟨some d,none,.m5 (.t x),0,[]⟩
abbrev zE (d x i:Nat):PI:=⟨some d,none,.ext (.t x) i,0,[]⟩
abbrev zC (d f:Nat) (l:List X):PI:=⟨some d,none,.call (.c (.fn f [])) l,0,[]⟩
abbrev zB (d:Nat) (o:BinOp) (x y:X):PI:=⟨some d,none,.bin o x y,0,[]⟩
abbrev zP (d a b:Nat) (c:Bool):PI:=⟨some d,none,.pick (.t a) (.t b) (.c (.v (.bool c))),0,[]⟩
abbrev zQ (d a:Nat) (c:Bool) (b:Nat):PI:=⟨some d,none,.pick (.t a) (.c (.v (.bool c))) (.t b),0,[]⟩
abbrev yM (d g:Nat) (b:Bool) (x:Nat):PI:=⟨some d,some (g,b),.mov (.t x),0,[]⟩
abbrev yL (d g:Nat) (b:Bool) (x:Nat):PI:=⟨some d,some (g,b),.load false 1 (.t x),0,[]⟩
abbrev yF (d g:Nat) (b:Bool) (k x:Nat):PI:=⟨some d,some (g,b),.fy k (.t x),0,[]⟩
abbrev yK (d g:Nat) (b:Bool) (x:Nat):PI:=⟨some d,some (g,b),.gy (.t x),0,[]⟩
abbrev yB (d g:Nat) (b:Bool) (o:BinOp) (x y:X):PI:=⟨some d,some (g,b),.bin o x y,0,[]⟩
def pf3:PF:=⟨97,[.t 4],.seq (.reg [zO 2 (.box (.t 0)),zO 4 (.mov (zb false))]) (.seq (.seq (.reg [zR 15 3 2,zC 16 10 [.t 15],zO 17 (.un .not (.t 16)),zM 18 17,yM 19 18 false 1,
 zG 20 18 false (.m5 (.t 19)),yB 21 18 false .gtr (.t 20) (zi 12),zQ 22 18 true 21]) (.cond (.t 22) (.seq (.reg [zC 23 11 [],zM 4 23]) .ret) .skip)) (.seq (.reg [zR 25 3 2,
 zC 26 12 [.t 25],zM 24 26,zE 27 24 0,zE 28 24 1,zM 5 27,zM 6 28]) (.seq (.reg [zR 30 3 2,zC 31 13 [.t 30],zM 29 31,zE 32 29 0,zE 33 29 1,zM 7 32,zM 8 33]) (.seq (.seq (.reg [zM 34 8,
 zB 35 .neq (.t 34) (zi 0)]) (.cond (.t 35) (.seq (.reg [zC 36 11 [],zM 37 36,yM 38 37 true 5,zG 39 37 true (.eqp false (.t 38) (.c (.v (.pointer none)))),zP 40 37 39 false,zM 41 40,
 yM 42 41 true 6,yM 43 41 true 8,yB 44 41 true .eql (.t 42) (.t 43),zP 45 41 44 false,zM 4 45]) .ret) .skip)) (.seq (.seq (.reg [zM 46 6,zB 47 .neq (.t 46) (zi 0),zM 48 47,yM 49 48 false 5,
 zG 50 48 false (.eqp false (.t 49) (.c (.v (.pointer none)))),zQ 51 48 true 50,zM 52 51,yM 53 52 false 5,yM 54 52 false 7,zG 55 52 false (.call (.c (.fn 14 [])) [.t 53,.t 54]),
 zG 56 52 false (.un .not (.t 55)),
 zQ 57 52 true 56]) (.cond (.t 57) (.seq (.reg [zO 4 (.mov (zb false))]) .ret) .skip)) (.seq (.seq (.reg [zO 9 (.mov (zi 0))]) (.block 0 (.loop (.seq (.seq (.reg [zM 58 9,zM 59 1 ,zS 60 59,
 zB 61 .lss (.t 58) (.t 60)]) (.cond (.t 61) .skip (.exit 0))) (.seq (.block 1 (.seq (.reg [zM 64 1,zM 65 9,zO 66 (.j6 1 (.t 64) (.t 65)),zL 67 66,zO 68 (.conv .i64 (.t 67) ),
 zB 69 .rem (.t 68) (zi 200),zM 10 69]) (.seq (.reg [zM 71 5,zM 72 10,zC 73 15 [.t 71,.t 72],zM 70 73,zE 74 70 0,zE 75 70 1,zM 11 74,zM 12 75]) (.seq (.reg [zM 77 7,zM 78 10,zC 79 16 [.t 77,
 .t 78],zM 76 79,zE 80 76 0,zE 81 76 1,zM 13 80,zM 14 81]) (.seq (.reg [zM 82 11,zM 83 13,zO 84 (.eqb true (.t 82) (.t 83)),zM 85 84,yM 86 85 false 12,yM 87 85 false 14,
 yB 88 85 false .neq (.t 86) (.t 87),zQ 89 85 true 88,zM 90 89,yM 91 90 false 5,yM 92 90 false 7,zG 93 90 false (.call (.c (.fn 14 [])) [.t 91,.t 92]),zG 94 90 false (.un .not (.t 93)),
 zQ 95 90 true 94]) (.cond (.t 95) (.seq (.reg [zO 4 (.mov (zb false))]) .ret) .skip)))))) (.reg [zM 62 9,zB 63 .add (.t 62) (zi 1),zM 9 63])))))) (.seq (.reg [zC 96 11 [],
 zM 4 96]) .ret)))))))⟩
theorem pf3_is:pfs 3=some pf3:=by kernel_rfl
def pf10:PF:=⟨38,[.t 2],.seq (.reg [zO 1 (.box (.t 0)),zO 2 (.mov (zb false))]) (.seq (.seq (.reg [⟨some 3,none,.mov (zi 0),0,[] ⟩]) (.block 0 (.loop (.seq (.seq (.reg [zM 4 3,zF 5 0 1,
 zL 6 5,zS 7 6,zB 8 .lss (.t 4) (.t 7),zM 9 8,yM 10 9 true 3,yB 11 9 true .lss (.t 10) (zi 80),zP 12 9 11 false]) (.cond (.t 12) .skip (.exit 0))) (.seq (.block 1 (.seq (.reg [zF 15 0 1,
 zL 16 15,zM 17 3,zO 18 (.j6 1 (.t 16) (.t 17)),zL 19 18,zS 20 19,⟨some 21,none,.bin .gtr (.t 20) (zi 120),0,
 [] ⟩]) (.cond (.t 21) (.seq (.reg [zO 2 (.mov (zb false))]) .ret) .skip))) (.reg [zM 13 3,zB 14 .add (.t 13) (zi 1),zM 3 14])))))) (.seq (.reg [zF 22 0 1,zL 23 22,zS 24 23,
 zB 25 .leq (.t 24) (zi 60),zM 26 25,zG 27 26 true (.fy 1 (.t 1) ),yL 28 26 true 27,zG 29 26 true (.m5 (.t 28)),zG 30 26 true (.bin .leq (.t 29) (zi 20) ),zP 31 26 30 false,zM 32 31,
 yF 33 32 true 2 1,yL 34 32 true 33,zG 35 32 true (.m5 (.t 34)),yB 36 32 true .leq (.t 35) (zi 20),zP 37 32 36 false,zM 2 37]) .ret))⟩
theorem pf10_is:pfs 10=some pf10:=by kernel_rfl
def pf12:PF:=⟨78,[.t 2,.t 3],.seq (.reg [zO 1 (.box (.t 0)),zO 2 (.mov (.c (.v (.pointer none)))),zO 3 (.mov (zi 0))]) (.seq (.seq (.reg [zR 8 3 1,zC 9 38 [.t 8],
 zM 4 9]) (.seq (.reg [zM 10 4,zB 11 .neq (.t 10) (zi 0)]) (.cond (.t 11) (.seq (.reg [zM 12 4,zO 2 (.mov (.c (.v (.pointer none)))),zM 3 12]) .ret) .skip))) (.seq (.jk [5,0,0,0,
 0] [zF 13 1 1,zX 14 (.load false 1 (.t 13)) 1 [0],zX 15 (.call (.c (.fn 39 [])) [.t 14]) 2 [1,0],zX 16 (.fy 2 (.t 1)) 3 [],zX 17 (.load false 1 (.t 16)) 4 [3],
 zX 18 (.call (.c (.fn 40 [])) [.t 17]) 5 [2,1,0,4,3],zX 19 (.build [.sl [] .nil,.sl [] .nil,.sl [] .nil] [(1,1,.t 15),(2,1,.t 18)]) 6 [5,4,3,2,1,0],zX 20 (.build [.sl [] .nil,.sl [] .nil,
 .sl [] .nil,.v (.int .i64 0),.v (.int .i64 0),.v (.pointer none),.sl [] .nil,.sl [] .nil,.v (.int .i64 0),.v (.bool false),.v (.int .i64 0),.v .nilFunc,.v .nilFunc,.v .nilFunc,.v .nilFunc,
 .v .nilFunc,.v .nilFunc,.v .nilFunc,.v .nilFunc,.v .nilFunc,.v .nilFunc,.v .nilFunc,.v .nilFunc,.v .nilFunc,.v .nilFunc,.v .nilFunc] [(0,3,.t 19)]) 7 [6,5,4,3,2,1,0],
 zX 21 (.box (.t 20)) 8 [7,6,5,4,3,2,1,0],zX 5 (.mov (.t 21)) 9 [8,7,6,5,4,3,2,1,0]]) (.seq (.seq (.reg [zF 22 0 1,zL 23 22,zS 24 23,
 zO 25 (.mov (zi 0))]) (.block 0 (.loop (.seq (.reg [zB 26 .lss (.t 25) (.t 24)]) (.seq (.cond (.t 26) .skip (.exit 0)) (.seq (.block 1 (.seq (.reg [zO 27 (.j6 1 (.t 23) (.t 25)),
 zL 28 27,zM 7 28]) (.jk [10,0,0,0] [zM 29 5,zX 30 (.mov (.t 5)) 1 [],zX 31 (.gy (.t 30)) 2 [1],zX 32 (.fy 0 (.t 31)) 3 [2,1],zX 33 (.fy 0 (.t 32)) 4 [3,2,1],
 zX 34 (.load false 1 (.t 33)) 5 [4,3,2,1],zX 35 (.mov (.t 7)) 6 [],zX 36 (.call (.c (.fn 41 [])) [.t 35]) 7 [6],zX 37 (.bsl (.sl [] .nil) 1 [(0,1,.t 36)]) 8 [7,6],
 zX 38 (.app 1 none (.t 34) (.t 37)) 9 [8,7,6,5,4,3,2,1],zX 39 (.gy (.t 29)) 10 [9,8,7,6,5,4,3,2,1,0],zX 40 (.fy 0 (.t 39)) 11 [10,9,8,7,6,5,4,3,2,1,0],zX 41 (.fy 0 (.t 40)) 12 [11,
 10,9,8,7,6,5,4,3,2,1,0],⟨none,none,.store 1 (.t 41) (.t 38),13,[12,11,10,9,8,7,6,5,4,3,2,1,0]⟩]))) (.reg [zB 42 .add (.t 25) (zi 1),zM 25 42]))))))) (.seq (.reg [zM 43 5,zM 44 5,
 zO 45 (.tn 42 [.t 44]),zM 46 5,zO 47 (.tn 43 [.t 46]),zM 48 5,zO 49 (.tn 44 [.t 48]),zM 50 5,zO 51 (.tn 45 [.t 50]),zM 52 5,zO 53 (.tn 46 [.t 52]),zM 54 5,
 zO 55 (.tn 47 [.t 54]),zM 56 5 ,zO 57 (.tn 48 [.t 56]),zM 58 5,zO 59 (.tn 49 [.t 58]),zM 60 5,zO 61 (.tn 50 [.t 60] ),zM 62 5,zO 63 (.tn 51 [.t 62]),zM 64 5,
 zO 65 (.tn 52 [.t 64]),zM 66 5,zO 67 (.tn 53 [.t 66]),zM 68 5,zO 69 (.tn 54 [.t 68]),zM 70 5,zO 71 (.tn 55 [.t 70]),zM 72 5,zO 73 (.tn 56 [.t 72]),zO 74 (.build [.v .nilFunc,
 .v .nilFunc,.v .nilFunc,.v .nilFunc,.v .nilFunc,.v .nilFunc,.v .nilFunc,.v .nilFunc,.v .nilFunc,.v .nilFunc,.v .nilFunc,.v .nilFunc,.v .nilFunc,.v .nilFunc,.v .nilFunc] [(0,1,.t 45),(1,1,
 .t 47),(2,1,.t 49) ,(3,1,.t 51),(4,1,.t 53),(5,1,.t 55),(6,1,.t 57),(7,1,.t 59),(8,1,.t 61),(9,1,.t 63),(10,1,.t 65),(11,1,.t 67),(12,1,.t 69),(13,1,.t 71),(14,1,.t 73)]),zK 75 43,
 zF 76 11 75,zN (.store 15 (.t 76) (.t 74))]) (.seq (.reg [zM 77 5,zM 2 77,zO 3 (.mov (zi 0))]) .ret)))))⟩
theorem pf12_is:pfs 12=some pf12:=by kernel_rfl
def pf13:PF:=⟨14,[.t 2,.t 3],.seq (.reg [zO 1 (.box (.t 0)),zO 2 (.mov (.c (.v (.pointer none)))),zO 3 (.mov (zi 0))]) (.seq (.seq (.reg [zR 5 3 1,zC 6 29 [.t 5],
 zM 4 6]) (.seq (.reg [zM 7 4,zB 8 .neq (.t 7) (zi 0)]) (.cond (.t 8) (.seq (.reg [zM 9 4,zO 2 (.mov (.c (.v (.pointer none)))),zM 3 9]) .ret) .skip))) (.seq (.reg [zR 10 3 1,
 zC 11 57 [.t 10],zO 12 (.build [.v (.pointer none),.v (.int .i64 0)] [(0,1,.t 11)]),zO 13 (.box (.t 12)),zM 2 13,zO 3 (.mov (zi 0))]) .ret))⟩
theorem pf13_is:pfs 13=some pf13:=by kernel_rfl
def pf14:PF:=⟨71,[.t 4],.seq (.reg [zO 4 (.mov (zb false))]) (.seq (.seq (.reg [zM 11 1,zC 12 58 [.t 11],zO 13 (.un .not (.t 12))]) (.cond (.t 13) (.seq (.reg [zM 15 0,zC 16 28 [.t 15],
 zM 14 16,zE 17 14 0,zE 18 14 1,zO 5 (.alloc [.v (.string (ByteArray.mk #[])),.sl [] .nil]),zN (.store 2 (.t 5) (.t 17)),zM 6 18]) (.seq (.reg [zM 19 0,⟨some 20,none,
 .call (.c (.fn 21 [])) [.t 19],0,[] ⟩,zM 21 1,zC 22 59 [.t 21],zB 23 .eql (.t 20) (.t 22),zM 24 23,yM 25 24 true 0,zG 26 24 true (.call (.c (.fn 22 [])) [.t 25]),yM 27 24 true 1,
 zG 28 24 true (.call (.c (.fn 60 [])) [.t 27]),yB 29 24 true .eql (.t 26) (.t 28),zP 30 24 29 false,zM 31 30,yM 32 31 true 6,yB 33 31 true .eql (.t 32) (zi 5),yM 34 31 true 33,
 yM 35 34 false 6,yB 36 34 false .eql (.t 35) (zi 10),zG 37 31 true (.pick (.t 34) (zb true) (.t 36)),zP 38 31 37 false,zM 4 38]) .ret)) .skip)) (.seq (.reg [zM 40 0,zC 41 28 [.t 40],
 zM 39 41,zE 42 39 0,zE 43 39 1,zO 7 (.alloc [.v (.string (ByteArray.mk #[])),.sl [] .nil]),zN (.store 2 (.t 7) (.t 42)),zM 8 43]) (.seq (.reg [zM 45 1,zC 46 61 [.t 45],zM 44 46,zE 47 44 0,
 zE 48 44 1,zO 9 (.alloc [.v (.string (ByteArray.mk #[])),.sl [] .nil]),zN (.store 2 (.t 9) (.t 47)),zM 10 48]) (.seq (.reg [zM 49 0,zC 50 21 [.t 49],zM 51 1,zC 52 59 [.t 51],
 zB 53 .eql (.t 50) (.t 52),zM 54 53,yM 55 54 true 0,zG 56 54 true (.call (.c (.fn 22 [])) [.t 55]),yM 57 54 true 1,zG 58 54 true (.call (.c (.fn 60 [])) [.t 57]),
 yB 59 54 true .eql (.t 56) (.t 58),zP 60 54 59 false,zM 61 60,yM 62 61 true 8,yM 63 61 true 10,yB 64 61 true .eql (.t 62) (.t 63),zP 65 61 64 false,zM 66 65,
 zG 67 66 true (.load true 2 (.t 7)),zG 68 66 true (.load true 2 (.t 9)),zG 69 66 true (.call (.c (.fn 34 [])) [.t 67,.t 68]),zP 70 66 69 false,zM 4 70]) .ret))))⟩
theorem pf14_is:pfs 14=some pf14:=by kernel_rfl
def pf15:PF:=⟨89,[.t 4,.t 5],.seq (.reg [zO 4 (.mov (zb false)),zO 5 (.mov (zi 0))]) (.seq (.seq (.reg [zO 7 (.mov (.t 1) ),
 zB 8 .lss (.t 7) (zi 0)]) (.cond (.t 8) (.seq (.reg [zO 4 (.mov (zb false)),zO 5 (.mov (zi 2))]) .ret) .skip)) (.seq (.block 0 (.loop (.seq (.seq (.reg [zM 9 1,zB 10 .gtr (.t 9) (zi 0),
 zM 11 10,yM 12 11 true 0,yK 13 11 true 12,yF 14 11 true 9 13,yL 15 11 true 14,zG 16 11 true (.un .not (.t 15)),zP 17 11 16 false,zM 18 17,yM 19 18 true 0,yK 20 18 true 19,
 yF 21 18 true 10 20,yL 22 18 true 21,yB 23 18 true .eql (.t 22) (zi 0),
 zP 24 18 23 false]) (.cond (.t 24) .skip (.exit 0))) (.seq (.block 1 (.seq (.jk [20] [zX 6 (.alloc [.v (.int .i64 0),.v (.int .i64 0),.v (.int .i64 0),
 .v (.string (ByteArray.mk #[]))]) 19 [],zM 27 0,zX 28 (.gy (.t 27)) 1 [0],zX 29 (.fy 0 (.t 28)) 2 [1,0],zX 30 (.fy 0 (.t 29)) 3 [2,1,0],zX 31 (.load false 1 (.t 30)) 4 [3,2,1,0],
 zX 32 (.mov (.t 0)) 5 [],zX 33 (.gy (.t 32)) 6 [5],zX 34 (.fy 3 (.t 33)) 7 [6,5],zX 35 (.fy 0 (.t 34)) 8 [7,6,5],zX 36 (.load false 1 (.t 35)) 9 [8,7,6,5],
 zX 37 (.j6 1 (.t 31) (.t 36)) 10 [9,8,7,6,5,4,3,2,1,0],zX 38 (.load false 1 (.t 37)) 11 [10,9,8,7,6,5,4,3,2,1,0],zX 39 (.mov (.t 0)) 12 [],zX 40 (.gy (.t 39)) 13 [12],
 zX 41 (.fy 3 (.t 40)) 14 [13,12],zX 42 (.fy 1 (.t 41)) 15 [14,13,12],zX 43 (.load false 1 (.t 42)) 16 [15,14,13,12],zX 44 (.j6 4 (.t 38) (.t 43)) 17 [16,15,14,13,12,11,10,9,8,7,6,
 5,4,3,2,1,0],⟨some 45,none,.load true 4 (.t 44),18,[17,16,15,14,13,12,11,10,9,8,7,6,5,4,3,2,1,0] ⟩,⟨none,none,.store 4 (.t 6) (.t 45),20,[18,17,16,15,14,13,12,11,10,9,8,7,6,5,4,3,2,1,0,
 19]⟩]) (.seq (.reg [zM 46 0,zK 47 46,zF 48 3 47,zF 49 1 48,zL 50 49,zB 51 .add (.t 50) (zi 1),zK 52 46,zF 53 3 52,zF 54 1 53,zN (.store 1 (.t 54) (.t 51))]) (.seq (.reg [zM 55 0,zK 56 55,
 zF 57 8 56,zO 58 (.load false 1 (.t 57) ),zB 59 .add (.t 58) (zi 1),zK 60 55,zF 61 8 60,zN (.store 1 (.t 61) (.t 59))]) (.jk [10010,0,0] [zM 62 0,zX 63 (.mov (.t 0)) 1 [],
 zX 64 (.fy 0 (.t 6)) 2 [],zX 65 (.load false 1 (.t 64)) 3 [2],zX 66 (.gy (.t 63)) 4 [1],zX 67 (.fy 11 (.t 66)) 5 [4,1],zX 68 (.y9 15 1 (.t 67) (.t 65)) 6 [3,2,5,4,1],
 zX 69 (.load false 1 (.t 68)) 7 [6,3,2,5,4,1],zX 70 (.load true 4 (.t 6)) 8 [],zX 71 (.call (.t 69) [.t 70]) 9 [8,7,6,3,2,5,4,1],zX 72 (.gy (.t 62)) 10 [9,8,7,6,5,4,3,2,1,0],
 zX 73 (.fy 10 (.t 72)) 11 [10,9,8,7,6,5,4,3,2,1,0],⟨none,none,.store 1 (.t 73) (.t 71),12,[11,10,9,8,7,6,5,4,3,2,1,0]⟩ ]))))) (.reg [zM 25 1,zB 26 .sub (.t 25) (zi 1),
 zM 1 26]))))) (.seq (.jk [16] [zM 74 0,zX 75 (.gy (.t 74)) 1 [0],zX 76 (.fy 9 (.t 75)) 2 [1,0],zX 77 (.load false 1 (.t 76)) 3 [2,1,0],zX 78 (.mov (.t 77)) 4 [3,2,1,0],
 zY 79 78 true (.mov (.t 0)) 5 [4,3,2,1,0],zY 80 78 true (.gy (.t 79)) 6 [5,4,3,2,1,0],zY 81 78 true (.fy 10 (.t 80)) 7 [6,5,4,3,2,1,0],zY 82 78 true (.load false 1 (.t 81)) 8 [7,6,5,
 4,3,2,1,0],zY 83 78 true (.bin .eql (.t 82) (zi 0) ) 9 [8,7,6,5,4,3,2,1,0],zX 84 (.pick (.t 78) (.t 83) (zb false)) 10 [9,8,7,6,5,4,3,2,1,0],zX 85 (.mov (.t 0)) 11 [],
 zX 86 (.gy (.t 85)) 12 [11],zX 87 (.fy 10 (.t 86)) 13 [12,11],zX 88 (.load false 1 (.t 87)) 14 [13,12,11],zX 4 (.mov (.t 84)) 15 [10,9,8,7,6,5,4,3,2,1,0],zX 5 (.mov (.t 88)) 16 [15,
 10,9,8,7,6,5,4,3,2,1,0,14,13,12,11]]) .ret)))⟩
theorem pf15_is:pfs 15=some pf15:=by kernel_rfl
def pf16:PF:=⟨90,[.t 4,.t 5],.seq (.reg [zO 4 (.mov (zb false)),zO 5 (.mov (zi 0))]) (.seq (.seq (.reg [zO 7 (.mov (.t 1) ),
 zB 8 .lss (.t 7) (zi 0)]) (.cond (.t 8) (.seq (.reg [zO 4 (.mov (zb false)),
 zO 5 (.mov (zi 2))]) .ret) .skip)) (.seq (.seq (.reg [zO 6 (.mov (zi 0))]) (.block 0 (.loop (.seq (.seq (.reg [zM 9 6,zM 10 1,zB 11 .lss (.t 9) (.t 10),zM 12 11,yM 13 12 true 0 ,
 yK 14 12 true 13,yF 15 12 true 1 14,yL 16 12 true 15,yB 17 12 true .eql (.t 16) (zi 0),zP 18 12 17 false,zM 19 18,yM 20 19 true 0,yK 21 19 true 20,yF 22 19 true 0 21,yL 23 19 true 22,
 yK 24 19 true 23,yF 25 19 true 9 24,yL 26 19 true 25,zG 27 19 true (.un .not (.t 26)),zP 28 19 27 false]) (.cond (.t 28) .skip (.exit 0))) (.seq (.block 1 (.seq (.reg [zM 31 0,zM 32 0,
 zK 33 32,zF 34 0 33,zL 35 34,zC 36 62 [.t 35],zK 37 31,zF 38 1 37,zN (.store 1 (.t 38) (.t 36))]) (.seq (.reg [zM 39 0,zK 40 39,zF 41 1 40,zL 42 41,zB 43 .eql (.t 42) (zi 0),zM 44 43,
 yM 45 44 true 0,yK 46 44 true 45,yF 47 44 true 0 46,yL 48 44 true 47,yK 49 44 true 48,yF 50 44 true 7 49,yL 51 44 true 50,zG 52 44 true (.m5 (.t 51)),
 yB 53 44 true .gtr (.t 52) (zi 65536),zP 54 44 53 false]) (.cond (.t 54) (.seq (.jk [12,0,0] [zM 55 0,zX 56 (.gy (.t 55)) 1 [0],zX 57 (.fy 0 (.t 56)) 2 [1,0],
 zX 58 (.load false 1 (.t 57)) 3 [2,1,0],zX 59 (.mov (.t 0)) 4 [],zX 60 (.gy (.t 59)) 5 [4],zX 61 (.fy 0 (.t 60)) 6 [5,4],zX 62 (.load false 1 (.t 61)) 7 [6,5,4],
 zX 63 (.gy (.t 62)) 8 [7,6,5,4],zX 64 (.fy 7 (.t 63)) 9 [8,7,6,5,4],zX 65 (.load false 1 (.t 64)) 10 [9,8,7,6,5,4],zX 66 (.slice 3 (.t 65) none (some (zi 65536)) none) 11 [10,9,8,7,6,
 5,4],zX 67 (.gy (.t 58)) 12 [11,10,9,8,7,6,5,4,3,2,1,0],zX 68 (.fy 7 (.t 67)) 13 [12,11,10,9,8,7,6,5,4,3,2,1,0],⟨none,none,.store 1 (.t 68) (.t 66),14,[13,12,11,10,9,8,7,6,5,4,3,2,1,
 0]⟩]) (.reg [zM 69 0,zK 70 69,zO 71 (.fy 1 (.t 70) ),zN (.store 1 (.t 71) (zi 7))])) .skip)))) (.reg [zM 29 6,zB 30 .add (.t 29) (zi 1),zM 6 30])))))) (.seq (.jk [19] [zM 72 0,
 zX 73 (.gy (.t 72)) 1 [0],zX 74 (.fy 1 (.t 73)) 2 [1,0],zX 75 (.load false 1 (.t 74)) 3 [2,1,0],zX 76 (.bin .eql (.t 75) (zi 0)) 4 [3,2,1,0],zX 77 (.mov (.t 76)) 5 [4,3,2,1,0],
 zY 78 77 true (.mov (.t 0)) 6 [5,4,3,2,1,0],zY 79 77 true (.gy (.t 78)) 7 [6,5,4,3,2,1,0],zY 80 77 true (.fy 0 (.t 79)) 8 [7,6,5,4,3,2,1,0],zY 81 77 true (.load false 1 (.t 80)) 9 [8,
 7,6,5,4,3,2,1,0],zY 82 77 true (.gy (.t 81)) 10 [9,8,7,6,5,4,3,2,1,0],zY 83 77 true (.fy 9 (.t 82)) 11 [10,9,8,7,6,5,4,3,2,1,0],zY 84 77 true (.load false 1 (.t 83)) 12 [11,10,9,8,7,
 6,5,4,3,2,1,0],zX 85 (.pick (.t 77) (.t 84) (zb false)) 13 [12,11,10,9,8,7,6,5,4,3,2,1,0],zX 86 (.mov (.t 0)) 14 [],zX 87 (.gy (.t 86)) 15 [14],zX 88 (.fy 1 (.t 87)) 16 [15,14],
 zX 89 (.load false 1 (.t 88)) 17 [16,15,14],zX 4 (.mov (.t 85)) 18 [13,12,11,10,9,8,7,6,5,4,3,2,1,0],zX 5 (.mov (.t 89) ) 19 [18,13,12,11,10,9,8,7,6,5,4,3,2,1,0,17,16,15,14]]) .ret)))⟩
theorem pf16_is:pfs 16=some pf16:=by kernel_rfl
def pf21:PF:=⟨7,[.t 2],.seq (.reg [zO 2 (.mov (zi 0))]) (.seq (.reg [zM 3 0,zK 4 3,zF 5 8 4,zL 6 5,zM 2 6]) .ret)⟩
theorem pf21_is:pfs 21=some pf21:=by kernel_rfl
def pf22:PF:=⟨8,[.t 2],.seq (.reg [zO 2 (.mov (zi 0))]) (.seq (.reg [zM 3 0,zK 4 3,zF 5 7 4,zL 6 5,zS 7 6,zM 2 7]) .ret)⟩
theorem pf22_is:pfs 22=some pf22:=by kernel_rfl
def pf28:PF:=⟨52,[.c 2 true 2,.t 3],.seq (.reg [zO 2 (.alloc [.v (.string (ByteArray.mk #[])),.sl [] .nil]),zO 3 (.mov (zi 0))]) (.seq (.seq (.reg [zM 6 0,zK 7 6,zF 8 9 7,zL 9 8,
 zO 10 (.un .not (.t 9)),zM 11 10,yM 12 11 false 0,yK 13 11 false 12,yF 14 11 false 10 13,yL 15 11 false 14,yB 16 11 false .neq (.t 15) (zi 0),zQ 17 11 true 16,zM 18 17,yM 19 18 false 0,
 yK 20 18 false 19,yF 21 18 false 6 20,yL 22 18 false 21,zG 23 18 false (.m5 (.t 22)),yB 24 18 false .eql (.t 23) (zi 0),
 zQ 25 18 true 24]) (.cond (.t 25) (.seq (.reg [zO 26 (.build [.v (.string (ByteArray.mk #[])),.sl [] .nil] []),zN (.store 2 (.t 2) (.t 26)),
 zO 3 (.mov (zi 27))]) .ret) .skip)) (.seq (.jk [10,0,0] [zM 27 0,zX 28 (.gy (.t 27)) 1 [0],zX 29 (.fy 6 (.t 28)) 2 [1,0],zX 30 (.load false 1 (.t 29)) 3 [2,1,0],
 zX 31 (.mov (.t 0)) 4 [],zX 32 (.gy (.t 31)) 5 [4],zX 33 (.fy 6 (.t 32)) 6 [5,4],zX 34 (.load false 1 (.t 33)) 7 [6,5,4],zX 35 (.m5 (.t 34)) 8 [7,6,5,4],
 zX 36 (.bin .sub (.t 35) (zi 1) ) 9 [8,7,6,5,4],zX 37 (.j6 1 (.t 30) (.t 36)) 10 [9,8,7,6,5,4,3,2,1,0],zX 38 (.load false 1 (.t 37)) 11 [10,9,8,7,6,5,4,3,2,1,0],
 zX 4 (.mov (.t 38)) 12 [11,10,9,8,7,6,5,4,3,2,1,0]]) (.seq (.seq (.reg [zM 39 4,zO 40 (.sm),zC 41 71 [.t 39,.t 40],zM 5 41]) (.block 0 (.seq (.reg [zM 43 5,zB 44 .lss (.t 43) (zi 0),
 zM 42 44]) (.cond (.t 42) (.seq (.reg [zO 45 (.build [.v (.string (ByteArray.mk #[])),.sl [] .nil] []),zN (.store 2 (.t 2) (.t 45)),zO 3 (.mov (zi 10))]) .ret) (.seq (.reg [zM 47 5,
 zB 48 .gtr (.t 47) (zi 4096),zM 46 48]) (.cond (.t 46) (.seq (.reg [zO 49 (.build [.v (.string (ByteArray.mk #[])),.sl [] .nil] []),zN (.store 2 (.t 2) (.t 49)),
 zO 3 (.mov (zi 5))]) .ret) .skip)))))) (.seq (.reg [zM 50 4,zC 51 72 [.t 50],zN (.store 2 (.t 2) (.t 51)),zO 3 (.mov (zi 0))]) .ret))))⟩
theorem pf28_is:pfs 28=some pf28:=by kernel_rfl
def pf34:PF:=⟨39,[.t 4],.seq (.reg [zO 2 (.box (.t 0)),zO 3 (.box (.t 1)),zO 4 (.mov (zb false))]) (.seq (.seq (.reg [zF 6 0 2,zL 7 6,zF 8 0 3,zL 9 8,zB 10 .neq (.t 7) (.t 9),zM 11 10,
 yF 12 11 false 1 2,yL 13 11 false 12,zG 14 11 false (.m5 (.t 13)),yF 15 11 false 1 3,yL 16 11 false 15,zG 17 11 false (.m5 (.t 16)),yB 18 11 false .neq (.t 14) (.t 17),
 zQ 19 11 true 18]) (.cond (.t 19) (.seq (.reg [zO 4 (.mov (zb false))]) .ret) .skip)) (.seq (.seq (.reg [zO 5 (.mov (zi 0))]) (.block 0 (.loop (.seq (.seq (.reg [zM 20 5,zF 21 1 2,zL 22 21,
 zS 23 22,zB 24 .lss (.t 20) (.t 23)]) (.cond (.t 24) .skip (.exit 0))) (.seq (.block 1 (.seq (.jk [10,0] [zF 27 1 2,zX 28 (.load false 1 (.t 27)) 1 [0],zX 29 (.mov (.t 5)) 2 [],
 zX 30 (.j6 2 (.t 28) (.t 29)) 3 [2,1,0],zX 31 (.load true 2 (.t 30)) 4 [3,2,1,0],zX 32 (.fy 1 (.t 3)) 5 [],zX 33 (.load false 1 (.t 32)) 6 [5],zX 34 (.mov (.t 5)) 7 [],
 zX 35 (.j6 2 (.t 33) (.t 34)) 8 [7,6,5],zX 36 (.load true 2 (.t 35)) 9 [8,7,6,5],zX 37 (.call (.c (.fn 34 [])) [.t 31,.t 36]) 10 [9,8,7,6,5,4,3,2,1,0],zX 38 (.un .not (.t 37)) 11 [10,9,
 8,7,6,5,4,3,2,1,0]]) (.cond (.t 38) (.seq (.reg [zO 4 (.mov (zb false))]) .ret) .skip))) (.reg [zM 25 5,zB 26 .add (.t 25) (zi 1),
 zM 5 26])))))) (.seq (.reg [zO 4 (.mov (zb true))]) .ret)))⟩
theorem pf34_is:pfs 34=some pf34:=by kernel_rfl
def pf38:PF:=⟨54,[.t 2],.seq (.reg [zO 1 (.box (.t 0)),zO 2 (.mov (zi 0))]) (.seq (.seq (.reg [zR 9 3 1,zC 10 87 [.t 9],zM 3 10]) (.seq (.reg [zM 11 3,
 zB 12 .neq (.t 11) (zi 0)]) (.cond (.t 12) (.seq (.reg [zM 13 3,zM 2 13]) .ret) .skip))) (.seq (.jk [6006,0,0] [zR 14 3 1,zX 15 (.bsl (.v (.int .i64 0)) 1 [(0,1,
 .c (.v (.int .i64 (-1))))]) 1 [],zX 16 (.fy 0 (.t 1)) 2 [],zX 17 (.load false 1 (.t 16)) 3 [2],zX 18 (.m5 (.t 17)) 4 [3,2],zX 19 (.call (.c (.fn 88 [])) [.t 15,.t 18]) 5 [4,3,2,1],
 zX 20 (.build [.sl [] .nil,.sl [] .nil,.sl [] .nil,.sl [] .nil] [(0,3,.t 14),(3,1,.t 19)]) 6 [5,4,3,2,1,0],zX 21 (.box (.t 20)) 7 [6,5,4,3,2,1,0],zX 4 (.mov (.t 21)) 8 [7,6,5,4,3,2,1,
 0]]) (.seq (.reg [zM 22 4,zK 23 22,zF 24 3 23,zL 25 24,zO 26 (.j6 1 (.t 25) (zi 0)),zN (.store 1 (.t 26) (zi 0))]) (.seq (.seq (.reg [zO 27 (.fy 2 (.t 1) ),zL 28 27,zS 29 28,
 zO 30 (.mov (zi 0))]) (.block 0 (.loop (.seq (.reg [zB 31 .lss (.t 30) (.t 29)]) (.seq (.cond (.t 31) .skip (.exit 0)) (.seq (.block 1 (.seq (.reg [zO 32 (.j6 1 (.t 28) (.t 30)),
 zL 33 32,zM 6 33]) (.reg [zM 34 4,zK 35 34,zF 36 3 35,zL 37 36,zM 38 6,zO 39 (.j6 1 (.t 37) (.t 38)),zN (.store 1 (.t 39) (zi 0))]))) (.reg [zB 40 .add (.t 30) (zi 1),
 zM 30 40]))))))) (.seq (.seq (.reg [zF 41 0 1,zL 42 41,zS 43 42,
 zO 44 (.mov (zi 0))]) (.block 2 (.loop (.seq (.reg [zB 45 .lss (.t 44) (.t 43)]) (.seq (.cond (.t 45) .skip (.exit 2)) (.seq (.block 3 (.seq (.reg [zM 46 44,zM 7 46]) (.seq (.reg [zM 47 4,
 zM 48 7,zC 49 89 [.t 47,.t 48],zM 8 49]) (.seq (.reg [zM 50 8,zB 51 .neq (.t 50) (zi 0)]) (.cond (.t 51) (.seq (.reg [zM 52 8,zM 2 52]) .ret) .skip))))) (.reg [zB 53 .add (.t 44) (zi 1),
 zM 44 53]))))))) (.seq (.reg [zO 2 (.mov (zi 0))]) .ret))))))⟩
theorem pf38_is:pfs 38=some pf38:=by kernel_rfl
def pf42:PF:=⟨26,[.t 4],.seq (.reg [zO 3 (.box (.t 1)),zO 4 (.mov (zi 0))]) (.seq (.reg [zM 6 0,zK 7 6,zF 8 3 7,zF 9 2 8,zL 10 9,zM 5 10]) (.seq (.seq (.reg [zF 11 1 3,zL 12 11,
 zO 13 (.mov (zi 0))]) (.block 0 (.loop (.seq (.reg [zB 14 .lss (.t 13) (.t 12)]) (.seq (.cond (.t 14) .skip (.exit 0)) (.seq (.block 1 (.reg [zM 15 5,zK 16 15,zF 17 1 16,zL 18 17,
 zM 5 18])) (.reg [zB 19 .add (.t 13) (zi 1),zM 13 19]))))))) (.seq (.reg [zM 20 0,⟨some 21,none,.mov (.t 5),0,[] ⟩,zK 22 21,zF 23 0 22,zL 24 23,zC 25 90 [.t 20,.t 24],zM 4 25]) .ret)))⟩
theorem pf42_is:pfs 42=some pf42:=by kernel_rfl
def pf43:PF:=⟨16,[.t 4],.seq (.reg [zO 3 (.box (.t 1)),zO 4 (.mov (zi 0))]) (.seq (.jk [1002010,0] [zM 5 0,zX 6 (.fy 1 (.t 3)) 1 [],zX 7 (.load false 1 (.t 6)) 2 [1],
 zX 8 (.mov (.t 0)) 3 [],zX 9 (.gy (.t 8)) 4 [3],zX 10 (.fy 3 (.t 9)) 5 [4,3],zX 11 (.fy 2 (.t 10)) 6 [5,4,3],zX 12 (.load false 1 (.t 11)) 7 [6,5,4,3],
 zX 13 (.build [.v (.int .i64 0),.v (.int .i64 0),.v (.string (ByteArray.mk #[])),.v (.pointer none),.sl [] .nil] [(0,1,.c (.v (.int .i64 1))),(1,1,.t 7),(3,1,.t 12)]) 8 [7,6,5,4,3,2,1],
 zX 14 (.box (.t 13)) 9 [8,7,6,5,4,3,2,1],zX 15 (.call (.c (.fn 90 [])) [.t 5,.t 14]) 10 [9,8,7,6,5,4,3,2,1,0],zX 4 (.mov (.t 15)) 11 [10,9,8,7,6,5,4,3,2,1,0]]) .ret)⟩
theorem pf43_is:pfs 43=some pf43:=by kernel_rfl
def pf44:PF:=⟨35,[.t 4],.seq (.reg [zO 3 (.box (.t 1)),zO 4 (.mov (zi 0))]) (.seq (.reg [zM 7 0,zC 8 91 [.t 7],zM 9 0,zC 10 91 [.t 9],zM 5 8,zM 6 10]) (.seq (.seq (.reg [zM 11 6,
 zK 12 11,zF 13 0 12,zL 14 13]) (.block 0 (.seq (.reg [zB 16 .eql (.t 14) (zi 0),zM 15 16]) (.cond (.t 15) (.seq (.reg [zM 17 0,zM 18 6,zC 19 90 [.t 17,.t 18],
 zM 4 19]) .ret) (.seq (.reg [zB 21 .eql (.t 14) (zi 1),zM 20 21]) (.cond (.t 20) (.seq (.jk [12012,0] [zM 22 0,zX 23 (.mov (.t 6)) 1 [],zX 24 (.gy (.t 23)) 2 [1],
 zX 25 (.fy 1 (.t 24)) 3 [2,1],zX 26 (.load false 1 (.t 25)) 4 [3,2,1],zX 27 (.mov (.t 6)) 5 [],zX 28 (.gy (.t 27)) 6 [5],zX 29 (.fy 3 (.t 28)) 7 [6,5],
 zX 30 (.load false 1 (.t 29)) 8 [7,6,5],zX 31 (.mov (.t 5)) 9 [],zX 32 (.bsl (.v (.pointer none)) 1 [(0,1,.t 31)]) 10 [9],zX 33 (.call (.c (.fn 93 [])) [.t 30,.t 32]) 11 [10,9,8,7,6,5],
 zX 34 (.call (.c (.fn 92 [])) [.t 22,.t 26,.t 33]) 12 [11,10,9,8,7,6,5,4,3,2,1,0],zX 4 (.mov (.t 34)) 13 [12,11,10,9,8,7,6,5,4,3,2,1,
 0]]) .ret) .skip)))))) (.seq (.reg [zO 4 (.mov (zi 10))]) .ret)))⟩
theorem pf44_is:pfs 44=some pf44:=by kernel_rfl
def pf45:PF:=⟨48,[.t 4],.seq (.reg [zO 3 (.box (.t 1)),zO 4 (.mov (zi 0))]) (.seq (.reg [zM 6 0,zK 7 6,zF 8 7 7,zL 9 8,zS 10 9,zB 11 .sub (.t 10) (zi 1),
 zM 5 11]) (.seq (.seq (.reg [zM 12 5,zO 13 (.bin .lss (.t 12) (.c (.v (.int .i64 0) )))]) (.cond (.t 13) (.seq (.reg [zM 14 0,zK 15 14,zF 16 9 15,
 zN (.store 1 (.t 16) (zb true))]) (.seq (.reg [zO 4 (.mov (zi 0))]) .ret)) .skip)) (.seq (.reg [⟨some 17,none,.mov (.t 0),0,[] ⟩,zM 18 0,zK 19 18,zF 20 7 19,zL 21 20,zM 22 5,
 zO 23 (.j6 3 (.t 21) (.t 22)),zR 24 3 23,zK 25 17,zO 26 (.fy 3 (.t 25) ),zN (.store 3 (.t 26) (.t 24))]) (.seq (.reg [zM 27 0,zK 28 27,zF 29 7 28,zL 30 29,zM 31 5,
 zO 32 (.build [.v (.int .i64 0),.v (.int .i64 0),.v (.pointer none)] []),zO 33 (.j6 3 (.t 30) (.t 31)),zN (.store 3 (.t 33) (.t 32))]) (.seq (.jk [12,0,0] [zM 34 0,
 zX 35 (.mov (.t 0)) 1 [],zX 36 (.gy (.t 35)) 2 [1],zX 37 (.fy 7 (.t 36)) 3 [2,1],zX 38 (.load false 1 (.t 37)) 4 [3,2,1],zX 39 (.mov (.t 5)) 5 [],zX 40 (.mov (.t 0)) 6 [],
 zX 41 (.gy (.t 40)) 7 [6],zX 42 (.fy 7 (.t 41)) 8 [7,6],zX 43 (.load false 1 (.t 42)) 9 [8,7,6],zX 44 (.Jb (.t 43)) 10 [9,8,7,6],
 zX 45 (.slice 3 (.t 38) none (some (.t 39)) (some (.t 44))) 11 [10,9,8,7,6,5,4,3,2,1],zX 46 (.gy (.t 34)) 12 [11,10,9,8,7,6,5,4,3,2,1,0],zX 47 (.fy 7 (.t 46)) 13 [12,11,10,9,8,7,6,5,
 4,3,2,1,0],⟨none,none,.store 1 (.t 47) (.t 45),14,[13,12,11,10,9,8,7,6,5,4,3,2,1,0]⟩]) (.seq (.reg [zO 4 (.mov (zi 0))]) .ret))))))⟩
theorem pf45_is:pfs 45=some pf45:=by kernel_rfl
def pf46:PF:=⟨40,[.t 4],.seq (.reg [zO 3 (.box (.t 1)),zO 4 (.mov (zi 0))]) (.seq (.jk [7,0] [zM 7 0,zX 8 (.gy (.t 7)) 1 [0],zX 9 (.fy 6 (.t 8)) 2 [1,0],
 zX 10 (.load false 1 (.t 9)) 3 [2,1,0],zX 11 (.m5 (.t 10)) 4 [3,2,1,0],zX 12 (.fy 2 (.t 3)) 5 [],zX 13 (.load false 1 (.t 12)) 6 [5],zX 14 (.bin .sub (.t 11) (.t 13)) 7 [6,5,4,3,2,1,
 0],⟨some 5,none,.mov (.t 14),8,[7,6,5,4,3,2,1,0] ⟩]) (.seq (.jk [11011,0,0] [zF 15 1 3,zX 16 (.load false 1 (.t 15)) 1 [0],zX 17 (.fy 3 (.t 3)) 2 [],
 zX 18 (.load false 1 (.t 17)) 3 [2],zX 19 (.mov (.t 0)) 4 [],zX 20 (.gy (.t 19)) 5 [4],zX 21 (.fy 6 (.t 20)) 6 [5,4],zX 22 (.load false 1 (.t 21)) 7 [6,5,4],zX 23 (.mov (.t 5)) 8 [],
 zX 24 (.slice 1 (.t 22) (some (.t 23)) none none) 9 [8,7,6,5,4],zX 25 (.clone 1 false false (.t 24)) 10 [9,8,7,6,5,4],zX 26 (.build [.v (.int .i64 0),.v (.int .i64 0),
 .v (.string (ByteArray.mk #[])),.v (.pointer none),.sl [] .nil] [(0,1,.c (.v (.int .i64 2))),(1,1,.t 16),(2,1,.t 18),(4,1,.t 25)]) 11 [10,9,8,7,6,5,4,3,2,1,0],zX 27 (.box (.t 26)) 12 [11,
 10,9,8,7,6,5,4,3,2,1,0],zX 6 (.mov (.t 27)) 13 [12,11,10,9,8,7,6,5,4,3,2,1,0]]) (.seq (.reg [zM 28 0,zM 29 0,zK 30 29,zF 31 6 30,zL 32 31,zM 33 5,
 zO 34 (.slice 1 (.t 32) none (some (.t 33)) none),zK 35 28,zF 36 6 35,zN (.store 1 (.t 36) (.t 34))]) (.seq (.reg [zM 37 0,zM 38 6,zC 39 90 [.t 37,.t 38],zM 4 39]) .ret))))⟩
theorem pf46_is:pfs 46=some pf46:=by kernel_rfl
def pf47:PF:=⟨96,[.t 4],.seq (.reg [zO 3 (.box (.t 1)),zO 4 (.mov (zi 0))]) (.seq (.jk [25,0] [zM 7 0,zX 8 (.gy (.t 7)) 1 [0],zX 9 (.fy 0 (.t 8)) 2 [1,0],
 zX 10 (.fy 0 (.t 9)) 3 [2,1,0],zX 11 (.load false 1 (.t 10)) 4 [3,2,1,0],zX 12 (.mov (.t 0)) 5 [],zX 13 (.gy (.t 12)) 6 [5],zX 14 (.fy 3 (.t 13)) 7 [6,5],
 zX 15 (.fy 0 (.t 14)) 8 [7,6,5],zX 16 (.load false 1 (.t 15)) 9 [8,7,6,5],zX 17 (.j6 1 (.t 11) (.t 16)) 10 [9,8,7,6,5,4,3,2,1,0],zX 18 (.load false 1 (.t 17)) 11 [10,9,8,7,6,5,4,3,2,
 1,0],zX 19 (.mov (.t 0)) 12 [],zX 20 (.gy (.t 19)) 13 [12],zX 21 (.fy 3 (.t 20)) 14 [13,12],zX 22 (.fy 1 (.t 21)) 15 [14,13,12],zX 23 (.load false 1 (.t 22)) 16 [15,14,13,12],
 zX 24 (.mov (.t 0)) 17 [],zX 25 (.gy (.t 24)) 18 [17],zX 26 (.fy 3 (.t 25)) 19 [18,17],zX 27 (.fy 1 (.t 26)) 20 [19,18,17],zX 28 (.load false 1 (.t 27)) 21 [20,19,18,17],
 zX 29 (.fy 1 (.t 3)) 22 [],zX 30 (.load false 1 (.t 29)) 23 [22],zX 31 (.bin .add (.t 28) (.t 30)) 24 [23,22,21,20,19,18,17],
 zX 32 (.slice 4 (.t 18) (some (.t 23)) (some (.t 31)) none) 25 [24,23,22,21,20,19,18,17,16,15,14,13,12,11,10,9,8,7,6,5,4,3,2,1,0],zX 5 (.mov (.t 32)) 26 [25,24,23,22,21,20,19,18,17,16,15,
 14,13,12,11,10,9,8,7,6,5,4,3,2,1,0]]) (.seq (.reg [zM 33 0,zC 34 91 [.t 33],zM 6 34]) (.seq (.seq (.jk [0,0,0,0,0,0,6,0,0,13,0] [zM 35 6,zX 36 (.gy (.t 35)) 1 [0],
 zX 37 (.fy 0 (.t 36)) 2 [1,0],zX 38 (.load false 1 (.t 37)) 3 [2,1,0],zX 39 (.bin .neq (.t 38) (zi 2)) 4 [3,2,1,0],zX 40 (.mov (.t 39)) 5 [4,3,2,1,0],zY 41 40 false (.mov (.t 6)) 6 [5,4,
 3,2,1,0],zY 42 40 false (.gy (.t 41)) 7 [6,5,4,3,2,1,0],zY 43 40 false (.fy 1 (.t 42)) 8 [7,6,5,4,3,2,1,0],zY 44 40 false (.load false 1 (.t 43)) 9 [8,7,6,5,4,3,2,1,0],
 zY 45 40 false (.mov (.t 5)) 10 [5,4,3,2,1,0],zY 46 40 false (.m5 (.t 45)) 11 [10,5,4,3,2,1,0],zY 47 40 false (.bin .geq (.t 44) (.t 46)) 12 [11,10,9,8,7,6,5,4,3,2,1,0],
 zX 48 (.pick (.t 40) (zb true) (.t 47)) 13 [12,11,10,9,8,7,6,5,4,3,2,1,0],zX 49 (.mov (.t 48)) 14 [13,12,11,10,9,8,7,6,5,4,3,2,1,0],zY 50 49 false (.mov (.t 5)) 15 [14,13,12,11,10,9,8,7,6,
 5,4,3,2,1,0],zY 51 49 false (.mov (.t 6)) 16 [14,13,12,11,10,9,8,7,6,5,4,3,2,1,0],zY 52 49 false (.gy (.t 51)) 17 [16,14,13,12,11,10,9,8,7,6,5,4,3,2,1,0],
 zY 53 49 false (.fy 1 (.t 52)) 18 [17,16,14,13,12,11,10,9,8,7,6,5,4,3,2,1,0],zY 54 49 false (.load false 1 (.t 53)) 19 [18,17,16,14,13,12,11,10,9,8,7,6,5,4,3,2,1,0],
 zY 55 49 false (.j6 4 (.t 50) (.t 54)) 20 [19,18,17,16,15,14,13,12,11,10,9,8,7,6,5,4,3,2,1,0],zY 56 49 false (.fy 2 (.t 55)) 21 [20,19,18,17,16,15,14,13,12,11,10,9,8,7,6,5,4,3,2,1,0],
 zY 57 49 false (.load false 1 (.t 56)) 22 [21,20,19,18,17,16,15,14,13,12,11,10,9,8,7,6,5,4,3,2,1,0],zY 58 49 false (.mov (.t 6)) 23 [14,13,12,11,10,9,8,7,6,5,4,3,2,1,0],
 zY 59 49 false (.gy (.t 58)) 24 [23,14,13,12,11,10,9,8,7,6,5,4,3,2,1,0],zY 60 49 false (.fy 4 (.t 59)) 25 [24,23,14,13,12,11,10,9,8,7,6,5,4,3,2,1,0],
 zY 61 49 false (.load false 1 (.t 60)) 26 [25,24,23,14,13,12,11,10,9,8,7,6,5,4,3,2,1,0],zY 62 49 false (.m5 (.t 61)) 27 [26,25,24,23,14,13,12,11,10,9,8,7,6,5,4,3,2,1,0],
 zY 63 49 false (.bin .neq (.t 57) (.t 62)) 28 [27,26,25,24,23,22,21,20,19,18,17,16,15,14,13,12,11,10,9,8,7,6,5,4,3,2,1,0],zX 64 (.pick (.t 49) (zb true) (.t 63)) 29 [28,27,26,25,24,23,22,
 21,20,19,18,17,16,15,14,13,12,11,10,9,8,7,6,5,4,3,2,1,0]]) (.cond (.t 64) (.seq (.reg [zO 4 (.mov (zi 10))]) .ret) .skip)) (.seq (.jk [7,0,0,0,0] [zM 65 0,zX 66 (.gy (.t 65)) 1 [0],
 zX 67 (.fy 3 (.t 66)) 2 [1,0],zX 68 (.fy 1 (.t 67)) 3 [2,1,0],zX 69 (.load false 1 (.t 68)) 4 [3,2,1,0],zX 70 (.fy 1 (.t 3)) 5 [],zX 71 (.load false 1 (.t 70)) 6 [5],
 zX 72 (.bin .add (.t 69) (.t 71)) 7 [6,5,4,3,2,1,0],zX 73 (.gy (.t 65)) 8 [7,6,5,4,3,2,1,0],zX 74 (.fy 3 (.t 73)) 9 [8,7,6,5,4,3,2,1,0],zX 75 (.fy 1 (.t 74)) 10 [9,8,7,6,5,4,3,2,1,
 0],⟨none,none,.store 1 (.t 75) (.t 72),11,[10,9,8,7,6,5,4,3,2,1,0]⟩]) (.seq (.jk [19019,0] [zM 76 0,zX 77 (.mov (.t 5)) 1 [],zX 78 (.mov (.t 6)) 2 [],zX 79 (.gy (.t 78)) 3 [2],
 zX 80 (.fy 1 (.t 79)) 4 [3,2],zX 81 (.load false 1 (.t 80)) 5 [4,3,2],zX 82 (.j6 4 (.t 77) (.t 81)) 6 [5,4,3,2,1],zX 83 (.fy 1 (.t 82)) 7 [6,5,4,3,2,1],
 zX 84 (.load false 1 (.t 83)) 8 [7,6,5,4,3,2,1],zX 85 (.mov (.t 0)) 9 [],zX 86 (.gy (.t 85)) 10 [9],zX 87 (.fy 3 (.t 86)) 11 [10,9],zX 88 (.fy 2 (.t 87)) 12 [11,10,9],
 zX 89 (.load false 1 (.t 88)) 13 [12,11,10,9],zX 90 (.mov (.t 6)) 14 [],zX 91 (.gy (.t 90)) 15 [14],zX 92 (.fy 4 (.t 91)) 16 [15,14],zX 93 (.load false 1 (.t 92)) 17 [16,15,14],
 zX 94 (.call (.c (.fn 93 [])) [.t 89,.t 93]) 18 [17,16,15,14,13,12,11,10,9],zX 95 (.call (.c (.fn 92 [])) [.t 76,.t 84,.t 94]) 19 [18,17,16,15,14,13,12,11,10,9,8,7,6,5,4,3,2,1,0],
 zX 4 (.mov (.t 95)) 20 [19,18,17,16,15,14,13,12,11,10,9,8,7,6,5,4,3,2,1,0]]) .ret)))))⟩
theorem pf47_is:pfs 47=some pf47:=by kernel_rfl
def pf49:PF:=⟨16,[.t 4],.seq (.reg [zO 3 (.box (.t 1)),zO 4 (.mov (zi 0))]) (.seq (.jk [10,0] [zM 5 0,zX 6 (.mov (.t 0)) 1 [],zX 7 (.gy (.t 6)) 2 [1],zX 8 (.fy 0 (.t 7)) 3 [2,1],
 zX 9 (.fy 2 (.t 8)) 4 [3,2,1],zX 10 (.load false 1 (.t 9)) 5 [4,3,2,1],zX 11 (.fy 1 (.t 3)) 6 [],zX 12 (.load false 1 (.t 11)) 7 [6],zX 13 (.j6 1 (.t 10) (.t 12)) 8 [7,6,5,4,3,2,
 1],zX 14 (.load false 1 (.t 13)) 9 [8,7,6,5,4,3,2,1],zX 15 (.call (.c (.fn 92 [])) [.t 5,.t 14,.c (.v (.pointer none))]) 10 [9,8,7,6,5,4,3,2,1,0],zX 4 (.mov (.t 15)) 11 [10,9,8,7,6,5,4,3,2,
 1,0]]) .ret)⟩
theorem pf49_is:pfs 49=some pf49:=by kernel_rfl
def pf50:PF:=⟨9,[.t 4],.seq (.reg [zO 3 (.box (.t 1)),zO 4 (.mov (zi 0))]) (.seq (.reg [zM 5 0,zO 6 (.build [.v (.int .i64 0),.v (.int .i64 0),.v (.string (ByteArray.mk #[])),
 .v (.pointer none),.sl [] .nil] []),zO 7 (.box (.t 6)),zC 8 90 [.t 5,.t 7],zM 4 8]) .ret)⟩
theorem pf50_is:pfs 50=some pf50:=by kernel_rfl
def pf51:PF:=⟨18,[.t 4],.seq (.reg [zO 3 (.box (.t 1)),zO 4 (.mov (zi 0))]) (.seq (.jk [9000000,7008,0,0,0,0] [zM 5 0,zM 6 0,zX 7 (.gy (.t 6)) 1 [0],zX 8 (.fy 3 (.t 7)) 2 [1,0],
 zX 9 (.fy 2 (.t 8)) 3 [2,1,0],zX 10 (.load false 1 (.t 9)) 4 [3,2,1,0],zX 11 (.mov (.t 0)) 5 [],zX 12 (.call (.c (.fn 91 [])) [.t 11]) 6 [5],zX 13 (.bsl (.v (.pointer none)) 1 [(0,1,
 .t 12)]) 7 [6,5],zX 14 (.call (.c (.fn 93 [])) [.t 10,.t 13]) 8 [7,6,5,4,3,2,1,0],zX 15 (.gy (.t 5)) 9 [8,7,6,5,4,3,2,1,0],zX 16 (.fy 3 (.t 15)) 10 [9,8,7,6,5,4,3,2,1,0],
 zX 17 (.fy 2 (.t 16)) 11 [10,9,8,7,6,5,4,3,2,1,0],⟨none,none,.store 1 (.t 17) (.t 14),12,[11,10,9,8,7,6,5,4,3,2,1,0] ⟩]) (.seq (.reg [zO 4 (.mov (zi 0))]) .ret))⟩
theorem pf51_is:pfs 51=some pf51:=by kernel_rfl
def pf52:PF:=⟨17,[.t 4],.seq (.reg [zO 3 (.box (.t 1)),zO 4 (.mov (zi 0))]) (.seq (.reg [zM 5 0,zM 6 0,zK 7 6,zF 8 3 7,zF 9 2 8,zL 10 9,zK 11 10,zF 12 1 11,zL 13 12,zK 14 5,zF 15 3 14,
 zF 16 2 15,zN (.store 1 (.t 16) (.t 13))]) (.seq (.reg [zO 4 (.mov (zi 0))]) .ret))⟩
theorem pf52_is:pfs 52=some pf52:=by kernel_rfl
def pf53:PF:=⟨18,[.t 4],.seq (.reg [zO 3 (.box (.t 1)),zO 4 (.mov (zi 0))]) (.seq (.reg [zM 7 0,zC 8 91 [.t 7],zM 9 0,zC 10 91 [.t 9],zM 5 8,zM 6 10]) (.seq (.reg [zM 11 0,zM 12 6,
 zM 13 5,zO 14 (.bsl (.v (.pointer none)) 2 [(0,1,.t 12),(1,1,.t 13)]),zO 15 (.build [.v (.int .i64 0),.v (.int .i64 0),.v (.string (ByteArray.mk #[])),.v (.pointer none),.sl [] .nil] [(0,1,
 .c (.v (.int .i64 3))),(4,1,.t 14)]),zO 16 (.box (.t 15)),zC 17 90 [.t 11,.t 16],zM 4 17]) .ret))⟩
theorem pf53_is:pfs 53=some pf53:=by kernel_rfl
def pf54:PF:=⟨7,[.t 4],.seq (.reg [zO 3 (.box (.t 1)),zO 4 (.mov (zi 0))]) (.seq (.reg [zM 5 0,zC 6 95 [.t 5,.c (.v (.int .i64 0))],zM 4 6]) .ret)⟩
theorem pf54_is:pfs 54=some pf54:=by kernel_rfl
def pf55:PF:=⟨7,[.t 4],.seq (.reg [zO 3 (.box (.t 1)),zO 4 (.mov (zi 0))]) (.seq (.reg [zM 5 0,zC 6 95 [.t 5,.c (.v (.int .i64 1))],zM 4 6]) .ret)⟩
theorem pf55_is:pfs 55=some pf55:=by kernel_rfl
def pf56:PF:=⟨5,[.t 4],.seq (.reg [zO 3 (.box (.t 1)),zO 4 (.mov (zi 0))]) (.seq (.reg [zO 4 (.mov (zi 30))]) .ret)⟩
theorem pf56_is:pfs 56=some pf56:=by kernel_rfl
def pf57:PF:=⟨6,[.t 2],.seq (.reg [zO 1 (.box (.t 0)),zO 2 (.mov (.c (.v (.pointer none))))]) (.seq (.reg [zR 3 3 1,zO 4 (.build [.sl [] .nil,.sl [] .nil,.sl [] .nil,.v (.int .i64 0),
 .v (.int .i64 0),.sl [] .nil,.sl [] .nil,.sl [] .nil,.v (.int .i64 0),.v (.bool false)] [(0,3,.t 3)]),zO 5 (.box (.t 4)),zM 2 5]) .ret)⟩
theorem pf57_is:pfs 57=some pf57:=by kernel_rfl
def pf58:PF:=⟨42,[.t 2],.seq (.reg [zO 2 (.mov (zb false))]) (.seq (.seq (.reg [zM 3 0,zK 4 3,zF 5 0 4,zL 6 5,zK 7 6,zF 8 9 7,zL 9 8 ,zO 10 (.un .not (.t 9)),zM 11 10,yM 12 11 false 0,
 yK 13 11 false 12,yF 14 11 false 0 13,yL 15 11 false 14,yK 16 11 false 15,yF 17 11 false 6 16,yL 18 11 false 17,zG 19 11 false (.m5 (.t 18)),yB 20 11 false .eql (.t 19) (zi 0),
 zQ 21 11 true 20]) (.cond (.t 21) (.seq (.reg [zO 2 (.mov (zb true))]) .ret) .skip)) (.seq (.jk [16,0,0,0,0] [zM 22 0,zX 23 (.gy (.t 22)) 1 [0],zX 24 (.fy 0 (.t 23)) 2 [1,0],
 zX 25 (.load false 1 (.t 24)) 3 [2,1,0],zX 26 (.gy (.t 25)) 4 [3,2,1,0],zX 27 (.fy 6 (.t 26)) 5 [4,3,2,1,0],zX 28 (.load false 1 (.t 27)) 6 [5,4,3,2,1,0],zX 29 (.mov (.t 0)) 7 [],
 zX 30 (.gy (.t 29)) 8 [7],zX 31 (.fy 0 (.t 30)) 9 [8,7],zX 32 (.load false 1 (.t 31)) 10 [9,8,7],zX 33 (.gy (.t 32)) 11 [10,9,8,7],zX 34 (.fy 6 (.t 33)) 12 [11,10,9,8,7],
 zX 35 (.load false 1 (.t 34)) 13 [12,11,10,9,8,7],zX 36 (.m5 (.t 35)) 14 [13,12,11,10,9,8,7],zX 37 (.bin .sub (.t 36) (zi 1)) 15 [14,13,12,11,10,9,8,7],
 zX 38 (.j6 4 (.t 28) (.t 37)) 16 [15,14,13,12,11,10,9,8,7,6,5,4,3,2,1,0],zX 39 (.load true 4 (.t 38)) 17 [16,15,14,13,12,11,10,9,8,7,6,5,4,3,2,1,0],zX 40 (.call (.c (.fn 96 [])) [.t 39,
 .c (.v (.int .i64 16384))]) 18 [17,16,15,14,13,12,11,10,9,8,7,6,5,4,3,2,1,0],zX 41 (.bin .geq (.t 40) (zi 0)) 19 [18,17,16,15,14,13,12,11,10,9,8,7,6,5,4,3,2,1,0],zX 2 (.mov (.t 41)) 20 [19,
 18,17,16,15,14,13,12,11,10,9,8,7,6,5,4,3,2,1,0]]) .ret))⟩
theorem pf58_is:pfs 58=some pf58:=by kernel_rfl
def pf59:PF:=⟨10,[.t 2],.seq (.reg [zO 2 (.mov (zi 0))]) (.seq (.reg [zM 3 0,zK 4 3,zF 5 0 4,zL 6 5,zK 7 6,zF 8 8 7,zL 9 8 ,zM 2 9]) .ret)⟩
theorem pf59_is:pfs 59=some pf59:=by kernel_rfl
def pf60:PF:=⟨11,[.t 2],.seq (.reg [zO 2 (.mov (zi 0))]) (.seq (.reg [zM 3 0,zK 4 3,zF 5 0 4,zL 6 5,zK 7 6,zF 8 7 7,zL 9 8 ,zS 10 9,zM 2 10]) .ret)⟩
theorem pf60_is:pfs 60=some pf60:=by kernel_rfl
def pf61:PF:=⟨71,[.c 2 true 2,.t 3],.seq (.reg [zO 2 (.alloc [.v (.string (ByteArray.mk #[])),.sl [] .nil]),zO 3 (.mov (zi 0))]) (.seq (.seq (.reg [zM 9 0,zK 10 9,zF 11 1 10,zL 12 11,
 zB 13 .neq (.t 12) (zi 0),zM 14 13,yM 15 14 false 0,yK 16 14 false 15,yF 17 14 false 0 16,yL 18 14 false 17,yK 19 14 false 18,yF 20 14 false 9 19,yL 21 14 false 20,
 zG 22 14 false (.un .not (.t 21)),zQ 23 14 true 22,zM 24 23,yM 25 24 false 0,yK 26 24 false 25,yF 27 24 false 0 26,yL 28 24 false 27,yK 29 24 false 28,yF 30 24 false 6 29,yL 31 24 false 30,
 zG 32 24 false (.m5 (.t 31)),yB 33 24 false .eql (.t 32) (zi 0),zQ 34 24 true 33]) (.cond (.t 34) (.seq (.reg [zO 35 (.build [.v (.string (ByteArray.mk #[])),.sl [] .nil] []),
 zN (.store 2 (.t 2) (.t 35)),zO 3 (.mov (zi 27))]) .ret) .skip)) (.seq (.jk [19] [zX 4 (.alloc [.v (.int .i64 0),.v (.int .i64 0),.v (.string (ByteArray.mk #[])),.sl [] .nil]) 18 [],
 zM 36 0,zX 37 (.gy (.t 36)) 1 [0],zX 38 (.fy 0 (.t 37)) 2 [1,0],zX 39 (.load false 1 (.t 38)) 3 [2,1,0],zX 40 (.gy (.t 39)) 4 [3,2,1,0],zX 41 (.fy 6 (.t 40)) 5 [4,3,2,1,0],
 zX 42 (.load false 1 (.t 41)) 6 [5,4,3,2,1,0],zX 43 (.mov (.t 0)) 7 [],zX 44 (.gy (.t 43)) 8 [7],zX 45 (.fy 0 (.t 44)) 9 [8,7],zX 46 (.load false 1 (.t 45)) 10 [9,8,7],
 zX 47 (.gy (.t 46)) 11 [10,9,8,7],zX 48 (.fy 6 (.t 47)) 12 [11,10,9,8,7],zX 49 (.load false 1 (.t 48)) 13 [12,11,10,9,8,7],zX 50 (.m5 (.t 49)) 14 [13,12,11,10,9,8,7],
 zX 51 (.bin .sub (.t 50) (zi 1)) 15 [14,13,12,11,10,9,8,7],zX 52 (.j6 4 (.t 42) (.t 51)) 16 [15,14,13,12,11,10,9,8,7,6,5,4,3,2,1,0],zX 53 (.load true 4 (.t 52)) 17 [16,15,14,13,12,11,10,
 9,8,7,6,5,4,3,2,1,0],⟨none,none,.store 4 (.t 4) (.t 53),19,[17,16,15,14,13,12,11,10,9,8,7,6,5,4,3,2,1,0,18]⟩]) (.seq (.reg [zR 55 4 4,zC 56 97 [.t 55,.c (.v (.int .i64 4097))],zM 54 56,
 zE 57 54 0,zE 58 54 1,zM 5 57,zM 6 58]) (.seq (.seq (.reg [zM 59 6,zO 60 (.un .not (.t 59))]) (.cond (.t 60) (.seq (.reg [zO 61 (.build [.v (.string (ByteArray.mk #[])),.sl [] .nil] []),
 zN (.store 2 (.t 2) (.t 61)),zO 3 (.mov (zi 10))]) .ret) .skip)) (.seq (.seq (.reg [zM 62 5,
 zB 63 .gtr (.t 62) (zi 4096)]) (.cond (.t 63) (.seq (.reg [zO 64 (.build [.v (.string (ByteArray.mk #[])),.sl [] .nil] []),zN (.store 2 (.t 2) (.t 64)),
 zO 3 (.mov (zi 5))]) .ret) .skip)) (.seq (.reg [zR 66 4 4,zC 67 98 [.t 66],zM 65 67,zE 68 65 0,zE 69 65 1,zO 7 (.alloc [.v (.string (ByteArray.mk #[])),.sl [] .nil]),
 zN (.store 2 (.t 7) (.t 68)),zM 8 69]) (.seq (.reg [zR 70 2 7,zN (.store 2 (.t 2) (.t 70)),zO 3 (.mov (zi 0))]) .ret)))))))⟩
theorem pf61_is:pfs 61=some pf61:=by kernel_rfl
def pf62:PF:=⟨242,[.t 2],.seq (.reg [zO 2 (.mov (zi 0))]) (.seq (.jk [20] [zX 3 (.alloc [.v (.int .i64 0),.v (.int .i64 0),.v (.int .i64 0),.v (.string (ByteArray.mk #[]))]) 19 [],
 zM 9 0,zX 10 (.gy (.t 9)) 1 [0],zX 11 (.fy 0 (.t 10)) 2 [1,0],zX 12 (.fy 0 (.t 11)) 3 [2,1,0],zX 13 (.load false 1 (.t 12)) 4 [3,2,1,0],zX 14 (.mov (.t 0)) 5 [],
 zX 15 (.gy (.t 14)) 6 [5],zX 16 (.fy 3 (.t 15)) 7 [6,5],zX 17 (.fy 0 (.t 16)) 8 [7,6,5],zX 18 (.load false 1 (.t 17)) 9 [8,7,6,5],zX 19 (.j6 1 (.t 13) (.t 18)) 10 [9,8,7,6,5,4,
 3,2,1,0],zX 20 (.load false 1 (.t 19)) 11 [10,9,8,7,6,5,4,3,2,1,0],zX 21 (.mov (.t 0)) 12 [],zX 22 (.gy (.t 21)) 13 [12],zX 23 (.fy 3 (.t 22)) 14 [13,12],
 zX 24 (.fy 1 (.t 23)) 15 [14,13,12],zX 25 (.load false 1 (.t 24)) 16 [15,14,13,12],zX 26 (.j6 4 (.t 20) (.t 25)) 17 [16,15,14,13,12,11,10,9,8,7,6,5,4,3,2,1,0],
 zX 27 (.load true 4 (.t 26)) 18 [17,16,15,14,13,12,11,10,9,8,7,6,5,4,3,2,1,0],⟨none,none,.store 4 (.t 3) (.t 27),20,[18,17,16,15,14,13,12,11,10,9,8,7,6,5,4,3,2,1,0,
 19]⟩]) (.seq (.reg [zM 28 0,zK 29 28,zF 30 3 29,zF 31 1 30,zL 32 31,zB 33 .add (.t 32) (zi 1),zK 34 28,zF 35 3 34,zF 36 1 35,zN (.store 1 (.t 36) (.t 33))]) (.seq (.reg [zM 37 0,zK 38 37,
 zF 39 8 38,zL 40 39,zB 41 .add (.t 40) (zi 1),zK 42 37,zF 43 8 42,zN (.store 1 (.t 43) (.t 41))]) (.seq (.reg [zM 44 0,zK 45 44,zF 46 3 45,zF 47 2 46,zL 48 47,
 zM 4 48]) (.seq (.seq (.reg [zF 49 0 3,zL 50 49]) (.block 0 (.seq (.reg [zB 52 .eql (.t 50) (zi 0),zM 51 52]) (.cond (.t 51) (.reg [zM 53 0,zM 54 4,zM 55 4,zS 56 55,
 zB 57 .sub (.t 56) (zi 1),zF 58 1 3,zL 59 58,zB 60 .sub (.t 57) (.t 59),zO 61 (.j6 4 (.t 54) (.t 60)),zR 62 4 61,zC 63 99 [.t 53,.t 62]]) (.seq (.reg [zB 65 .eql (.t 50) (zi 1),
 zM 64 65]) (.cond (.t 64) (.reg [zM 66 0,zF 67 1 3,zL 68 67,zM 69 4,zO 70 (.build [.v (.int .i64 0),.v (.int .i64 0),.v (.string (ByteArray.mk #[])),.sl [] .nil] [(0,1,
 .c (.v (.int .i64 1))),(1,1,.t 68),(3,1,.t 69)]),zC 71 99 [.t 66,.t 70]]) (.seq (.reg [zB 73 .eql (.t 50) (zi 2),zM 72 73]) (.cond (.t 72) (.seq (.reg [zM 74 0,zC 75 100 [.t 74],
 zM 2 75]) .ret) (.seq (.reg [zB 77 .eql (.t 50) (zi 3),zM 76 77]) (.cond (.t 76) (.seq (.seq (.reg [zM 78 0,zK 79 78,zF 80 7 79,zL 81 80,zS 82 81,
 zB 83 .eql (.t 82) (zi 0)]) (.cond (.t 83) (.seq (.reg [zM 84 0,zK 85 84,zF 86 9 85,zN (.store 1 (.t 86) (zb true))]) (.seq (.reg [zO 2 (.mov (zi 0))]) .ret)) .skip)) (.seq (.jk [13,0,
 0] [zM 87 0,zX 88 (.mov (.t 0)) 1 [],zX 89 (.gy (.t 88)) 2 [1],zX 90 (.fy 7 (.t 89)) 3 [2,1],zX 91 (.load false 1 (.t 90)) 4 [3,2,1],zX 92 (.mov (.t 0)) 5 [],
 zX 93 (.gy (.t 92)) 6 [5],zX 94 (.fy 7 (.t 93)) 7 [6,5],zX 95 (.load false 1 (.t 94)) 8 [7,6,5],zX 96 (.m5 (.t 95)) 9 [8,7,6,5],zX 97 (.bin .sub (.t 96) (zi 1)) 10 [9,8,7,6,5],
 zX 98 (.j6 3 (.t 91) (.t 97)) 11 [10,9,8,7,6,5,4,3,2,1],zX 99 (.load true 3 (.t 98)) 12 [11,10,9,8,7,6,5,4,3,2,1],zX 100 (.gy (.t 87)) 13 [12,11,10,9,8,7,6,5,4,3,2,1,0],
 zX 101 (.fy 3 (.t 100)) 14 [13,12,11,10,9,8,7,6,5,4,3,2,1,0],⟨none,none,.store 3 (.t 101) (.t 99),15,[14,13,12,11,10,9,8,7,6,5,4,3,2,1,0]⟩]) (.jk [12,0,0] [zM 102 0,
 zX 103 (.mov (.t 0)) 1 [],zX 104 (.gy (.t 103)) 2 [1],zX 105 (.fy 7 (.t 104)) 3 [2,1],zX 106 (.load false 1 (.t 105)) 4 [3,2,1],zX 107 (.mov (.t 0)) 5 [],
 zX 108 (.gy (.t 107)) 6 [5],zX 109 (.fy 7 (.t 108)) 7 [6,5],zX 110 (.load false 1 (.t 109)) 8 [7,6,5],zX 111 (.m5 (.t 110)) 9 [8,7,6,5],zX 112 (.bin .sub (.t 111) (zi 1)) 10 [9,8,7,
 6,5],zX 113 (.slice 3 (.t 106) none (some (.t 112)) none) 11 [10,9,8,7,6,5,4,3,2,1],zX 114 (.gy (.t 102)) 12 [11,10,9,8,7,6,5,4,3,2,1,0],zX 115 (.fy 7 (.t 114)) 13 [12,11,10,9,8,7,6,
 5,4,3,2,1,0],⟨none,none,.store 1 (.t 115) (.t 113),14,[13,12,11,10,9,8,7,6,5,4,3,2,1,0]⟩]))) (.seq (.reg [zB 117 .eql (.t 50) (zi 4),zM 116 117]) (.cond (.t 116) (.seq (.jk [7,
 0] [zM 118 0,zX 119 (.gy (.t 118)) 1 [0],zX 120 (.fy 6 (.t 119)) 2 [1,0],zX 121 (.load false 1 (.t 120)) 3 [2,1,0],zX 122 (.m5 (.t 121)) 4 [3,2,1,0],zX 123 (.fy 2 (.t 3)) 5 [],
 zX 124 (.load false 1 (.t 123)) 6 [5],zX 125 (.bin .sub (.t 122) (.t 124)) 7 [6,5,4,3,2,1,0],zX 5 (.mov (.t 125)) 8 [7,6,5,4,3,2,1,0]]) (.seq (.jk [13] [zX 6 (.alloc [.v (.int .i64 0),
 .v (.int .i64 0),.v (.string (ByteArray.mk #[])),.sl [] .nil]) 12 [],zF 126 1 3,zX 127 (.load false 1 (.t 126)) 1 [0],zX 128 (.fy 3 (.t 3)) 2 [],zX 129 (.load false 1 (.t 128)) 3 [2],
 zX 130 (.mov (.t 0)) 4 [],zX 131 (.gy (.t 130)) 5 [4],zX 132 (.fy 6 (.t 131)) 6 [5,4],zX 133 (.load false 1 (.t 132)) 7 [6,5,4],zX 134 (.mov (.t 5)) 8 [],
 zX 135 (.slice 4 (.t 133) (some (.t 134)) none none) 9 [8,7,6,5,4],zX 136 (.call (.c (.fn 101 [])) [.t 135,.c (.sl [] .nil)]) 10 [9,8,7,6,5,4],zX 137 (.build [.v (.int .i64 0),
 .v (.int .i64 0),.v (.string (ByteArray.mk #[])),.sl [] .nil] [(0,1,.c (.v (.int .i64 2))),(1,1,.t 127),(2,1,.t 129),(3,1,.t 136)]) 11 [10,9,8,7,6,5,4,3,2,1,0],⟨none,none,
 .store 4 (.t 6) (.t 137),13,[11,10,9,8,7,6,5,4,3,2,1,0,12]⟩ ]) (.seq (.reg [zM 138 0,zM 139 0,zK 140 139,zF 141 6 140,zL 142 141,zM 143 5,
 zO 144 (.slice 4 (.t 142) none (some (.t 143)) none),zK 145 138,zF 146 6 145,zN (.store 1 (.t 146) (.t 144))]) (.reg [zM 147 0,zR 148 4 6,zC 149 99 [.t 147,
 .t 148]])))) (.seq (.reg [zB 151 .eql (.t 50) (zi 5),zO 150 (.mov (.t 151) )]) (.cond (.t 150) (.seq (.jk [27,0] [zM 152 0,zX 153 (.mov (.t 0)) 1 [],zX 154 (.gy (.t 153)) 2 [1],
 zX 155 (.fy 0 (.t 154)) 3 [2,1],zX 156 (.fy 0 (.t 155)) 4 [3,2,1],zX 157 (.load false 1 (.t 156)) 5 [4,3,2,1],zX 158 (.mov (.t 0)) 6 [],zX 159 (.gy (.t 158)) 7 [6],
 zX 160 (.fy 3 (.t 159)) 8 [7,6],zX 161 (.fy 0 (.t 160)) 9 [8,7,6],zX 162 (.load false 1 (.t 161)) 10 [9,8,7,6],zX 163 (.j6 1 (.t 157) (.t 162)) 11 [10,9,8,7,6,5,4,3,2,1],
 zX 164 (.load false 1 (.t 163)) 12 [11,10,9,8,7,6,5,4,3,2,1],⟨some 165,none,.mov (.t 0),13,[] ⟩,zX 166 (.gy (.t 165)) 14 [13],zX 167 (.fy 3 (.t 166)) 15 [14,13],
 zX 168 (.fy 1 (.t 167)) 16 [15,14,13],zX 169 (.load false 1 (.t 168)) 17 [16,15,14,13],zX 170 (.mov (.t 0)) 18 [],zX 171 (.gy (.t 170)) 19 [18],zX 172 (.fy 3 (.t 171)) 20 [19,18],
 zX 173 (.fy 1 (.t 172)) 21 [20,19,18],zX 174 (.load false 1 (.t 173)) 22 [21,20,19,18],zX 175 (.fy 1 (.t 3)) 23 [],zX 176 (.load false 1 (.t 175)) 24 [23],
 zX 177 (.bin .add (.t 174) (.t 176)) 25 [24,23,22,21,20,19,18],zX 178 (.slice 4 (.t 164) (some (.t 169)) (some (.t 177)) none) 26 [25,24,23,22,21,20,19,18,17,16,15,14,13,12,11,10,9,8,7,6,5,
 4,3,2,1],zX 179 (.call (.c (.fn 102 [])) [.t 152,.t 178]) 27 [26,25,24,23,22,21,20,19,18,17,16,15,14,13,12,11,10,9,8,7,6,5,4,3,2,1,0],zX 2 (.mov (.t 179)) 28 [27,26,25,24,23,22,21,20,19,18,
 17,16,15,14,13,12,11,10,9,8,7,6,5,4,3,2,1,0]]) .ret) (.seq (.reg [zB 181 .eql (.t 50) (zi 7),zM 180 181]) (.cond (.t 180) (.jk [10] [zO 182 (.mov (.t 0) ),zX 183 (.mov (.t 0)) 1 [],
 zX 184 (.gy (.t 183)) 2 [1],zX 185 (.fy 0 (.t 184)) 3 [2,1],zX 186 (.fy 2 (.t 185)) 4 [3,2,1],zX 187 (.load false 1 (.t 186)) 5 [4,3,2,1],zX 188 (.fy 1 (.t 3)) 6 [],
 zX 189 (.load false 1 (.t 188)) 7 [6],zX 190 (.j6 1 (.t 187) (.t 189)) 8 [7,6,5,4,3,2,1],zX 191 (.load false 1 (.t 190)) 9 [8,7,6,5,4,3,2,1],zX 192 (.call (.c (.fn 103 [])) [.t 182,
 .t 191,.c (.sl [] .nil)]) 10 [9,8,7,6,5,4,3,2,1,0]]) (.seq (.reg [zB 194 .eql (.t 50) (zi 8),zM 193 194]) (.cond (.t 193) (.reg [zM 195 0,zO 196 (.build [.v (.int .i64 0),.v (.int .i64 0),
 .v (.string (ByteArray.mk #[])),.sl [] .nil] []),zO 197 (.call (.c (.fn 99 [] )) [.t 195,.t 196])]) (.seq (.reg [zB 199 .eql (.t 50) (zi 9),zM 198 199]) (.cond (.t 198) (.reg [zM 200 0,
 zM 201 4,zM 202 0,zC 203 104 [.t 202],zO 204 (.bsl (.agg [.v (.int .i64 0),.v (.int .i64 0),.v (.string (ByteArray.mk #[])),.sl [] .nil]) 1 [(0,4,.t 203)]),zC 205 101 [.t 201,.t 204],
 zK 206 200,zF 207 3 206,zF 208 2 207,zN (.store 1 (.t 208) (.t 205))]) (.seq (.reg [zB 210 .eql (.t 50) (zi 10),zM 209 210]) (.cond (.t 209) (.reg [zM 211 0,zM 212 4,zM 213 4,zS 214 213,
 zB 215 .sub (.t 214) (zi 1),zO 216 (.slice 4 (.t 212) none (some (.t 215)) none),zK 217 211,zF 218 3 217,zF 219 2 218,
 zN (.store 1 (.t 219) (.t 216))]) (.seq (.reg [zB 221 .eql (.t 50) (zi 11),zM 220 221]) (.cond (.t 220) (.seq (.reg [zM 222 0,zC 223 104 [.t 222],zO 7 (.alloc [.v (.int .i64 0),
 .v (.int .i64 0),.v (.string (ByteArray.mk #[])),.sl [] .nil]),zN (.store 4 (.t 7) (.t 223))]) (.seq (.reg [zM 224 0,zC 225 104 [.t 224],zO 8 (.alloc [.v (.int .i64 0),.v (.int .i64 0),
 .v (.string (ByteArray.mk #[])),.sl [] .nil]),zN (.store 4 (.t 8) (.t 225))]) (.reg [zM 226 0,zR 227 4 8,zR 228 4 7,zO 229 (.bsl (.agg [.v (.int .i64 0),.v (.int .i64 0),
 .v (.string (ByteArray.mk #[])),.sl [] .nil]) 2 [(0,4,.t 227),(4,4,.t 228)]),zO 230 (.build [.v (.int .i64 0),.v (.int .i64 0),.v (.string (ByteArray.mk #[])),.sl [] .nil] [(0,1,
 .c (.v (.int .i64 3))),(3,1,.t 229)]),zC 231 99 [.t 226,.t 230]]))) (.seq (.reg [zB 233 .eql (.t 50) (zi 12),zM 232 233]) (.cond (.t 232) (.seq (.reg [zM 234 0,zC 235 105 [.t 234,
 .c (.v (.int .i64 0))],zM 2 235]) .ret) (.seq (.reg [zB 237 .eql (.t 50) (zi 13),zM 236 237]) (.cond (.t 236) (.seq (.reg [zM 238 0,zC 239 105 [.t 238,.c (.v (.int .i64 1))],
 zM 2 239]) .ret) (.seq (.reg [zB 241 .eql (.t 50) (zi 14),
 zM 240 241]) (.cond (.t 240) (.seq (.reg [zO 2 (.mov (zi 30))]) .ret) .skip)))))))))))))))))))))))))))))) (.seq (.reg [zO 2 (.mov (zi 0))]) .ret))))))⟩
theorem pf62_is:pfs 62=some pf62:=by kernel_rfl
def pf64:PF:=⟨45,[.t 2],.seq (.reg [zO 2 (.mov (zb false))]) (.seq (.seq (.reg [zM 6 0,zO 7 (.bin .eql (.t 6) (.c (.v (.string (ByteArray.mk #[]))))),zM 8 7,yM 9 8 false 0,
 zG 10 8 false (.Dk (.t 9)),yB 11 8 false .gtr (.t 10) (zi 64),
 zQ 12 8 true 11]) (.cond (.t 12) (.seq (.reg [zO 2 (.mov (zb false))]) .ret) .skip)) (.seq (.reg [zO 3 (.mov (zb true))]) (.seq (.seq (.reg [zO 4 (.mov (zi 0))]) (.block 0 (.loop (.seq (.seq (.reg [zM 13 4,
 zM 14 0,zO 15 (.Dk (.t 14) ),zB 16 .lss (.t 13) (.t 15)]) (.cond (.t 16) .skip (.exit 0))) (.seq (.block 1 (.seq (.reg [zM 19 0,zM 20 4,zO 21 (.Ho (.t 19) (.t 20)),
 zM 5 21]) (.seq (.seq (.reg [zM 22 3]) (.cond (.t 22) (.seq (.seq (.reg [zM 23 5,zC 24 106 [.t 23],
 zO 25 (.un .not (.t 24))]) (.cond (.t 25) (.seq (.reg [zO 2 (.mov (zb false))]) .ret) .skip)) (.seq (.reg [zO 3 (.mov (zb false))]) (.exit 1))) .skip)) (.seq (.seq (.reg [zM 26 5,
 zO 27 (.bin .eql (.t 26) (.c (.v (.int .u8 46))))]) (.cond (.t 27) (.seq (.reg [zO 3 (.mov (zb true))]) (.exit 1)) .skip)) (.seq (.reg [zM 28 5,zC 29 106 [.t 28],zO 30 (.un .not (.t 29)),
 zM 31 30,yM 32 31 true 5,zG 33 31 true (.bin .neq (.t 32) (.c (.v (.int .u8 39)))) ,zP 34 31 33 false,zM 35 34,yM 36 35 true 5,zG 37 35 true (.bin .lss (.t 36) (.c (.v (.int .u8 48)))),
 yM 38 35 true 37,yM 39 38 false 5,zG 40 38 false (.bin .gtr (.t 39) (.c (.v (.int .u8 57)))),zG 41 35 true (.pick (.t 38) (zb true) (.t 40)),
 zP 42 35 41 false]) (.cond (.t 42) (.seq (.reg [zO 2 (.mov (zb false))]) .ret) .skip)))))) (.reg [zM 17 4,zB 18 .add (.t 17) (zi 1),zM 4 18])))))) (.seq (.reg [zM 43 3,
 zO 44 (.un .not (.t 43)),zM 2 44]) .ret))))⟩
theorem pf64_is:pfs 64=some pf64:=by kernel_rfl
def pf71:PF:=⟨55,[.t 4],.seq (.reg [zO 4 (.mov (zi 0))]) (.seq (.seq (.reg [zM 11 1,zM 12 0,zO 13 (.look (.v (.int .i64 0)) true (KK.pt) (.t 11) (.t 12)),zM 10 13,zE 14 10 0,zE 15 10 1,
 zM 5 14,zM 6 15]) (.seq (.reg [zM 16 6]) (.cond (.t 16) (.seq (.reg [zM 17 5,zM 4 17]) .ret) .skip))) (.seq (.reg [zO 7 (.mov (zi 1))]) (.seq (.seq (.reg [zM 18 0,zK 19 18,zF 20 0 19,
 zL 21 20,zO 22 (.bin .neq (.t 21) (zi 2) )]) (.cond (.t 22) (.reg [zO 7 (.mov (zi (-1)))]) .skip)) (.seq (.seq (.reg [zO 8 (.mov (zi 0))]) (.block 0 (.loop (.seq (.seq (.reg [zM 23 7,
 zB 24 .gtr (.t 23) (zi 0),zM 25 24,yM 26 25 true 8,yM 27 25 true 0,yK 28 25 true 27,zG 29 25 true (.fy 4 (.t 28) ),yL 30 25 true 29,zG 31 25 true (.m5 (.t 30)),
 yB 32 25 true .lss (.t 26) (.t 31),zP 33 25 32 false]) (.cond (.t 33) .skip (.exit 0))) (.seq (.block 1 (.seq (.reg [zM 36 0,zK 37 36,zF 38 4 37,zL 39 38,zM 40 8,
 zO 41 (.j6 1 (.t 39) (.t 40)),zL 42 41,zM 43 1,zC 44 71 [.t 42,.t 43],zM 9 44]) (.seq (.reg [zM 45 9,
 zB 46 .lss (.t 45) (zi 0)]) (.cond (.t 46) (.reg [zO 7 (.mov (zi (-1)))]) (.reg [zM 47 7,zM 48 9,zB 49 .add (.t 47) (.t 48),zO 50 (.min (.t 49) (zi 4097)),zM 7 50]))))) (.reg [zM 34 8,
 zB 35 .add (.t 34) (zi 1),zM 8 35])))))) (.seq (.reg [zM 51 1,zM 52 0,zM 53 7,zN (.sk (KK.pt) (.t 51) (.t 52) (.t 53))]) (.seq (.reg [zM 54 7,zM 4 54]) .ret))))))⟩
theorem pf71_is:pfs 71=some pf71:=by kernel_rfl
def pf72:PF:=⟨29,[.c 2 true 2],.seq (.reg [zO 2 (.alloc [.v (.string (ByteArray.mk #[])),.sl [] .nil])]) (.seq (.reg [zM 6 0,zK 7 6,zF 8 2 7,zL 9 8,
 zO 10 (.build [.v (.string (ByteArray.mk #[])),.sl [] .nil] [(0,1,.t 9)]),zO 3 (.alloc [.v (.string (ByteArray.mk #[])),.sl [] .nil]),
 zN (.store 2 (.t 3) (.t 10))]) (.seq (.seq (.reg [zM 11 0,zK 12 11,zF 13 4 12,zL 14 13,zS 15 14,
 zO 16 (.mov (zi 0))]) (.block 0 (.loop (.seq (.reg [zB 17 .lss (.t 16) (.t 15)]) (.seq (.cond (.t 17) .skip (.exit 0)) (.seq (.block 1 (.seq (.reg [zO 18 (.j6 1 (.t 14) (.t 16)),
 zL 19 18,zM 5 19]) (.jk [4005,0,0] [zF 20 1 3,zX 21 (.load false 1 (.t 20)) 1 [0],zX 22 (.mov (.t 5)) 2 [],zX 23 (.call (.c (.fn 72 [])) [.t 22]) 3 [2],
 zX 24 (.bsl (.agg [.v (.string (ByteArray.mk #[])),.sl [] .nil]) 1 [(0,2,.t 23)]) 4 [3,2],zX 25 (.app 2 none (.t 21) (.t 24)) 5 [4,3,2,1,0],zX 26 (.fy 1 (.t 3)) 6 [5,4,3,2,1,0],⟨none,
 none,.store 1 (.t 26) (.t 25),7,[6,5,4,3,2,1,0]⟩]))) (.reg [zB 27 .add (.t 16) (zi 1),zM 16 27]))))))) (.seq (.reg [zR 28 2 3,zN (.store 2 (.t 2) (.t 28))]) .ret)))⟩
theorem pf72_is:pfs 72=some pf72:=by kernel_rfl
def pf73:PF:=⟨98,[.t 2],.seq (.reg [zO 1 (.box (.t 0)),zO 2 (.mov (zi 0))]) (.seq (.seq (.reg [zF 8 0 1,zL 9 8,zS 10 9,zB 11 .eql (.t 10) (zi 0),zM 12 11,yF 13 12 false 2 1,
 yL 14 12 false 13,zG 15 12 false (.m5 (.t 14)),yF 16 12 false 1 1,yL 17 12 false 16,zG 18 12 false (.m5 (.t 17)),yB 19 12 false .neq (.t 15) (.t 18),
 zQ 20 12 true 19]) (.cond (.t 20) (.seq (.reg [zO 2 (.mov (zi 3))]) .ret) .skip)) (.seq (.seq (.reg [zO 3 (.mov (zi 0))]) (.block 0 (.loop (.seq (.seq (.reg [zM 21 3,zF 22 2 1,zL 23 22,
 zS 24 23,zB 25 .lss (.t 21) (.t 24)]) (.cond (.t 25) .skip (.exit 0))) (.seq (.block 1 (.seq (.seq (.jk [3,0,0,0,8,0] [zF 28 2 1,zX 29 (.load false 1 (.t 28)) 1 [0],
 zX 30 (.mov (.t 3)) 2 [],zX 31 (.j6 1 (.t 29) (.t 30)) 3 [2,1,0],zX 32 (.load false 1 (.t 31)) 4 [3,2,1,0],zX 33 (.bin .lss (.t 32) (zi 1)) 5 [4,3,2,1,0],zX 34 (.mov (.t 33)) 6 [5,4,3,2,
 1,0],zY 35 34 false (.fy 2 (.t 1)) 7 [6,5,4,3,2,1,0],zY 36 34 false (.load false 1 (.t 35)) 8 [7,6,5,4,3,2,1,0],zY 37 34 false (.mov (.t 3)) 9 [6,5,4,3,2,1,0],
 zY 38 34 false (.j6 1 (.t 36) (.t 37)) 10 [9,8,7,6,5,4,3,2,1,0],zY 39 34 false (.load false 1 (.t 38)) 11 [10,9,8,7,6,5,4,3,2,1,0],zY 40 34 false (.fy 0 (.t 1)) 12 [6,5,4,3,2,1,0],
 zY 41 34 false (.load false 1 (.t 40)) 13 [12,6,5,4,3,2,1,0],zY 42 34 false (.m5 (.t 41)) 14 [13,12,6,5,4,3,2,1,0],zY 43 34 false (.bin .geq (.t 39) (.t 42)) 15 [14,13,12,11,10,9,8,7,6,5,
 4,3,2,1,0],zX 44 (.pick (.t 34) (zb true) (.t 43)) 16 [15,14,13,12,11,10,9,8,7,6,5,4,3,2,1,
 0]]) (.cond (.t 44) (.seq (.reg [zO 2 (.mov (zi 3))]) .ret) .skip)) (.seq (.reg [zO 4 (.mov (zi 0))]) (.block 2 (.loop (.seq (.seq (.reg [zM 45 4,zM 46 3,
 zB 47 .lss (.t 45) (.t 46)]) (.cond (.t 47) .skip (.exit 2))) (.seq (.block 3 (.seq (.jk [10] [zF 50 2 1,zX 51 (.load false 1 (.t 50)) 1 [0],zX 52 (.mov (.t 4)) 2 [],
 zX 53 (.j6 1 (.t 51) (.t 52)) 3 [2,1,0],zX 54 (.load false 1 (.t 53)) 4 [3,2,1,0],zX 55 (.fy 2 (.t 1)) 5 [],zX 56 (.load false 1 (.t 55)) 6 [5],zX 57 (.mov (.t 3)) 7 [],
 zX 58 (.j6 1 (.t 56) (.t 57)) 8 [7,6,5],zX 59 (.load false 1 (.t 58)) 9 [8,7,6,5],zX 60 (.bin .eql (.t 54) (.t 59)) 10 [9,8,7,6,5,4,3,2,1,
 0]]) (.cond (.t 60) (.seq (.reg [zO 2 (.mov (zi 3))]) .ret) .skip))) (.reg [zM 48 4,zB 49 .add (.t 48) (zi 1),zM 4 49])))))))) (.reg [zM 26 3,zB 27 .add (.t 26) (zi 1),
 zM 3 27])))))) (.seq (.seq (.reg [zO 5 (.mov (zi 0))]) (.block 4 (.loop (.seq (.seq (.reg [zM 61 5,zF 62 1 1,zL 63 62,zS 64 63,
 zB 65 .lss (.t 61) (.t 64)]) (.cond (.t 65) .skip (.exit 4))) (.seq (.block 5 (.seq (.reg [zF 68 1 1,zL 69 68,zM 70 5,zO 71 (.j6 1 (.t 69) (.t 70)),zL 72 71,zC 73 64 [.t 72],
 zO 74 (.un .not (.t 73))]) (.cond (.t 74) (.seq (.reg [zO 2 (.mov (zi 29))]) .ret) .skip))) (.reg [zM 66 5,zB 67 .add (.t 66) (zi 1),
 zM 5 67])))))) (.seq (.seq (.reg [zO 6 (.mov (zi 0))]) (.block 6 (.loop (.seq (.seq (.reg [zM 75 6,zF 76 1 1,zL 77 76,zS 78 77,
 zB 79 .lss (.t 75) (.t 78)]) (.cond (.t 79) .skip (.exit 6))) (.seq (.block 7 (.seq (.reg [zO 7 (.mov (zi 0))]) (.block 8 (.loop (.seq (.seq (.reg [zM 82 7,zM 83 6,
 zB 84 .lss (.t 82) (.t 83)]) (.cond (.t 84) .skip (.exit 8))) (.seq (.block 9 (.seq (.jk [10] [zF 87 1 1 ,zX 88 (.load false 1 (.t 87)) 1 [0],zX 89 (.mov (.t 7)) 2 [],
 zX 90 (.j6 1 (.t 88) (.t 89)) 3 [2,1,0],zX 91 (.load false 1 (.t 90)) 4 [3,2,1,0],zX 92 (.fy 1 (.t 1)) 5 [],zX 93 (.load false 1 (.t 92)) 6 [5],zX 94 (.mov (.t 6)) 7 [],
 zX 95 (.j6 1 (.t 93) (.t 94)) 8 [7,6,5],zX 96 (.load false 1 (.t 95)) 9 [8,7,6,5],zX 97 (.bin .eql (.t 91) (.t 96)) 10 [9,8,7,6,5,4,3,2,1,
 0]]) (.cond (.t 97) (.seq (.reg [zO 2 (.mov (zi 8))]) .ret) .skip))) (.reg [zM 85 7,zB 86 .add (.t 85) (zi 1),zM 7 86]))))))) (.reg [zM 80 6,zB 81 .add (.t 80) (zi 1),
 zM 6 81])))))) (.seq (.reg [zO 2 (.mov (zi 0))]) .ret)))))⟩
theorem pf73_is:pfs 73=some pf73:=by kernel_rfl
def pf74:PF:=⟨159,[.t 4],.seq (.reg [zO 4 (.mov (zi 0))]) (.seq (.reg [zM 17 0,zK 18 17,zF 19 3 18,zL 20 19,zM 21 1,zO 22 (.j6 1 (.t 20) (.t 21)),zL 23 22,zM 5 23,zO 6 (.mov (zi 0)),
 zO 7 (.mov (zi 0)),zO 8 (.mov (zi 0))]) (.seq (.reg [zM 24 0,zK 25 24,zF 26 0 25,zF 27 0 26,zL 28 27,zM 29 1,zO 30 (.j6 1 (.t 28) (.t 29)),zL 31 30,zM 9 31]) (.seq (.seq (.reg [zM 32 5,
 zB 33 .lss (.t 32) (zi 0)]) (.cond (.t 33) (.seq (.reg [zO 4 (.mov (zi 9))]) .ret) .skip)) (.seq (.seq (.reg [zO 10 (.mov (zi 0))]) (.block 0 (.loop (.seq (.seq (.reg [zM 34 10,zM 35 9,
 zS 36 35,zB 37 .lss (.t 34) (.t 36)]) (.cond (.t 37) .skip (.exit 0))) (.seq (.block 1 (.seq (.reg [zM 40 9,zM 41 10,zO 42 (.j6 4 (.t 40) (.t 41)),zR 43 4 42,
 zO 11 (.alloc [.v (.int .i64 0),.v (.int .i64 0),.v (.int .i64 0),.v (.string (ByteArray.mk #[]))]),zN (.store 4 (.t 11) (.t 43))]) (.seq (.seq (.jk [7,0] [zM 44 0,
 zX 45 (.load true 4 (.t 11)) 1 [],zX 46 (.mov (.t 9)) 2 [],zX 47 (.mov (.t 10)) 3 [],zX 48 (.bin .add (.t 47) (zi 1)) 4 [3],zX 49 (.slice 4 (.t 46) (some (.t 48)) none none) 5 [4,3,2],
 zX 50 (.mov (.t 8)) 6 [],zX 51 (.call (.c (.fn 113 [])) [.t 44,.t 45,.t 49,.t 50]) 7 [6,5,4,3,2,1,0],zX 12 (.mov (.t 51)) 8 [7,6,5,4,3,2,1,0]]) (.seq (.reg [zM 52 12,
 zB 53 .neq (.t 52) (zi 0)]) (.cond (.t 53) (.seq (.reg [zM 54 12,zM 4 54]) .ret) .skip))) (.seq (.reg [zM 55 8,zB 56 .sub (.t 55) (zi 1),zO 57 (.max (zi 0) (.t 56)),
 zM 8 57]) (.seq (.seq (.reg [zF 58 0 11,zL 59 58,zB 60 .eql (.t 59) (zi 5)]) (.cond (.t 60) (.reg [zF 61 1 11,zL 62 61,zM 8 62]) .skip)) (.seq (.seq (.reg [zF 63 0 11,zL 64 63,
 zB 65 .eql (.t 64) (zi 1)]) (.cond (.t 65) (.seq (.reg [zM 66 0,zF 67 1 11,zL 68 67,zM 69 5,zB 70 .add (.t 69) (zi 1),zM 71 1,zC 72 114 [.t 66,.t 68,.t 70,.t 71],
 zM 13 72]) (.seq (.reg [zM 73 13,zB 74 .neq (.t 73) (zi 0)]) (.cond (.t 74) (.seq (.reg [zM 75 13,zM 4 75]) .ret) .skip))) .skip)) (.seq (.seq (.reg [zF 76 0 11,zL 77 76,
 zB 78 .eql (.t 77) (zi 6)]) (.cond (.t 78) (.seq (.reg [zM 79 0,zF 80 1 11,zL 81 80,zM 82 5,zF 83 2 11,zL 84 83,zB 85 .add (.t 82) (.t 84),zM 86 1,zO 87 (.call (.c (.fn 114 [])) [.t 79,
 .t 81,.t 85,.t 86] ),zM 14 87]) (.seq (.reg [zM 88 14,zB 89 .neq (.t 88) (zi 0)]) (.cond (.t 89) (.seq (.reg [zM 90 14,zM 4 90]) .ret) .skip))) .skip)) (.seq (.seq (.reg [zF 91 0 11,
 zL 92 91,zB 93 .eql (.t 92) (zi 0),zM 94 93,yF 95 94 true 1 11,yL 96 94 true 95,yM 97 94 true 5,yB 98 94 true .geq (.t 96) (.t 97),
 zP 99 94 98 false]) (.cond (.t 99) (.seq (.reg [zO 4 (.mov (zi 24))]) .ret) .skip)) (.seq (.reg [zR 101 4 11,zC 102 115 [.t 101],zM 100 102,zE 103 100 0,zE 104 100 1,zM 15 103,
 zM 16 104]) (.seq (.seq (.reg [zM 105 6,zM 106 15,zB 107 .lss (.t 105) (.t 106),zM 108 107,yF 109 108 false 0 11,yL 110 108 false 109,yB 111 108 false .eql (.t 110) (zi 10),
 yM 112 108 false 111,yM 113 112 true 7,yB 114 112 true .eql (.t 113) (zi 0),zG 115 108 false (.pick (.t 112) (.t 114) (zb false)),
 zQ 116 108 true 115]) (.cond (.t 116) (.seq (.reg [zO 4 (.mov (zi 27))]) .ret) .skip)) (.seq (.reg [zM 117 6,zM 118 15,zB 119 .sub (.t 117) (.t 118),zM 120 16,zB 121 .add (.t 119) (.t 120),
 zM 6 121]) (.seq (.seq (.reg [zF 122 0 11,zL 123 122,zB 124 .eql (.t 123) (zi 9)]) (.cond (.t 124) (.reg [zM 125 5,zB 126 .add (.t 125) (zi 1),zM 127 7,zB 128 .add (.t 127) (zi 1),zM 5 126,
 zM 7 128]) .skip)) (.seq (.seq (.reg [zF 129 0 11,zL 130 129,zB 131 .eql (.t 130) (zi 10)]) (.cond (.t 131) (.reg [zM 132 5,zB 133 .sub (.t 132) (zi 1),zM 134 7,zB 135 .sub (.t 134) (zi 1),
 zM 5 133,zM 7 135]) .skip)) (.seq (.seq (.reg [zF 136 0 11,zL 137 136,zB 138 .eql (.t 137) (zi 3),zM 139 10,zM 140 9,zS 141 140,zB 142 .sub (.t 141) (zi 1),zB 143 .eql (.t 139) (.t 142),
 zO 144 (.eqb true (.t 138) (.t 143))]) (.cond (.t 144) (.seq (.reg [zO 4 (.mov (zi 3))]) .ret) .skip)) (.seq (.reg [zF 145 0 11,zL 146 145,zB 147 .eql (.t 146) (zi 3),zM 148 147,
 yM 149 148 true 6,yB 150 148 true .neq (.t 149) (zi 1),yM 151 148 true 150,yM 152 151 false 7,yB 153 151 false .neq (.t 152) (zi 0),zG 154 148 true (.pick (.t 151) (zb true) (.t 153)),
 zP 155 148 154 false]) (.cond (.t 155) (.seq (.reg [zO 4 (.mov (zi 27))]) .ret) .skip)))))))))))))))) (.reg [zM 38 10,zB 39 .add (.t 38) (zi 1),zM 10 39])))))) (.seq (.seq (.reg [zM 156 9,
 zS 157 156,zB 158 .eql (.t 157) (zi 0)]) (.cond (.t 158) (.seq (.reg [zO 4 (.mov (zi 3))]) .ret) .skip)) (.seq (.reg [zO 4 (.mov (zi 0))]) .ret))))))⟩
theorem pf74_is:pfs 74=some pf74:=by kernel_rfl
def pf86:PF:=⟨39,[.t 2],.seq (.reg [zO 2 (.mov (zb false))]) (.seq (.reg [zO 3 (.mov (zb true))]) (.seq (.seq (.reg [zM 6 0,zO 7 (.Dk (.t 6)),
 zO 8 (.mov (zi 0))]) (.block 0 (.loop (.seq (.reg [zB 9 .lss (.t 8) (.t 7)]) (.seq (.cond (.t 9) .skip (.exit 0)) (.seq (.block 1 (.seq (.reg [zM 10 8,zM 4 10]) (.seq (.reg [zM 11 0,
 zM 12 4,zO 13 (.Ho (.t 11) (.t 12)),zM 5 13]) (.block 2 (.seq (.reg [zM 15 5,zC 16 131 [.t 15],zM 14 16]) (.cond (.t 14) (.reg [zO 3 (.mov (zb false))]) (.seq (.reg [zM 18 3,
 zM 17 18]) (.cond (.t 17) (.seq (.reg [zO 2 (.mov (zb false))]) .ret) (.seq (.reg [zM 20 5,zO 21 (.bin .eql (.t 20) (.c (.v (.int .u8 46)))),
 zM 19 21]) (.cond (.t 19) (.reg [zO 3 (.mov (zb true))]) (.seq (.reg [zM 23 5,zO 24 (.bin .lss (.t 23) (.c (.v (.int .u8 48)))),zM 25 24,yM 26 25 false 5,
 zG 27 25 false (.bin .gtr (.t 26) (.c (.v (.int .u8 57)))),zQ 28 25 true 27,zM 22 28]) (.cond (.t 22) (.seq (.reg [zM 29 5,
 zO 30 (.bin .neq (.t 29) (.c (.v (.int .u8 39))))]) (.cond (.t 30) (.seq (.reg [zO 2 (.mov (zb false))]) .ret) .skip)) .skip)))))))))))) (.reg [zB 31 .add (.t 8) (zi 1),
 zM 8 31]))))))) (.seq (.reg [zM 32 3,zO 33 (.un .not (.t 32)),zM 34 33,yM 35 34 true 0,zG 36 34 true (.Dk (.t 35)),yB 37 34 true .leq (.t 36) (zi 64),zP 38 34 37 false,zM 2 38]) .ret)))⟩
theorem pf86_is:pfs 86=some pf86:=by kernel_rfl
def pf87:PF:=⟨30,[.t 2],.seq (.reg [zO 1 (.box (.t 0)),zO 2 (.mov (zi 0))]) (.seq (.block 0 (.seq (.seq (.reg [zF 4 0 1,zL 5 4,zS 6 5,zB 7 .eql (.t 6) (zi 0),
 zM 3 7] ) (.cond (.t 3) .skip (.seq (.reg [zF 8 2 1,zL 9 8,zS 10 9,zF 11 1 1,zL 12 11,zS 13 12,zB 14 .neq (.t 10) (.t 13),zO 3 (.mov (.t 14) )]) (.cond (.t 3) .skip (.seq (.reg [zF 15 2 1,
 zL 16 15,zO 17 (.Hv 133 [.t 1]),zC 18 132 [.t 16,.t 17],zM 3 18]) (.cond (.t 3) .skip (.reg [zF 19 2 1,zL 20 19,zC 21 134 [.t 20],
 zM 3 21]))))))) (.cond (.t 3) (.seq (.reg [zO 2 (.mov (zi 3))]) .ret) (.seq (.reg [zF 23 1 1,zL 24 23,zO 25 (.call (.c (.fn 135 [] )) [.t 24,.c (.fn 136 [])]),
 zM 22 25]) (.cond (.t 22) (.seq (.reg [zO 2 (.mov (zi 29))]) .ret) (.seq (.reg [zF 27 1 1,zL 28 27,zC 29 137 [.t 28],
 zM 26 29]) (.cond (.t 26) (.seq (.reg [zO 2 (.mov (zi 8))]) .ret) .skip))))))) (.seq (.reg [zO 2 (.mov (zi 0))]) .ret))⟩
theorem pf87_is:pfs 87=some pf87:=by kernel_rfl
def pf89:PF:=⟨81,[.t 4],.seq (.reg [zO 4 (.mov (zi 0))]) (.seq (.reg [zM 12 0,zK 13 12,zF 14 0 13,zF 15 0 14,zL 16 15,zM 17 1,zO 18 (.j6 1 (.t 16) (.t 17)),zL 19 18,
 zM 5 19]) (.seq (.seq (.reg [zM 20 0,zK 21 20,zF 22 3 21,zL 23 22,zM 24 1,zO 25 (.j6 1 (.t 23) (.t 24)),zL 26 25,
 zB 27 .lss (.t 26) (zi 0)]) (.cond (.t 27) (.seq (.reg [zO 4 (.mov (zi 9))]) .ret) .skip)) (.seq (.seq (.reg [zM 28 5,zS 29 28,
 zB 30 .eql (.t 29) (zi 0)]) (.cond (.t 30) (.seq (.reg [zO 4 (.mov (zi 3))]) .ret) .skip)) (.seq (.reg [zM 31 1 ,zM 32 0,zK 33 32,zF 34 3 33,zL 35 34,zM 36 1,
 zO 37 (.j6 1 (.t 35) (.t 36)),zL 38 37,zO 39 (.build [.v (.int .i64 0),.v (.int .i64 0),.v (.int .i64 0),.v (.int .i64 0),.v (.int .i64 0)] [(0,1,.t 31),(1,1,.t 38)]),
 zO 40 (.box (.t 39)),zM 6 40]) (.seq (.seq (.reg [zM 41 5,zS 42 41,
 zO 43 (.mov (zi 0))]) (.block 0 (.loop (.seq (.reg [zB 44 .lss (.t 43) (.t 42)]) (.seq (.cond (.t 44) .skip (.exit 0)) (.seq (.block 1 (.seq (.reg [zM 45 43,
 zO 46 (.j6 4 (.t 41) (.t 43)),zR 47 4 46,zO 8 (.alloc [.v (.int .i64 0),.v (.int .i64 0),.v (.int .i64 0),.v (.string (ByteArray.mk #[]))]),zM 7 45,
 zN (.store 4 (.t 8) (.t 47))]) (.seq (.seq (.jk [10,0] [zM 48 0,zX 49 (.load true 4 (.t 8)) 1 [],zX 50 (.mov (.t 5)) 2 [],zX 51 (.mov (.t 7)) 3 [],zX 52 (.bin .add (.t 51) (zi 1)) 4 [3],
 zX 53 (.slice 4 (.t 50) (some (.t 52)) none none) 5 [4,3,2],zX 54 (.mov (.t 6)) 6 [],zX 55 (.gy (.t 54)) 7 [6],zX 56 (.fy 4 (.t 55)) 8 [7,6],zX 57 (.load false 1 (.t 56)) 9 [8,7,6],
 zX 58 (.call (.c (.fn 139 [])) [.t 48,.t 49,.t 53,.t 57]) 10 [9,8,7,6,5,4,3,2,1,0],zX 9 (.mov (.t 58)) 11 [10,9,8,7,6,5,4,3,2,1,0]]) (.seq (.reg [zM 59 9,
 zB 60 .neq (.t 59) (zi 0)]) (.cond (.t 60) (.seq (.reg [zM 61 9,zM 4 61]) .ret) .skip))) (.seq (.seq (.reg [zM 62 0,zM 63 6,zR 64 4 8,zC 65 140 [.t 62,.t 63,.t 64],
 zM 10 65] ) (.seq (.reg [zM 66 10,zB 67 .neq (.t 66) (zi 0)]) (.cond (.t 67) (.seq (.reg [zM 68 10,zM 4 68]) .ret) .skip))) (.seq (.reg [zM 69 6,zR 70 4 8,zM 71 7 ,zM 72 5,zS 73 72,
 zB 74 .sub (.t 73) (zi 1),zB 75 .eql (.t 71) (.t 74),zC 76 141 [.t 69,.t 70,.t 75],zM 11 76]) (.seq (.reg [zM 77 11,zB 78 .neq (.t 77) (zi 0)]) (.cond (.t 78) (.seq (.reg [zM 79 11,
 zM 4 79]) .ret) .skip))))))) (.reg [zB 80 .add (.t 43) (zi 1),zM 43 80]))))))) (.seq (.reg [zO 4 (.mov (zi 0))]) .ret))))))⟩
theorem pf89_is:pfs 89=some pf89:=by kernel_rfl
def pf90:PF:=⟨15,[.t 4],.seq (.reg [zO 4 (.mov (zi 0))]) (.seq (.reg [zM 5 0,zM 6 0,zK 7 6,zF 8 6 7,zL 9 8,zM 10 1,zO 11 (.bsl (.v (.pointer none)) 1 [(0,1,.t 10)]),
 zO 12 (.app 1 (some false) (.t 9) (.t 11)),zK 13 5,zF 14 6 13,zN (.store 1 (.t 14) (.t 12))]) (.seq (.reg [zO 4 (.mov (zi 0))]) .ret))⟩
theorem pf90_is:pfs 90=some pf90:=by kernel_rfl
def pf91:PF:=⟨28,[.t 2],.seq (.reg [zO 2 (.mov (.c (.v (.pointer none))))]) (.seq (.reg [zM 5 0,zK 6 5,zF 7 6 6,zL 8 7,zS 9 8,zB 10 .sub (.t 9) (zi 1),zM 3 10]) (.seq (.reg [zM 11 0,
 zK 12 11,zF 13 6 12,zL 14 13,zM 15 3,zO 16 (.j6 1 (.t 14) (.t 15)),zL 17 16,zM 4 17]) (.seq (.reg [zM 18 0,zM 19 0,zK 20 19,zF 21 6 20 ,zL 22 21,zM 23 3,
 zO 24 (.slice 1 (.t 22) none (some (.t 23)) none),zK 25 18,zF 26 6 25,zN (.store 1 (.t 26) (.t 24))]) (.seq (.reg [zM 27 4,zM 2 27]) .ret) )))⟩
theorem pf91_is:pfs 91=some pf91:=by kernel_rfl
def pf92:PF:=⟨32,[.t 6],.seq (.reg [zO 6 (.mov (zi 0))]) (.seq (.seq (.reg [zM 7 0,zK 8 7,zF 9 7 8,zL 10 9,zS 11 10,
 zB 12 .geq (.t 11) (zi 65536)]) (.cond (.t 12) (.seq (.reg [zO 6 (.mov (zi 7))]) .ret) .skip)) (.seq (.jk [11011,0,0] [zM 13 0,zX 14 (.mov (.t 0)) 1 [],zX 15 (.gy (.t 14)) 2 [1],
 zX 16 (.fy 7 (.t 15)) 3 [2,1],zX 17 (.load false 1 (.t 16)) 4 [3,2,1],zX 18 (.mov (.t 0)) 5 [],zX 19 (.gy (.t 18)) 6 [5],zX 20 (.fy 3 (.t 19)) 7 [6,5],
 zX 21 (.load true 3 (.t 20)) 8 [7,6,5],zX 22 (.bsl (.agg [.v (.int .i64 0),.v (.int .i64 0),.v (.pointer none)]) 1 [(0,3,.t 21)]) 9 [8,7,6,5],
 zX 23 (.app 3 (some true) (.t 17) (.t 22)) 10 [9,8,7,6,5,4,3,2,1],zX 24 (.gy (.t 13)) 11 [10,9,8,7,6,5,4,3,2,1,0],zX 25 (.fy 7 (.t 24)) 12 [11,10,9,8,7,6,5,4,3,2,1,0],⟨none,none,
 .store 1 (.t 25) (.t 23),13,[12,11,10,9,8,7,6,5,4,3,2,1,0]⟩]) (.seq (.reg [zM 26 0,zM 27 1,zM 28 2,zO 29 (.build [.v (.int .i64 0),.v (.int .i64 0),.v (.pointer none)] [(0,1,.t 27),(2,1,
 .t 28)]),zK 30 26,zF 31 3 30,zN (.store 3 (.t 31) (.t 29))]) (.seq (.reg [zO 6 (.mov (zi 0))]) .ret))))⟩
theorem pf92_is:pfs 92=some pf92:=by kernel_rfl
def pf93:PF:=⟨19,[.t 4],.seq (.reg [zO 4 (.mov (.c (.v (.pointer none))))]) (.seq (.seq (.reg [zM 7 1,zS 8 7,
 zO 9 (.mov (zi 0))]) (.block 0 (.loop (.seq (.reg [zB 10 .lss (.t 9) (.t 8)]) (.seq (.cond (.t 10) .skip (.exit 0)) (.seq (.block 1 (.seq (.reg [zO 11 (.j6 1 (.t 7) (.t 9)),zL 12 11,
 zM 6 12]) (.reg [zM 13 6,zM 14 0,zO 15 (.build [.v (.pointer none),.v (.pointer none)] [(0,1,.t 13),(1,1,.t 14)]),zO 16 (.box (.t 15)),zM 0 16]))) (.reg [zB 17 .add (.t 9) (zi 1),
 zM 9 17]))))))) (.seq (.reg [zM 18 0,zM 4 18]) .ret))⟩
theorem pf93_is:pfs 93=some pf93:=by kernel_rfl
def pf95:PF:=⟨28,[.t 4],.seq (.reg [zO 4 (.mov (zi 0))]) (.seq (.reg [zM 6 0,zC 7 91 [.t 6],zM 5 7]) (.seq (.seq (.reg [zM 8 5,zK 9 8,zF 10 0 9,
 zL 11 10]) (.block 0 (.seq (.reg [zB 13 .eql (.t 11) (zi 0),zM 12 13]) (.cond (.t 12) (.seq (.reg [zM 14 0,zM 15 5,zC 16 90 [.t 14,.t 15],
 zM 4 16]) .ret) (.seq (.reg [zB 18 .eql (.t 11) (zi 3),zM 17 18]) (.cond (.t 17) (.seq (.reg [zM 19 0,zM 20 5,zK 21 20,zF 22 4 21,zL 23 22,zM 24 1,zO 25 (.j6 1 (.t 23) (.t 24)),zL 26 25,
 zO 27 (.call (.c (.fn 90 [])) [.t 19,.t 26] ),zM 4 27]) .ret) .skip)))))) (.seq (.reg [zO 4 (.mov (zi 10))]) .ret)))⟩
theorem pf95_is:pfs 95=some pf95:=by kernel_rfl
def pf96:PF:=⟨32,[.t 4],.seq (.reg [zO 2 (.box (.t 0)),zO 4 (.mov (zi 0))]) (.seq (.reg [zM 6 1,zB 7 .sub (.t 6) (zi 1),
 zM 1 7]) (.seq (.seq (.reg [zO 5 (.mov (zi 0))]) (.block 0 (.loop (.seq (.seq (.reg [zM 8 5,zF 9 3 2,zL 10 9,zS 11 10,zB 12 .lss (.t 8) (.t 11),zM 13 12,yM 14 13 true 1,
 yB 15 13 true .geq (.t 14) (zi 0),zP 16 13 15 false,zM 17 16,yF 18 17 true 0 2,yL 19 17 true 18,yB 20 17 true .geq (.t 19) (zi 2),
 zP 21 17 20 false]) (.cond (.t 21) .skip (.exit 0))) (.seq (.block 1 (.reg [zF 24 3 2,zL 25 24,zM 26 5,zO 27 (.j6 4 (.t 25) (.t 26)),zR 28 4 27,zM 29 1,zC 30 96 [.t 28,.t 29],
 zM 1 30])) (.reg [zM 22 5,zB 23 .add (.t 22) (zi 1),zM 5 23])))))) (.seq (.reg [zM 31 1,zM 4 31]) .ret)))⟩
theorem pf96_is:pfs 96=some pf96:=by kernel_rfl
def pf97:PF:=⟨39,[.t 4,.t 5],.seq (.reg [zO 2 (.box (.t 0)),zO 4 (.mov (zi 0)),zO 5 (.mov (zb false))]) (.seq (.seq (.reg [zF 10 0 2,zL 11 10,
 zB 12 .neq (.t 11) (zi 2)]) (.cond (.t 12) (.seq (.reg [zO 4 (.mov (zi 1)),
 zO 5 (.mov (zb false))]) .ret) .skip)) (.seq (.reg [zO 6 (.mov (zi 1))]) (.seq (.seq (.reg [zO 7 (.mov (zi 0))]) (.block 0 (.loop (.seq (.seq (.reg [zM 13 7,zF 14 3 2,zL 15 14,zS 16 15,
 zB 17 .lss (.t 13) (.t 16)]) (.cond (.t 17) .skip (.exit 0))) (.seq (.block 1 (.seq (.reg [zF 21 3 2,zL 22 21,zM 23 7,zO 24 (.j6 4 (.t 22) (.t 23)),zR 25 4 24,zM 26 1,zC 27 97 [.t 25,
 .t 26],zM 20 27,zE 28 20 0,zE 29 20 1,zM 8 28,zM 9 29]) (.seq (.seq (.reg [zM 30 9,zO 31 (.un .not (.t 30))]) (.cond (.t 31) (.seq (.reg [⟨some 32,none,.mov (.t 6),0,[] ⟩,zM 4 32,
 zO 5 (.mov (zb false))]) .ret) .skip)) (.reg [zM 33 6,zM 34 8,zB 35 .add (.t 33) (.t 34),zM 36 1,zO 37 (.min (.t 35) (.t 36)),zM 6 37])))) (.reg [zM 18 7,zB 19 .add (.t 18) (zi 1),
 zM 7 19])))))) (.seq (.reg [zM 38 6,zM 4 38,zO 5 (.mov (zb true))]) .ret))))⟩
theorem pf97_is:pfs 97=some pf97:=by kernel_rfl
def pf98:PF:=⟨41,[.c 2 true 2,.t 3],.seq (.reg [zO 1 (.box (.t 0)),zO 2 (.alloc [.v (.string (ByteArray.mk #[])),.sl [] .nil]),zO 3 (.mov (zb false))]) (.seq (.seq (.reg [zF 8 0 1,
 zL 9 8,zB 10 .neq (.t 9) (zi 2)]) (.cond (.t 10) (.seq (.reg [zO 11 (.build [.v (.string (ByteArray.mk #[])),.sl [] .nil] []),zN (.store 2 (.t 2) (.t 11)),
 zO 3 (.mov (zb false))]) .ret) .skip)) (.seq (.reg [zF 12 2 1,zL 13 12 ,zO 14 (.build [.v (.string (ByteArray.mk #[])),.sl [] .nil] [(0,1,.t 13)]),
 zO 4 (.alloc [.v (.string (ByteArray.mk #[])),.sl [] .nil]),zN (.store 2 (.t 4) (.t 14))]) (.seq (.seq (.reg [zO 5 (.mov (zi 0))]) (.block 0 (.loop (.seq (.seq (.reg [zM 15 5,zF 16 3 1,
 zL 17 16,zS 18 17,zB 19 .lss (.t 15) (.t 18)]) (.cond (.t 19) .skip (.exit 0))) (.seq (.block 1 (.seq (.reg [zF 23 3 1,zL 24 23,zM 25 5,zO 26 (.j6 4 (.t 24) (.t 25)),zR 27 4 26,
 zC 28 98 [.t 27],zM 22 28,zE 29 22 0,zE 30 22 1,zO 6 (.alloc [.v (.string (ByteArray.mk #[])),.sl [] .nil]),zN (.store 2 (.t 6) (.t 29)),zM 7 30]) (.seq (.seq (.reg [zM 31 7,
 zO 32 (.un .not (.t 31))]) (.cond (.t 32) (.seq (.reg [zO 33 (.build [.v (.string (ByteArray.mk #[])),.sl [] .nil] []),zN (.store 2 (.t 2) (.t 33)),
 zO 3 (.mov (zb false))]) .ret) .skip)) (.reg [zF 34 1 4,zL 35 34,zO 36 (.load true 2 (.t 6) ),zO 37 (.bsl (.agg [.v (.string (ByteArray.mk #[])),.sl [] .nil]) 1 [(0,2,.t 36)]),
 zO 38 (.app 2 none (.t 35) (.t 37)),zF 39 1 4,zN (.store 1 (.t 39) (.t 38))])))) (.reg [zM 20 5,zB 21 .add (.t 20) (zi 1) ,zM 5 21])))))) (.seq (.reg [zR 40 2 4,
 zN (.store 2 (.t 2) (.t 40)),zO 3 (.mov (zb true))]) .ret))))⟩
theorem pf98_is:pfs 98=some pf98:=by kernel_rfl
def pf99:PF:=⟨18,[],.seq (.reg [zO 3 (.box (.t 1))]) (.seq (.reg [zO 4 (.mov (.c (.sl [] .nil)))]) (.seq (.reg [zM 5 4,zM 6 0,zK 7 6,zF 8 6 7,zL 9 8,zO 10 (.app 4 none (.t 5) (.t 9)),
 zM 4 10]) (.reg [zM 11 0,zM 12 4,zR 13 4 3,zO 14 (.bsl (.agg [.v (.int .i64 0),.v (.int .i64 0),.v (.string (ByteArray.mk #[])),.sl [] .nil]) 1 [(0,4,.t 13)]),
 zO 15 (.app 4 none (.t 12) (.t 14)),zK 16 11,zF 17 6 16,zN (.store 1 (.t 17) (.t 15))])))⟩
theorem pf99_is:pfs 99=some pf99:=by kernel_rfl
def pf100:PF:=⟨27,[.t 2],.seq (.reg [zO 2 (.mov (zi 0))]) (.seq (.reg [zM 5 0,zC 6 104 [.t 5],zO 3 (.alloc [.v (.int .i64 0),.v (.int .i64 0),.v (.string (ByteArray.mk #[])),
 .sl [] .nil]),zN (.store 4 (.t 3) (.t 6))]) (.seq (.reg [zM 7 0,zC 8 104 [.t 7],zO 4 (.alloc [.v (.int .i64 0),.v (.int .i64 0),.v (.string (ByteArray.mk #[])),.sl [] .nil]),
 zN (.store 4 (.t 4) (.t 8))]) (.seq (.seq (.reg [zF 9 0 4,zL 10 9]) (.block 0 (.seq (.reg [zB 12 .eql (.t 10) (zi 0),zM 11 12]) (.cond (.t 11) (.reg [zM 13 0,zR 14 4 4,zC 15 99 [.t 13,
 .t 14]]) (.seq (.reg [zB 17 .eql (.t 10) (zi 1),zM 16 17]) (.cond (.t 16) (.jk [8] [zM 18 0,zX 19 (.fy 1 (.t 4)) 1 [],zX 20 (.load false 1 (.t 19)) 2 [1],zX 21 (.fy 3 (.t 4)) 3 [],
 zX 22 (.load false 1 (.t 21)) 4 [3],zX 23 (.load true 4 (.t 3)) 5 [],zX 24 (.bsl (.agg [.v (.int .i64 0),.v (.int .i64 0),.v (.string (ByteArray.mk #[])),.sl [] .nil]) 1 [(0,4,
 .t 23)]) 6 [5],zX 25 (.call (.c (.fn 101 [])) [.t 22,.t 24]) 7 [6,5,4,3],zX 26 (.call (.c (.fn 103 [])) [.t 18,.t 20,.t 25]) 8 [7,6,5,4,3,2,1,0]]) (.seq (.reg [⟨some 2,none,.mov (zi 10),0,
 [] ⟩]) .ret))))))) (.seq (.reg [zO 2 (.mov (zi 0))]) .ret))))⟩
theorem pf100_is:pfs 100=some pf100:=by kernel_rfl
def pf101:PF:=⟨12,[.t 4],.seq (.reg [zO 4 (.mov (.c (.sl [] .nil)))]) (.seq (.reg [zO 5 (.mov (.c (.sl [] .nil)))]) (.seq (.reg [zM 6 5 ,zM 7 0,zO 8 (.app 4 none (.t 6) (.t 7)),
 zM 5 8]) (.seq (.reg [zM 9 5,zM 10 1,zO 11 (.app 4 none (.t 9) (.t 10)),zM 4 11]) .ret)))⟩
theorem pf101_is:pfs 101=some pf101:=by kernel_rfl
def pf102:PF:=⟨57,[.t 4],.seq (.reg [zO 4 (.mov (zi 0))]) (.seq (.reg [zM 6 0,zC 7 104 [.t 6],zO 5 (.alloc [.v (.int .i64 0),.v (.int .i64 0),.v (.string (ByteArray.mk #[])),
 .sl [] .nil]),zN (.store 4 (.t 5) (.t 7))]) (.seq (.seq (.jk [0,0,0,0,4,0,0,9,0] [zF 8 0 5,zX 9 (.load false 1 (.t 8)) 1 [0],zX 10 (.bin .neq (.t 9) (.c (.v (.int .i64 2) ))) 2 [1,0],
 zX 11 (.mov (.t 10)) 3 [2,1,0],zY 12 11 false (.fy 1 (.t 5)) 4 [3,2,1,0],zY 13 11 false (.load false 1 (.t 12)) 5 [4,3,2,1,0],zY 14 11 false (.mov (.t 1)) 6 [3,2,1,0],
 zY 15 11 false (.m5 (.t 14)) 7 [6,3,2,1,0],zY 16 11 false (.bin .geq (.t 13) (.t 15)) 8 [7,6,5,4,3,2,1,0],zX 17 (.pick (.t 11) (zb true) (.t 16)) 9 [8,7,6,5,4,3,2,1,0],
 zX 18 (.mov (.t 17)) 10 [9,8,7,6,5,4,3,2,1,0],zY 19 18 false (.mov (.t 1)) 11 [10,9,8,7,6,5,4,3,2,1,0],zY 20 18 false (.fy 1 (.t 5)) 12 [10,9,8,7,6,5,4,3,2,1,0],
 zY 21 18 false (.load false 1 (.t 20)) 13 [12,10,9,8,7,6,5,4,3,2,1,0],zY 22 18 false (.j6 4 (.t 19) (.t 21)) 14 [13,12,11,10,9,8,7,6,5,4,3,2,1,0],
 zY 23 18 false (.fy 2 (.t 22)) 15 [14,13,12,11,10,9,8,7,6,5,4,3,2,1,0],zY 24 18 false (.load false 1 (.t 23)) 16 [15,14,13,12,11,10,9,8,7,6,5,4,3,2,1,0],
 zY 25 18 false (.fy 3 (.t 5)) 17 [10,9,8,7,6,5,4,3,2,1,0],zY 26 18 false (.load false 1 (.t 25)) 18 [17,10,9,8,7,6,5,4,3,2,1,0],⟨some 27,some (18,false),.m5 (.t 26),19,[18,17,10,9,8,7,
 6,5,4,3,2,1,0] ⟩,zY 28 18 false (.bin .neq (.t 24) (.t 27)) 20 [19,18,17,16,15,14,13,12,11,10,9,8,7,6,5,4,3,2,1,0],zX 29 (.pick (.t 18) (zb true) (.t 28)) 21 [20,19,18,17,16,15,14,13,12,11,
 10,9,8,7,6,5,4,3,2,1,0]]) (.cond (.t 29) (.seq (.reg [zO 4 (.mov (zi 10))]) .ret) .skip)) (.seq (.reg [zM 30 0,zK 31 30,zF 32 3 31,zF 33 1 32,zL 34 33,zM 35 1,zS 36 35,
 zB 37 .add (.t 34) (.t 36),zK 38 30,zF 39 3 38,zF 40 1 39,zN (.store 1 (.t 40) (.t 37))]) (.seq (.jk [15] [zM 41 0,zX 42 (.mov (.t 1)) 1 [],zX 43 (.fy 1 (.t 5)) 2 [],
 zX 44 (.load false 1 (.t 43)) 3 [2],zX 45 (.j6 4 (.t 42) (.t 44)) 4 [3,2,1],zX 46 (.fy 1 (.t 45)) 5 [4,3,2,1],zX 47 (.load false 1 (.t 46)) 6 [5,4,3,2,1],zX 48 (.mov (.t 0)) 7 [],
 zX 49 (.gy (.t 48)) 8 [7],zX 50 (.fy 3 (.t 49)) 9 [8,7],zX 51 (.fy 2 (.t 50)) 10 [9,8,7],zX 52 (.load false 1 (.t 51)) 11 [10,9,8,7],⟨some 53,none,.fy 3 (.t 5),12,[] ⟩,
 zX 54 (.load false 1 (.t 53)) 13 [12],zX 55 (.call (.c (.fn 101 [])) [.t 52,.t 54]) 14 [13,12,11,10,9,8,7],zX 56 (.call (.c (.fn 103 [])) [.t 41,.t 47,.t 55]) 15 [14,13,12,11,10,9,8,7,6,5,
 4,3,2,1,0]]) (.seq (.reg [zO 4 (.mov (zi 0))]) .ret)))))⟩
theorem pf102_is:pfs 102=some pf102:=by kernel_rfl
def pf103:PF:=⟨25,[],.seq (.jk [11011,0,0] [zM 6 0,zX 7 (.mov (.t 0)) 1 [],zX 8 (.gy (.t 7)) 2 [1],zX 9 (.fy 7 (.t 8)) 3 [2,1],zX 10 (.load false 1 (.t 9)) 4 [3,2,1],
 zX 11 (.mov (.t 0)) 5 [],zX 12 (.gy (.t 11)) 6 [5],zX 13 (.fy 3 (.t 12)) 7 [6,5],zX 14 (.load true 3 (.t 13)) 8 [7,6,5],zX 15 (.bsl (.agg [.v (.int .i64 0),.v (.int .i64 0),
 .sl [] .nil]) 1 [(0,3,.t 14)]) 9 [8,7,6,5],zX 16 (.app 3 (some true) (.t 10) (.t 15)) 10 [9,8,7,6,5,4,3,2,1],zX 17 (.gy (.t 6)) 11 [10,9,8,7,6,5,4,3,2,1,0],
 zX 18 (.fy 7 (.t 17)) 12 [11,10,9,8,7,6,5,4,3,2,1,0],⟨none,none,.store 1 (.t 18) (.t 16),13,[12,11,10,9,8,7,6,5,4,3,2,1,0]⟩]) (.reg [zM 19 0,zM 20 1,zM 21 2 ,
 zO 22 (.build [.v (.int .i64 0),.v (.int .i64 0),.sl [] .nil] [(0,1,.t 20),(2,1,.t 21)]),zK 23 19,zF 24 3 23,zN (.store 3 (.t 24) (.t 22))])⟩
theorem pf103_is:pfs 103=some pf103:=by kernel_rfl
def pf104:PF:=⟨31,[.c 2 true 4],.seq (.reg [zO 2 (.alloc [.v (.int .i64 0),.v (.int .i64 0),.v (.string (ByteArray.mk #[])),
 .sl [] .nil])]) (.seq (.jk [13] [zX 3 (.alloc [.v (.int .i64 0),.v (.int .i64 0),.v (.string (ByteArray.mk #[])),.sl [] .nil]) 12 [],zM 4 0,zX 5 (.gy (.t 4)) 1 [0],
 zX 6 (.fy 6 (.t 5)) 2 [1,0],zX 7 (.load false 1 (.t 6)) 3 [2,1,0],zX 8 (.mov (.t 0)) 4 [],zX 9 (.gy (.t 8)) 5 [4],zX 10 (.fy 6 (.t 9)) 6 [5,4],zX 11 (.load false 1 (.t 10)) 7 [6,5,
 4],zX 12 (.m5 (.t 11)) 8 [7,6,5,4],zX 13 (.bin .sub (.t 12) (zi 1)) 9 [8,7,6,5,4],zX 14 (.j6 4 (.t 7) (.t 13)) 10 [9,8,7,6,5,4,3,2,1,0],zX 15 (.load true 4 (.t 14)) 11 [10,9,8,7,6,5,4,
 3,2,1,0],⟨none,none,.store 4 (.t 3) (.t 15),13,[11,10,9,8,7,6,5,4,3,2,1,0,12]⟩]) (.seq (.jk [12,0,0] [zM 16 0,zX 17 (.mov (.t 0)) 1 [],zX 18 (.gy (.t 17)) 2 [1],
 zX 19 (.fy 6 (.t 18)) 3 [2,1],zX 20 (.load false 1 (.t 19)) 4 [3,2,1],zX 21 (.mov (.t 0)) 5 [],zX 22 (.gy (.t 21)) 6 [5],zX 23 (.fy 6 (.t 22)) 7 [6,5],
 zX 24 (.load false 1 (.t 23)) 8 [7,6,5],zX 25 (.m5 (.t 24)) 9 [8,7,6,5],zX 26 (.bin .sub (.t 25) (zi 1) ) 10 [9,8,7,6,5],zX 27 (.slice 4 (.t 20) none (some (.t 26)) none) 11 [10,9,8,7,6,
 5,4,3,2,1],zX 28 (.gy (.t 16)) 12 [11,10,9,8,7,6,5,4,3,2,1,0],zX 29 (.fy 6 (.t 28)) 13 [12,11,10,9,8,7,6,5,4,3,2,1,0],⟨none,none,.store 1 (.t 29) (.t 27),14,[13,12,11,10,9,8,7,6,5,4,
 3,2,1,0]⟩]) (.seq (.reg [zR 30 4 3,zN (.store 4 (.t 2) (.t 30))]) .ret)))⟩
theorem pf104_is:pfs 104=some pf104:=by kernel_rfl
def pf105:PF:=⟨24,[.t 4],.seq (.reg [zO 4 (.mov (zi 0))]) (.seq (.reg [zM 6 0,zC 7 104 [.t 6],zO 5 (.alloc [.v (.int .i64 0),.v (.int .i64 0),.v (.string (ByteArray.mk #[])),
 .sl [] .nil]),zN (.store 4 (.t 5) (.t 7))]) (.seq (.seq (.reg [zF 8 0 5,zL 9 8]) (.block 0 (.seq (.reg [zB 11 .eql (.t 9) (zi 0),zM 10 11]) (.cond (.t 10) (.reg [zM 12 0,zR 13 4 5,
 zC 14 99 [.t 12,.t 13]]) (.seq (.reg [zB 16 .eql (.t 9) (zi 3),zM 15 16]) (.cond (.t 15) (.reg [zM 17 0,zF 18 3 5,zL 19 18,zM 20 1,zO 21 (.j6 4 (.t 19) (.t 20)),zR 22 4 21,
 zC 23 99 [.t 17,.t 22]]) (.seq (.reg [zO 4 (.mov (zi 10))]) .ret))))))) (.seq (.reg [zO 4 (.mov (zi 0))]) .ret)))⟩
theorem pf105_is:pfs 105=some pf105:=by kernel_rfl
def pf106:PF:=⟨21,[.t 2],.seq (.reg [zO 2 (.mov (zb false))]) (.seq (.reg [zM 3 0,zO 4 (.bin .geq (.t 3) (.c (.v (.int .u8 97)) )),zM 5 4,yM 6 5 true 0,
 zG 7 5 true (.bin .leq (.t 6) (.c (.v (.int .u8 122)))),zP 8 5 7 false,zM 9 8,yM 10 9 false 0,zG 11 9 false (.bin .geq (.t 10) (.c (.v (.int .u8 65)))),yM 12 9 false 11,yM 13 12 true 0,
 zG 14 12 true (.bin .leq (.t 13) (.c (.v (.int .u8 90)))),zG 15 9 false (.pick (.t 12) (.t 14) (zb false)),⟨some 16,none,.pick (.t 9) (zb true) (.t 15),0,[] ⟩,zM 17 16,yM 18 17 false 0,
 zG 19 17 false (.bin .eql (.t 18) (.c (.v (.int .u8 95)))),zQ 20 17 true 19,zM 2 20]) .ret)⟩
theorem pf106_is:pfs 106=some pf106:=by kernel_rfl
def pf113:PF:=⟨160,[.t 8],.seq (.reg [zO 5 (.box (.t 1)),zO 8 (.mov (zi 0))]) (.seq (.seq (.reg [zF 13 0 5,zL 14 13,zB 15 .lss (.t 14) (zi 0),zM 16 15,yF 17 16 false 0 5,
 yL 18 16 false 17,yB 19 16 false .gtr (.t 18) (zi 14),zQ 20 16 true 19,zM 21 20,yF 22 21 false 1 5,⟨some 23,some (21,false),.load false 1 (.t 22),0,[] ⟩,yB 24 21 false .lss (.t 23) (zi 0),
 zQ 25 21 true 24,zM 26 25,yF 27 26 false 2 5,yL 28 26 false 27,zG 29 26 false (.bin .lss (.t 28) (.c (.v (.int .i64 0)) )),
 zQ 30 26 true 29]) (.cond (.t 30) (.seq (.reg [zO 8 (.mov (zi 3))]) .ret) .skip)) (.seq (.reg [zF 32 0 5,zL 33 32,zC 34 152 [.t 33],zM 31 34,zE 35 31 0,zE 36 31 1,zE 37 31 2,zM 9 35,
 zM 10 36,zM 11 37]) (.seq (.seq (.reg [zM 38 9,zO 39 (.un .not (.t 38)),zM 40 39,yF 41 40 true 1 5,yL 42 40 true 41,yB 43 40 true .neq (.t 42) (zi 0),zP 44 40 43 false,zM 45 44,
 yM 46 45 false 10,zG 47 45 false (.un .not (.t 46)),yM 48 45 false 47,yF 49 48 true 2 5,yL 50 48 true 49,yB 51 48 true .neq (.t 50) (zi 0),
 zG 52 45 false (.pick (.t 48) (.t 51) (.c (.v (.bool false)) )),zQ 53 45 true 52,zM 54 53,yM 55 54 false 11,zG 56 54 false (.un .not (.t 55)),yM 57 54 false 56,yF 58 57 true 3 5,
 yL 59 57 true 58,zG 60 57 true (.bin .neq (.t 59) (.c (.v (.string (ByteArray.mk #[]))))),zG 61 54 false (.pick (.t 57) (.t 60) (zb false)),zQ 62 54 true 61,zM 63 62,yF 64 63 false 0 5,
 ⟨some 65,some (63,false) ,.load false 1 (.t 64),0,[]⟩,yB 66 63 false .eql (.t 65) (zi 6),yM 67 63 false 3,⟨some 68,some (63,false) ,.bin .gtr (.t 67) (zi 0),0,[]⟩,
 zG 69 63 false (.eqb true (.t 66) (.t 68)),⟨some 70,none,.pick (.t 63) (zb true) (.t 69),0,
 [] ⟩]) (.cond (.t 70) (.seq (.reg [zO 8 (.mov (zi 3))]) .ret) .skip)) (.seq (.seq (.reg [zF 71 0 5,zL 72 71,zB 73 .eql (.t 72) (zi 5)]) (.cond (.t 73) (.seq (.seq (.reg [zF 74 1 5,zL 75 74,
 zB 76 .gtr (.t 75) (zi 32),zM 77 76,yF 78 77 false 1 5,yL 79 77 false 78,yM 80 77 false 2,zG 81 77 false (.m5 (.t 80)),yB 82 77 false .gtr (.t 79) (.t 81),
 zQ 83 77 true 82]) (.cond (.t 83) (.seq (.reg [zO 8 (.mov (zi 3))]) .ret) .skip)) (.seq (.reg [zO 12 (.mov (zi 0))]) (.block 0 (.loop (.seq (.seq (.reg [zM 84 12,zF 85 1 5,zL 86 85,
 zB 87 .lss (.t 84) (.t 86)]) (.cond (.t 87) .skip (.exit 0))) (.seq (.block 1 (.seq (.reg [zM 90 2,zM 91 12,zO 92 (.j6 4 (.t 90) (.t 91)),zF 93 0 92,zL 94 93,
 zB 95 .neq (.t 94) (zi 6)]) (.cond (.t 95) (.seq (.reg [zO 8 (.mov (zi 3))]) .ret) .skip))) (.reg [zM 88 12,zB 89 .add (.t 88) (zi 1),zM 12 89]))))))) .skip)) (.seq (.seq (.reg [zF 96 0 5,
 zL 97 96,zB 98 .eql (.t 97) (zi 4),zM 99 98,yF 100 99 true 3 5 ,yL 101 99 true 100,zG 102 99 true (.call (.c (.fn 64 [])) [.t 101]),zG 103 99 true (.un .not (.t 102)),
 zP 104 99 103 false]) (.cond (.t 104) (.seq (.reg [zO 8 (.mov (zi 29))]) .ret) .skip)) (.seq (.seq (.jk [0,0,0,0,0,0,0,0,0,0,0,0,0,0,0,0,0,0,0,0,0,0,0,0,0,0,0,0,8,0,0,0,0,0,0,0,8,0,
 0] [zF 105 0 5,zX 106 (.load false 1 (.t 105)) 1 [0],zX 107 (.bin .eql (.t 106) (zi 4)) 2 [1,0],zX 108 (.mov (.t 107)) 3 [2,1,0],zY 109 108 true (.fy 1 (.t 5)) 4 [3,2,1,0],
 zY 110 108 true (.load false 1 (.t 109)) 5 [4,3,2,1,0],zY 111 108 true (.bin .geq (.t 110) (zi 32)) 6 [5,4,3,2,1,0],zX 112 (.pick (.t 108) (.t 111) (zb false)) 7 [6,5,4,3,2,1,0],
 zX 113 (.mov (.t 112)) 8 [7,6,5,4,3,2,1,0],zY 114 113 false (.fy 0 (.t 5)) 9 [8,7,6,5,4,3,2,1,0],zY 115 113 false (.load false 1 (.t 114)) 10 [9,8,7,6,5,4,3,2,1,0],
 zY 116 113 false (.bin .eql (.t 115) (zi 6)) 11 [10,9,8,7,6,5,4,3,2,1,0],zY 117 113 false (.mov (.t 116)) 12 [11,10,9,8,7,6,5,4,3,2,1,0],zY 118 117 true (.fy 2 (.t 5)) 13 [12,11,10,9,8,
 7,6,5,4,3,2,1,0],zY 119 117 true (.load false 1 (.t 118)) 14 [13,12,11,10,9,8,7,6,5,4,3,2,1,0],zY 120 117 true (.bin .gtr (.t 119) (zi 64)) 15 [14,13,12,11,10,9,8,7,6,5,4,3,2,1,0],
 zY 121 113 false (.pick (.t 117) (.t 120) (zb false)) 16 [15,14,13,12,11,10,9,8,7,6,5,4,3,2,1,0],zX 122 (.pick (.t 113) (zb true) (.t 121)) 17 [16,15,14,13,12,11,10,9,8,7,6,5,4,3,2,1,0],
 zX 123 (.mov (.t 122)) 18 [17,16,15,14,13,12,11,10,9,8,7,6,5,4,3,2,1,0],zY 124 123 false (.fy 0 (.t 5)) 19 [18,17,16,15,14,13,12,11,10,9,8,7,6,5,4,3,2,1,0],
 zY 125 123 false (.load false 1 (.t 124)) 20 [19,18,17,16,15,14,13,12,11,10,9,8,7,6,5,4,3,2,1,0],zY 126 123 false (.bin .eql (.t 125) (zi 1)) 21 [20,19,18,17,16,15,14,13,12,11,10,9,8,7,6,5,
 4,3,2,1,0],zY 127 123 false (.mov (.t 126)) 22 [21,20,19,18,17,16,15,14,13,12,11,10,9,8,7,6,5,4,3,2,1,0],⟨some 128,some (127,false) ,.fy 0 (.t 5),23,[22,21,20,19,18,17,16,15,14,13,12,11,
 10,9,8,7,6,5,4,3,2,1,0]⟩,zY 129 127 false (.load false 1 (.t 128)) 24 [23,22,21,20,19,18,17,16,15,14,13,12,11,10,9,8,7,6,5,4,3,2,1,0],zY 130 127 false (.bin .eql (.t 129) (zi 6)) 25 [24,23,
 22,21,20,19,18,17,16,15,14,13,12,11,10,9,8,7,6,5,4,3,2,1,0],zY 131 123 false (.pick (.t 127) (zb true) (.t 130)) 26 [25,24,23,22,21,20,19,18,17,16,15,14,13,12,11,10,9,8,7,6,5,4,3,2,1,0],
 zY 132 123 false (.mov (.t 131)) 27 [26,25,24,23,22,21,20,19,18,17,16,15,14,13,12,11,10,9,8,7,6,5,4,3,2,1,0],zY 133 132 true (.fy 1 (.t 5)) 28 [27,26,25,24,23,22,21,20,19,18,17,16,15,14,
 13,12,11,10,9,8,7,6,5,4,3,2,1,0],zY 134 132 true (.load false 1 (.t 133)) 29 [28,27,26,25,24,23,22,21,20,19,18,17,16,15,14,13,12,11,10,9,8,7,6,5,4,3,2,1,0],
 zY 135 132 true (.mov (.t 0)) 30 [27,26,25,24,23,22,21,20,19,18,17,16,15,14,13,12,11,10,9,8,7,6,5,4,3,2,1,0],zY 136 132 true (.gy (.t 135)) 31 [30,27,26,25,24,23,22,21,20,19,18,17,16,15,
 14,13,12,11,10,9,8,7,6,5,4,3,2,1,0],zY 137 132 true (.fy 0 (.t 136)) 32 [31,30,27,26,25,24,23,22,21,20,19,18,17,16,15,14,13,12,11,10,9,8,7,6,5,4,3,2,1,0],
 zY 138 132 true (.fy 0 (.t 137)) 33 [32,31,30,27,26,25,24,23,22,21,20,19,18,17,16,15,14,13,12,11,10,9,8,7,6,5,4,3,2,1,0],zY 139 132 true (.load false 1 (.t 138)) 34 [33,32,31,30,27,26,
 25,24,23,22,21,20,19,18,17,16,15,14,13,12,11,10,9,8,7,6,5,4,3,2,1,0],zY 140 132 true (.m5 (.t 139)) 35 [34,33,32,31,30,27,26,25,24,23,22,21,20,19,18,17,16,15,14,13,12,11,10,9,8,7,6,5,4,3,
 2,1,0],zY 141 132 true (.bin .geq (.t 134) (.t 140)) 36 [35,34,33,32,31,30,29,28,27,26,25,24,23,22,21,20,19,18,17,16,15,14,13,12,11,10,9,8,7,6,5,4,3,2,1,0],
 zY 142 123 false (.pick (.t 132) (.t 141) (zb false)) 37 [36,35,34,33,32,31,30,29,28,27,26,25,24,23,22,21,20,19,18,17,16,15,14,13,12,11,10,9,8,7,6,5,4,3,2,1,0],
 zX 143 (.pick (.t 123) (zb true) (.t 142)) 38 [37,36,35,34,33,32,31,30,29,28,27,26,25,24,23,22,21,20,19,18,17,16,15,14,13,12,11,10,9,8,7,6,5,4,3,2,1,0],zX 144 (.mov (.t 143)) 39 [38,37,36,
 35,34,33,32,31,30,29,28,27,26,25,24,23,22,21,20,19,18,17,16,15,14,13,12,11,10,9,8,7,6,5,4,3,2,1,0],zY 145 144 false (.fy 0 (.t 5)) 40 [39,38,37,36,35,34,33,32,31,30,29,28,27,26,25,24,23,
 22,21,20,19,18,17,16,15,14,13,12,11,10,9,8,7,6,5,4,3,2,1,0],zY 146 144 false (.load false 1 (.t 145)) 41 [40,39,38,37,36,35,34,33,32,31,30,29,28,27,26,25,24,23,22,21,20,19,18,17,16,15,14,
 13,12,11,10,9,8,7,6,5,4,3,2,1,0],zY 147 144 false (.bin .eql (.t 146) (zi 7)) 42 [41,40,39,38,37,36,35,34,33,32,31,30,29,28,27,26,25,24,23,22,21,20,19,18,17,16,15,14,13,12,11,10,9,8,7,6,5,
 4,3,2,1,0],zY 148 144 false (.mov (.t 147)) 43 [42,41,40,39,38,37,36,35,34,33,32,31,30,29,28,27,26,25,24,23,22,21,20,19,18,17,16,15,14,13,12,11,10,9,8,7,6,5,4,3,2,1,0],
 zY 149 148 true (.fy 1 (.t 5)) 44 [43,42,41,40,39,38,37,36,35,34,33,32,31,30,29,28,27,26,25,24,23,22,21,20,19,18,17,16,15,14,13,12,11,10,9,8,7,6,5,4,3,2,1,0] ,
 zY 150 148 true (.load false 1 (.t 149)) 45 [44,43,42,41,40,39,38,37,36,35,34,33,32,31,30,29,28,27,26,25,24,23,22,21,20,19,18,17,16,15,14,13,12,11,10,9,8,7,6,5,4,3,2,1,0],
 zY 151 148 true (.mov (.t 0)) 46 [43,42,41,40,39,38,37,36,35,34,33,32,31,30,29,28,27,26,25,24,23,22,21,20,19,18,17,16,15,14,13,12,11,10,9,8,7,6,5,4,3,2,1,0],
 zY 152 148 true (.gy (.t 151)) 47 [46,43,42,41,40,39,38,37,36,35,34,33,32,31,30,29,28,27,26,25,24,23,22,21,20,19,18,17,16,15,14,13,12,11,10,9,8,7,6,5,4,3,2,1,0],
 zY 153 148 true (.fy 0 (.t 152)) 48 [47,46,43,42,41,40,39,38,37,36,35,34,33,32,31,30,29,28,27,26,25,24,23,22,21,20,19,18,17,16,15,14,13,12,11,10,9,8,7,6,5,4,3,2,1,0],
 zY 154 148 true (.fy 1 (.t 153)) 49 [48,47,46,43,42,41,40,39,38,37,36,35,34,33,32,31,30,29,28,27,26,25,24,23,22,21,20,19,18,17,16,15,14,13,12,11,10,9,8,7,6,5,4,3,2,1,0],
 zY 155 148 true (.load false 1 (.t 154)) 50 [49,48,47,46,43,42,41,40,39,38,37,36,35,34,33,32,31,30,29,28,27,26,25,24,23,22,21,20,19,18,17,16,15,14,13,12,11,10,9,8,7,6,5,4,3,2,1,0],
 zY 156 148 true (.m5 (.t 155)) 51 [50,49,48,47,46,43,42,41,40,39,38,37,36,35,34,33,32,31,30,29,28,27,26,25,24,23,22,21,20,19,18,17,16,15,14,13,12,11,10,9,8,7,6,5,4,3,2,1,0],
 zY 157 148 true (.bin .geq (.t 150) (.t 156)) 52 [51,50,49,48,47,46,45,44,43,42,41,40,39,38,37,36,35,34,33,32,31,30,29,28,27,26,25,24,23,22,21,20,19,18,17,16,15,14,13,12,11,10,9,8,7,6,5,4,
 3,2,1,0],zY 158 144 false (.pick (.t 148) (.t 157) (zb false)) 53 [52,51,50,49,48,47,46,45,44,43,42,41,40,39,38,37,36,35,34,33,32,31,30,29,28,27,26,25,24,23,22,21,20,19,18,17,16,15,14,13,
 12,11,10,9,8,7,6,5,4,3,2,1,0],zX 159 (.pick (.t 144) (zb true) (.t 158)) 54 [53,52,51,50,49,48,47,46,45,44,43,42,41,40,39,38,37,36,35,34,33,32,31,30,29,28,27,26,25,24,23,22,21,20,19,18,17,
 16,15,14,13,12,11,10,9,8,7,6,5,4,3,2,1,0]]) (.cond (.t 159) (.seq (.reg [zO 8 (.mov (zi 2))]) .ret) .skip)) (.seq (.reg [zO 8 (.mov (zi 0))]) .ret)))))))⟩
theorem pf113_is:pfs 113=some pf113:=by kernel_rfl
def pf114:PF:=⟨27,[.t 8],.seq (.reg [zO 8 (.mov (zi 0))]) (.seq (.seq (.reg [zM 9 0,zK 10 9,zF 11 3 10,zL 12 11,zM 13 1,zO 14 (.j6 1 (.t 12) (.t 13)),zL 15 14,
 zB 16 .geq (.t 15) (zi 0)]) (.cond (.t 16) (.seq (.reg [zO 8 (.mov (zi 8))]) .ret) .skip)) (.seq (.seq (.reg [zM 17 1,zM 18 3,
 zB 19 .leq (.t 17) (.t 18)]) (.cond (.t 19) (.seq (.reg [zO 8 (.mov (zi 1))]) .ret) .skip)) (.seq (.reg [zM 20 0,zK 21 20,zF 22 3 21,zL 23 22,zM 24 1,zM 25 2,
 zO 26 (.j6 1 (.t 23) (.t 24)),zN (.store 1 (.t 26) (.t 25))]) (.seq (.reg [zO 8 (.mov (zi 0))]) .ret))))⟩
theorem pf114_is:pfs 114=some pf114:=by kernel_rfl
def pf115:PF:=⟨25,[.t 2,.t 3],.seq (.reg [zO 1 (.box (.t 0)),zO 2 (.mov (zi 0)),zO 3 (.mov (zi 0))]) (.seq (.seq (.reg [zF 4 0 1,
 zL 5 4]) (.block 0 (.seq (.seq (.reg [zB 7 .eql (.t 5) (zi 0),zM 6 7]) (.cond (.t 6) .skip (.seq (.reg [zB 8 .eql (.t 5) (zi 1),
 zM 6 8]) (.cond (.t 6) .skip (.seq (.reg [zB 9 .eql (.t 5) (zi 7),zM 6 9]) (.cond (.t 6) .skip (.seq (.reg [zB 10 .eql (.t 5) (zi 8),
 zM 6 10]) (.cond (.t 6) .skip (.reg [zB 11 .eql (.t 5) (zi 14),zM 6 11]))))))))) (.cond (.t 6) (.seq (.reg [zO 2 (.mov (zi 0)),
 zO 3 (.mov (zi 1))]) .ret) (.seq (.seq (.reg [zB 13 .eql (.t 5) (zi 2),zM 12 13] ) (.cond (.t 12) .skip (.reg [zB 14 .eql (.t 5) (zi 11),
 zM 12 14]))) (.cond (.t 12) (.seq (.reg [zO 2 (.mov (zi 2)),zO 3 (.mov (zi 1))]) .ret) (.seq (.reg [zB 16 .eql (.t 5) (zi 4) ,zM 15 16]) (.cond (.t 15) (.seq (.reg [zF 17 2 1,zL 18 17,
 zM 2 18,zO 3 (.mov (zi 1))]) .ret) (.seq (.seq (.reg [zB 20 .eql (.t 5) (zi 5),zM 19 20]) (.cond (.t 19) .skip (.seq (.reg [zB 21 .eql (.t 5) (zi 12),
 zM 19 21]) (.cond (.t 19) .skip (.reg [zB 22 .eql (.t 5) (zi 13),zM 19 22]))))) (.cond (.t 19) (.seq (.reg [zO 2 (.mov (zi 1)),
 zO 3 (.mov (zi 1))]) .ret) (.seq (.reg [zB 24 .eql (.t 5) (zi 9),zM 23 24]) (.cond (.t 23) (.seq (.reg [zO 2 (.mov (zi 1)),
 zO 3 (.mov (zi 0))]) .ret) .skip)))))))))))) (.seq (.reg [zO 2 (.mov (zi 0)),zO 3 (.mov (zi 0))]) .ret))⟩
theorem pf115_is:pfs 115=some pf115:=by kernel_rfl
def pf131:PF:=⟨21,[.t 2],.seq (.reg [zO 2 (.mov (zb false))]) (.seq (.reg [zM 3 0,zO 4 (.bin .geq (.t 3) (.c (.v (.int .u8 97)) )),zM 5 4,yM 6 5 true 0,
 zG 7 5 true (.bin .leq (.t 6) (.c (.v (.int .u8 122)))),zP 8 5 7 false,zM 9 8,yM 10 9 false 0,zG 11 9 false (.bin .geq (.t 10) (.c (.v (.int .u8 65)))),yM 12 9 false 11,yM 13 12 true 0,
 zG 14 12 true (.bin .leq (.t 13) (.c (.v (.int .u8 90)))),zG 15 9 false (.pick (.t 12) (.t 14) (zb false)),⟨some 16,none,.pick (.t 9) (zb true) (.t 15),0,[] ⟩,zM 17 16,yM 18 17 false 0,
 zG 19 17 false (.bin .eql (.t 18) (.c (.v (.int .u8 95)))),zQ 20 17 true 19,zM 2 20]) .ret)⟩
theorem pf131_is:pfs 131=some pf131:=by kernel_rfl
def pf132:PF:=⟨9,[.t 4],.seq (.reg [zO 4 (.mov (zb false))]) (.seq (.reg [zM 5 0,zM 6 1,zC 7 161 [.t 5,.t 6],zB 8 .geq (.t 7) (zi 0),zM 4 8]) .ret)⟩
theorem pf132_is:pfs 132=some pf132:=by kernel_rfl
def pf133:PF:=⟨13,[.t 3],.seq (.reg [zO 3 (.mov (zb false))]) (.seq (.reg [zM 4 0,zO 5 (.bin .lss (.t 4) (.c (.v (.int .i64 1)) )),zM 6 5,yM 7 6 false 0,yF 8 6 false 0 1,yL 9 6 false 8,
 zG 10 6 false (.m5 (.t 9)),yB 11 6 false .geq (.t 7) (.t 10),zQ 12 6 true 11,zM 3 12]) .ret)⟩
theorem pf133_is:pfs 133=some pf133:=by kernel_rfl
def pf134:PF:=⟨18,[.t 2],.seq (.reg [zO 2 (.mov (zb false))]) (.seq (.seq (.reg [zM 5 0,zS 6 5,
 zO 7 (.mov (zi 0))]) (.block 0 (.loop (.seq (.reg [zB 8 .lss (.t 7) (.t 6)]) (.seq (.cond (.t 8) .skip (.exit 0)) (.seq (.block 1 (.seq (.reg [zM 9 7,zO 10 (.j6 1 (.t 5) (.t 7)),
 zL 11 10,zM 3 9,zM 4 11]) (.seq (.reg [zM 12 0,zM 13 3,zO 14 (.slice 1 (.t 12) none (some (.t 13)) none),zM 15 4,zC 16 162 [.t 14,
 .t 15]]) (.cond (.t 16) (.seq (.reg [zO 2 (.mov (zb true))]) .ret) .skip)))) (.reg [zB 17 .add (.t 7) (zi 1),zM 7 17]))))))) (.seq (.reg [zO 2 (.mov (zb false))]) .ret))⟩
theorem pf134_is:pfs 134=some pf134:=by kernel_rfl
def pf135:PF:=⟨9,[.t 4],.seq (.reg [zO 4 (.mov (zb false))]) (.seq (.reg [zM 5 0,zM 6 1,zC 7 163 [.t 5,.t 6],zB 8 .geq (.t 7) (zi 0),zM 4 8]) .ret)⟩
theorem pf135_is:pfs 135=some pf135:=by kernel_rfl
def pf136:PF:=⟨6,[.t 2],.seq (.reg [zO 2 (.mov (zb false))]) (.seq (.reg [zM 3 0,zC 4 86 [.t 3],zO 5 (.un .not (.t 4)),zM 2 5]) .ret)⟩
theorem pf136_is:pfs 136=some pf136:=by kernel_rfl
def pf137:PF:=⟨18,[.t 2],.seq (.reg [zO 2 (.mov (zb false))]) (.seq (.seq (.reg [zM 5 0,zS 6 5,
 zO 7 (.mov (zi 0))]) (.block 0 (.loop (.seq (.reg [zB 8 .lss (.t 7) (.t 6)]) (.seq (.cond (.t 8) .skip (.exit 0)) (.seq (.block 1 (.seq (.reg [zM 9 7,zO 10 (.j6 1 (.t 5) (.t 7)),
 zL 11 10,zM 3 9,zM 4 11]) (.seq (.reg [zM 12 0,zM 13 3,zO 14 (.slice 1 (.t 12) none (some (.t 13)) none),zM 15 4,zC 16 164 [.t 14,
 .t 15]]) (.cond (.t 16) (.seq (.reg [zO 2 (.mov (zb true))]) .ret) .skip)))) (.reg [zB 17 .add (.t 7) (zi 1),zM 7 17]))))))) (.seq (.reg [zO 2 (.mov (zb false))]) .ret))⟩
theorem pf137_is:pfs 137=some pf137:=by kernel_rfl
def pf139:PF:=⟨60,[.t 8],.seq (.reg [zO 5 (.box (.t 1)),zO 8 (.mov (zi 0))]) (.seq (.seq (.reg [zR 10 4 5,zM 11 2,zM 12 3,zC 13 167 [.t 10,.t 11,.t 12],
 zO 14 (.un .not (.t 13))]) (.cond (.t 14) (.seq (.reg [zO 8 (.mov (zi 3))]) .ret) .skip)) (.seq (.reg [zO 9 (.mov (zb false))]) (.seq (.seq (.reg [zF 15 0 5,
 zL 16 15]) (.block 0 (.seq (.reg [zB 18 .eql (.t 16) (zi 4),zM 17 18]) (.cond (.t 17) (.seq (.seq (.reg [zF 19 3 5,zL 20 19,zC 21 86 [.t 20],
 zO 22 (.un .not (.t 21))]) (.cond (.t 22) (.seq (.reg [zO 8 (.mov (zi 29))]) .ret) .skip)) (.reg [zF 23 1 5,zL 24 23,zB 25 .geq (.t 24) (zi 32),
 zM 9 25])) (.seq (.seq (.reg [zB 27 .eql (.t 16) (zi 1),zM 26 27]) (.cond (.t 26) .skip (.reg [zB 28 .eql (.t 16) (zi 6),zM 26 28]))) (.cond (.t 26) (.jk [8,0,0,0,0,0,0,0,0,0,0,
 0] [zF 29 1 5,zX 30 (.load false 1 (.t 29)) 1 [0],zX 31 (.mov (.t 0)) 2 [],zX 32 (.gy (.t 31)) 3 [2],zX 33 (.fy 0 (.t 32)) 4 [3,2],zX 34 (.fy 0 (.t 33)) 5 [4,3,2],
 zX 35 (.load false 1 (.t 34)) 6 [5,4,3,2],zX 36 (.m5 (.t 35)) 7 [6,5,4,3,2],zX 37 (.bin .geq (.t 30) (.t 36)) 8 [7,6,5,4,3,2,1,0],zX 38 (.mov (.t 37)) 9 [8,7,6,5,4,3,2,1,0],
 zY 39 38 false (.fy 0 (.t 5)) 10 [9,8,7,6,5,4,3,2,1,0],zY 40 38 false (.load false 1 (.t 39)) 11 [10,9,8,7,6,5,4,3,2,1,0],zY 41 38 false (.bin .eql (.t 40) (zi 6)) 12 [11,10,9,8,7,6,5,4,
 3,2,1,0],zY 42 38 false (.mov (.t 41)) 13 [12,11,10,9,8,7,6,5,4,3,2,1,0],zY 43 42 true (.fy 2 (.t 5) ) 14 [13,12,11,10,9,8,7,6,5,4,3,2,1,0],zY 44 42 true (.load false 1 (.t 43)) 15 [14,
 13,12,11,10,9,8,7,6,5,4,3,2,1,0],zY 45 42 true (.bin .gtr (.t 44) (zi 64)) 16 [15,14,13,12,11,10,9,8,7,6,5,4,3,2,1,0],zY 46 38 false (.pick (.t 42) (.t 45) (zb false)) 17 [16,15,14,13,12,
 11,10,9,8,7,6,5,4,3,2,1,0],zX 47 (.pick (.t 38) (zb true) (.t 46)) 18 [17,16,15,14,13,12,11,10,9,8,7,6,5,4,3,2,1,0],zX 9 (.mov (.t 47)) 19 [18,17,16,15,14,13,12,11,10,9,8,7,6,5,4,3,2,1,
 0]]) (.seq (.reg [zB 49 .eql (.t 16) (zi 7),zM 48 49]) (.cond (.t 48) (.jk [8,0] [zF 50 1 5,zX 51 (.load false 1 (.t 50)) 1 [0],zX 52 (.mov (.t 0)) 2 [],zX 53 (.gy (.t 52)) 3 [2],
 zX 54 (.fy 0 (.t 53)) 4 [3,2],zX 55 (.fy 1 (.t 54)) 5 [4,3,2],zX 56 (.load false 1 (.t 55)) 6 [5,4,3,2],zX 57 (.m5 (.t 56)) 7 [6,5,4,3,2],zX 58 (.bin .geq (.t 51) (.t 57)) 8 [7,6,5,
 4,3,2,1,0],zX 9 (.mov (.t 58)) 9 [8,7,6,5,4,3,2,1,
 0]]) .skip)))))))) (.seq (.seq (.reg [zM 59 9]) (.cond (.t 59) (.seq (.reg [zO 8 (.mov (zi 2))]) .ret) .skip)) (.seq (.reg [zO 8 (.mov (zi 0))]) .ret)))))⟩
theorem pf139_is:pfs 139=some pf139:=by kernel_rfl
def pf140:PF:=⟨34,[.t 6],.seq (.reg [zO 5 (.box (.t 2)),zO 6 (.mov (zi 0))]) (.seq (.seq (.reg [zF 7 0 5,zL 8 7]) (.block 0 (.seq (.reg [zB 10 .eql (.t 8) (zi 1),
 zM 9 10]) (.cond (.t 9) (.seq (.reg [zM 11 0,zM 12 1,zF 13 1 5,zL 14 13,zC 15 168 [.t 11,.t 12,.t 14,.c (.v (.int .i64 1))],zM 6 15]) .ret) (.seq (.reg [zB 17 .eql (.t 8) (zi 6),
 zM 16 17]) (.cond (.t 16) (.seq (.reg [zM 18 0,zM 19 1,zF 20 1 5,zL 21 20,zF 22 2 5,zL 23 22,zC 24 168 [.t 18,.t 19,.t 21,.t 23],zM 6 24]) .ret) (.seq (.reg [zB 26 .eql (.t 8) (zi 0) ,
 zM 25 26]) (.cond (.t 25) (.seq (.jk [6] [zF 27 1 5,zX 28 (.load false 1 (.t 27)) 1 [0],zX 29 (.mov (.t 1)) 2 [],zX 30 (.gy (.t 29)) 3 [2],zX 31 (.fy 1 (.t 30)) 4 [3,2],
 zX 32 (.load false 1 (.t 31)) 5 [4,3,2],zX 33 (.bin .geq (.t 28) (.t 32)) 6 [5,4,3,2,1,
 0]]) (.cond (.t 33) (.seq (.reg [zO 6 (.mov (zi 24))]) .ret) .skip)) .skip)))))))) (.seq (.reg [zO 6 (.mov (zi 0))]) .ret))⟩
theorem pf140_is:pfs 140=some pf140:=by kernel_rfl
def pf141:PF:=⟨117,[.t 6],.seq (.reg [zO 4 (.box (.t 1)),zO 6 (.mov (zi 0))]) (.seq (.reg [zM 9 0,zM 10 0,zK 11 10,zF 12 4 11,zL 13 12,zB 14 .sub (.t 13) (zi 1),
 zO 15 (.max (zi 0) (.t 14)),zK 16 9,zF 17 4 16,zN (.store 1 (.t 17) (.t 15))]) (.seq (.seq (.reg [zF 18 0 4,zL 19 18,zB 20 .eql (.t 19) (zi 5)]) (.cond (.t 20) (.reg [zM 21 0,zF 22 1 4,
 zL 23 22,zK 24 21,zF 25 4 24,zN (.store 1 (.t 25) (.t 23))]) .skip)) (.seq (.reg [zR 27 4 4,zC 28 169 [.t 27],zM 26 28,zE 29 26 0,zE 30 26 1,zM 7 29,zM 8 30]) (.seq (.seq (.reg [zM 31 0,
 zK 32 31,zF 33 2 32,zL 34 33,zM 35 7,zB 36 .lss (.t 34) (.t 35),zM 37 36,yF 38 37 false 0 4,yL 39 37 false 38,yB 40 37 false .eql (.t 39) (zi 10),yM 41 37 false 40,yM 42 41 true 0,
 yK 43 41 true 42,yF 44 41 true 3 43,yL 45 41 true 44,yB 46 41 true .eql (.t 45) (zi 0),zG 47 37 false (.pick (.t 41) (.t 46) (zb false)),
 zQ 48 37 true 47]) (.cond (.t 48) (.seq (.reg [zO 6 (.mov (zi 27))]) .ret) .skip)) (.seq (.reg [zM 49 0,zK 50 49,zF 51 2 50,zL 52 51,zM 53 8,zM 54 7,zB 55 .sub (.t 53) (.t 54),
 zB 56 .add (.t 52) (.t 55),zK 57 49,zF 58 2 57,zN (.store 1 (.t 58) (.t 56))]) (.seq (.seq (.reg [zF 59 0 4,zL 60 59]) (.block 0 (.seq (.reg [zB 62 .eql (.t 60) (zi 9),
 zM 61 62]) (.cond (.t 61) (.jk [15,0,0] [zM 63 0,zX 64 (.mov (.t 0)) 1 [],zX 65 (.mov (.t 0)) 2 [],zX 66 (.gy (.t 65)) 3 [2],zX 67 (.fy 1 (.t 66)) 4 [3,2],
 zX 68 (.load false 1 (.t 67)) 5 [4,3,2],zX 69 (.bin .add (.t 68) (zi 1)) 6 [5,4,3,2],zX 70 (.mov (.t 0)) 7 [],zX 71 (.gy (.t 70)) 8 [7],zX 72 (.fy 3 (.t 71)) 9 [8,7],
 zX 73 (.load false 1 (.t 72)) 10 [9,8,7],zX 74 (.bin .add (.t 73) (zi 1)) 11 [10,9,8,7],zX 75 (.gy (.t 63)) 12 [10,9,8,7,6,5,4,3,2,0],zX 76 (.fy 1 (.t 75)) 13 [12,10,9,8,7,6,5,4,3,2,
 0],⟨none,none,.store 1 (.t 76) (.t 69),14,[13,12,10,9,8,7,6,5,4,3,2,0]⟩,zX 77 (.gy (.t 64)) 15 [14,13,12,11,10,9,8,7,6,5,4,3,2,0,1],zX 78 (.fy 3 (.t 77)) 16 [15,14,13,12,11,10,9,8,7,
 6,5,4,3,2,0,1],⟨none,none,.store 1 (.t 78) (.t 74),17,[16,15,14,13,12,11,10,9,8,7,6,5,4,3,2,0,1]⟩]) (.seq (.reg [zB 80 .eql (.t 60) (zi 10),zM 79 80]) (.cond (.t 79) (.jk [15,0,
 0] [zM 81 0,zX 82 (.mov (.t 0)) 1 [],zX 83 (.mov (.t 0)) 2 [],zX 84 (.gy (.t 83)) 3 [2],zX 85 (.fy 1 (.t 84)) 4 [3,2],zX 86 (.load false 1 (.t 85)) 5 [4,3,2],
 zX 87 (.bin .sub (.t 86) (zi 1)) 6 [5,4,3,2],zX 88 (.mov (.t 0)) 7 [],zX 89 (.gy (.t 88)) 8 [7],zX 90 (.fy 3 (.t 89)) 9 [8,7],zX 91 (.load false 1 (.t 90)) 10 [9,8,7],
 zX 92 (.bin .sub (.t 91) (zi 1)) 11 [10,9,8,7],zX 93 (.gy (.t 81)) 12 [10,9,8,7,6,5,4,3,2,0],zX 94 (.fy 1 (.t 93)) 13 [12,10,9,8,7,6,5,4,3,2,0],⟨none,none,.store 1 (.t 94) (.t 87),14,
 [13,12,10,9,8,7,6,5,4,3,2,0]⟩,zX 95 (.gy (.t 82)) 15 [14,13,12,11,10,9,8,7,6,5,4,3,2,0,1],zX 96 (.fy 3 (.t 95)) 16 [15,14,13,12,11,10,9,8,7,6,5,4,3,2,0,1],⟨none,none,
 .store 1 (.t 96) (.t 92),17,[16,15,14,13,12,11,10,9,8,7,6,5,4,3,2,0,1]⟩]) .skip)))))) (.seq (.seq (.reg [zF 97 0 4,zL 98 97,zB 99 .eql (.t 98) (zi 3),zM 100 2,
 zO 101 (.eqb true (.t 99) (.t 100))]) (.cond (.t 101) (.seq (.reg [zO 6 (.mov (zi 3))]) .ret) .skip)) (.seq (.seq (.reg [zM 102 2,zM 103 102,yM 104 103 true 0,yK 105 103 true 104,
 yF 106 103 true 2 105,yL 107 103 true 106,yB 108 103 true .neq (.t 107) (zi 1),yM 109 103 true 108,yM 110 109 false 0,yK 111 109 false 110,yF 112 109 false 3 111,yL 113 109 false 112,
 yB 114 109 false .neq (.t 113) (zi 0),zG 115 103 true (.pick (.t 109) (zb true) (.t 114)),
 zP 116 103 115 false]) (.cond (.t 116) (.seq (.reg [zO 6 (.mov (zi 27))]) .ret) .skip)) (.seq (.reg [zO 6 (.mov (zi 0))]) .ret)))))))))⟩
theorem pf141_is:pfs 141=some pf141:=by kernel_rfl
def pf152:PF:=⟨15,[.t 2,.t 3,.t 4],.seq (.reg [zO 2 (.mov (zb false)),zO 3 (.mov (zb false)),
 zO 4 (.mov (.c (.v (.bool false)) ))]) (.seq (.seq (.reg [zM 5 0]) (.block 0 (.seq (.seq (.reg [zB 7 .eql (.t 5) (zi 0),zM 6 7]) (.cond (.t 6) .skip (.seq (.reg [zB 8 .eql (.t 5) (zi 1),
 zM 6 8]) (.cond (.t 6) .skip (.seq (.reg [zB 9 .eql (.t 5) (zi 5),zM 6 9]) (.cond (.t 6) .skip (.reg [zB 10 .eql (.t 5) (zi 7),
 zM 6 10]))))))) (.cond (.t 6) (.seq (.reg [zO 2 (.mov (zb true)),zO 3 (.mov (zb false)),zO 4 (.mov (zb false))]) .ret) (.seq (.reg [zB 12 .eql (.t 5) (zi 6) ,
 zM 11 12]) (.cond (.t 11) (.seq (.reg [zO 2 (.mov (zb true)),zO 3 (.mov (zb true)),zO 4 (.mov (zb false))]) .ret) (.seq (.reg [zB 14 .eql (.t 5) (zi 4),
 zM 13 14]) (.cond (.t 13) (.seq (.reg [zO 2 (.mov (zb true)),zO 3 (.mov (zb true)),zO 4 (.mov (zb true)) ]) .ret) .skip)))))))) (.seq (.reg [zO 2 (.mov (zb false)),zO 3 (.mov (zb false)),
 zO 4 (.mov (zb false))]) .ret))⟩
theorem pf152_is:pfs 152=some pf152:=by kernel_rfl
def pf161:PF:=⟨19,[.t 4],.seq (.reg [zO 4 (.mov (zi 0))]) (.seq (.seq (.reg [zM 6 0,zS 7 6,
 zO 8 (.mov (zi 0))]) (.block 0 (.loop (.seq (.reg [zB 9 .lss (.t 8) (.t 7)]) (.seq (.cond (.t 9) .skip (.exit 0)) (.seq (.block 1 (.seq (.reg [zM 10 8,zM 5 10]) (.seq (.reg [zM 11 1,
 zM 12 0,zM 13 5,zO 14 (.j6 1 (.t 12) (.t 13)),zL 15 14,zO 16 (.call (.t 11) [.t 15])]) (.cond (.t 16) (.seq (.reg [zM 17 5,zM 4 17]) .ret) .skip)))) (.reg [zB 18 .add (.t 8) (zi 1),
 zM 8 18]))))))) (.seq (.reg [zO 4 (.mov (zi (-1)))]) .ret))⟩
theorem pf161_is:pfs 161=some pf161:=by kernel_rfl
def pf162:PF:=⟨9,[.t 4],.seq (.reg [zO 4 (.mov (zb false))]) (.seq (.reg [zM 5 0,zM 6 1,zC 7 179 [.t 5,.t 6],zB 8 .geq (.t 7) (zi 0),zM 4 8]) .ret)⟩
theorem pf162_is:pfs 162=some pf162:=by kernel_rfl
def pf163:PF:=⟨19,[.t 4],.seq (.reg [zO 4 (.mov (zi 0))]) (.seq (.seq (.reg [zM 6 0,zS 7 6,
 zO 8 (.mov (zi 0))]) (.block 0 (.loop (.seq (.reg [zB 9 .lss (.t 8) (.t 7)]) (.seq (.cond (.t 9) .skip (.exit 0)) (.seq (.block 1 (.seq (.reg [zM 10 8,zM 5 10]) (.seq (.reg [zM 11 1,
 zM 12 0,zM 13 5,zO 14 (.j6 1 (.t 12) (.t 13)),zL 15 14,zO 16 (.call (.t 11) [.t 15])]) (.cond (.t 16) (.seq (.reg [zM 17 5,zM 4 17]) .ret) .skip)))) (.reg [zB 18 .add (.t 8) (zi 1),
 zM 8 18]))))))) (.seq (.reg [zO 4 (.mov (zi (-1)))]) .ret))⟩
theorem pf163_is:pfs 163=some pf163:=by kernel_rfl
def pf164:PF:=⟨9,[.t 4],.seq (.reg [zO 4 (.mov (zb false))]) (.seq (.reg [zM 5 0,zM 6 1,zC 7 180 [.t 5,.t 6],zB 8 .geq (.t 7) (zi 0),zM 4 8]) .ret)⟩
theorem pf164_is:pfs 164=some pf164:=by kernel_rfl
def pf167:PF:=⟨89,[.t 6],.seq (.reg [zO 3 (.box (.t 0)),zO 6 (.mov (zb false))]) (.seq (.seq (.reg [zF 10 0 3,zL 11 10,zB 12 .lss (.t 11) (zi 0),zM 13 12,yF 14 13 false 0 3,
 yL 15 13 false 14,yB 16 13 false .geq (.t 15) (zi 15),zQ 17 13 true 16,zM 18 17,yF 19 18 false 1 3,⟨some 20,some (18,false),.load false 1 (.t 19),0,[] ⟩,yB 21 18 false .lss (.t 20) (zi 0),
 zQ 22 18 true 21,zM 23 22,yF 24 23 false 2 3,yL 25 23 false 24,zG 26 23 false (.bin .lss (.t 25) (.c (.v (.int .i64 0)) )),
 zQ 27 23 true 26]) (.cond (.t 27) (.seq (.reg [zO 6 (.mov (zb false))]) .ret) .skip)) (.seq (.reg [zF 29 0 3,zL 30 29,zC 31 181 [.t 30],zM 28 31,zE 32 28 0,zE 33 28 1,zE 34 28 2,zM 7 32,
 zM 8 33,zM 9 34]) (.seq (.seq (.reg [zM 35 7,zO 36 (.un .not (.t 35)),zM 37 36,yF 38 37 true 1 3,yL 39 37 true 38,zG 40 37 true (.bin .neq (.t 39) (zi 0) ),zP 41 37 40 false,zM 42 41,
 yM 43 42 false 8,zG 44 42 false (.un .not (.t 43)),yM 45 42 false 44,yF 46 45 true 2 3,yL 47 45 true 46,yB 48 45 true .neq (.t 47) (zi 0),zG 49 42 false (.pick (.t 45) (.t 48) (zb false)),
 zQ 50 42 true 49,zM 51 50,yM 52 51 false 9,zG 53 51 false (.un .not (.t 52)),yM 54 51 false 53,yF 55 54 true 3 3,yL 56 54 true 55,
 zG 57 54 true (.bin .neq (.t 56) (.c (.v (.string (ByteArray.mk #[]))))),zG 58 51 false (.pick (.t 54) (.t 57) (zb false)),zQ 59 51 true 58,zM 60 59,yF 61 60 false 0 3,yL 62 60 false 61,
 yB 63 60 false .eql (.t 62) (zi 6),yM 64 60 false 2,yB 65 60 false .gtr (.t 64) (zi 0),zG 66 60 false (.eqb true (.t 63) (.t 65)),
 zQ 67 60 true 66 ]) (.cond (.t 67) (.seq (.reg [zO 6 (.mov (zb false))]) .ret) .skip)) (.seq (.seq (.reg [zF 68 0 3,zL 69 68,
 zB 70 .neq (.t 69) (zi 5)]) (.cond (.t 70) (.seq (.reg [zO 6 (.mov (zb true))]) .ret) .skip)) (.seq (.reg [zF 71 1 3,zL 72 71,zB 73 .leq (.t 72) (zi 32),zM 74 73,yF 75 74 true 1 3,
 yL 76 74 true 75,yM 77 74 true 1,zG 78 74 true (.m5 (.t 77)),yB 79 74 true .leq (.t 76) (.t 78),zP 80 74 79 false ,zM 81 80,yM 82 81 true 1,yF 83 81 true 1 3,yL 84 81 true 83,
 zG 85 81 true (.slice 4 (.t 82) none (some (.t 84)) none),zG 86 81 true (.call (.c (.fn 182 [])) [.t 85,.c (.fn 183 [])]),zG 87 81 true (.un .not (.t 86)),zP 88 81 87 false,
 zM 6 88]) .ret)))))⟩
theorem pf167_is:pfs 167=some pf167:=by kernel_rfl
def pf168:PF:=⟨37,[.t 8],.seq (.reg [zO 8 (.mov (zi 0))]) (.seq (.block 0 (.seq (.reg [zM 10 0,zK 11 10,zF 12 3 11,zL 13 12,zM 14 2,zO 15 (.j6 1 (.t 13) (.t 14)),zL 16 15,
 zB 17 .geq (.t 16) (zi 0),zM 9 17]) (.cond (.t 9) (.seq (.reg [zO 8 (.mov (zi 8))]) .ret) (.seq (.reg [zM 19 2,zM 20 1,zK 21 20,zF 22 0 21,zL 23 22,zB 24 .leq (.t 19) (.t 23),
 zM 18 24]) (.cond (.t 18) (.seq (.reg [zO 8 (.mov (zi 1))]) .ret) .skip))))) (.seq (.jk [11,0] [zM 25 0,zX 26 (.gy (.t 25)) 1 [0] ,zX 27 (.fy 3 (.t 26)) 2 [1,0],
 zX 28 (.load false 1 (.t 27)) 3 [2,1,0],zX 29 (.mov (.t 2)) 4 [],zX 30 (.mov (.t 1)) 5 [],zX 31 (.gy (.t 30)) 6 [5],zX 32 (.fy 1 (.t 31)) 7 [6,5],zX 33 (.load false 1 (.t 32)) 8 [7,6,
 5],zX 34 (.mov (.t 3)) 9 [],zX 35 (.bin .add (.t 33) (.t 34)) 10 [9,8,7,6,5],zX 36 (.j6 1 (.t 28) (.t 29)) 11 [10,9,8,7,6,5,4,3,2,1,0],⟨none,none,.store 1 (.t 36) (.t 35),12,[11,10,9,8,
 7,6,5,4,3,2,1,0]⟩]) (.seq (.reg [zO 8 (.mov (zi 0))]) .ret)))⟩
theorem pf168_is:pfs 168=some pf168:=by kernel_rfl
def pf169:PF:=⟨25,[.t 2,.t 3],.seq (.reg [zO 1 (.box (.t 0)),zO 2 (.mov (zi 0)),zO 3 (.mov (zi 0))]) (.seq (.seq (.reg [zF 4 0 1,
 zL 5 4]) (.block 0 (.seq (.seq (.reg [zB 7 .eql (.t 5) (zi 0),zM 6 7]) (.cond (.t 6) .skip (.seq (.reg [zB 8 .eql (.t 5) (zi 1),
 zM 6 8]) (.cond (.t 6) .skip (.seq (.reg [zB 9 .eql (.t 5) (zi 7),zM 6 9]) (.cond (.t 6) .skip (.seq (.reg [zB 10 .eql (.t 5) (zi 8),
 zM 6 10]) (.cond (.t 6) .skip (.reg [zB 11 .eql (.t 5) (zi 14),zM 6 11]))))))))) (.cond (.t 6) (.seq (.reg [zO 2 (.mov (zi 0)),
 zO 3 (.mov (zi 1))]) .ret) (.seq (.seq (.reg [zB 13 .eql (.t 5) (zi 2),zM 12 13] ) (.cond (.t 12) .skip (.reg [zB 14 .eql (.t 5) (zi 11),
 zM 12 14]))) (.cond (.t 12) (.seq (.reg [zO 2 (.mov (zi 2)),zO 3 (.mov (zi 1))]) .ret) (.seq (.reg [zB 16 .eql (.t 5) (zi 4) ,zM 15 16]) (.cond (.t 15) (.seq (.reg [zF 17 2 1,zL 18 17,
 zM 2 18,zO 3 (.mov (zi 1))]) .ret) (.seq (.seq (.reg [zB 20 .eql (.t 5) (zi 5),zM 19 20]) (.cond (.t 19) .skip (.seq (.reg [zB 21 .eql (.t 5) (zi 12),
 zM 19 21]) (.cond (.t 19) .skip (.reg [zB 22 .eql (.t 5) (zi 13),zM 19 22]))))) (.cond (.t 19) (.seq (.reg [zO 2 (.mov (zi 1)),
 zO 3 (.mov (zi 1))]) .ret) (.seq (.reg [zB 24 .eql (.t 5) (zi 9),zM 23 24]) (.cond (.t 23) (.seq (.reg [zO 2 (.mov (zi 1)),
 zO 3 (.mov (zi 0))]) .ret) .skip)))))))))))) (.seq (.reg [zO 2 (.mov (zi 0)),zO 3 (.mov (zi 0))]) .ret))⟩
theorem pf169_is:pfs 169=some pf169:=by kernel_rfl
def pf179:PF:=⟨19,[.t 4],.seq (.reg [zO 4 (.mov (zi 0))]) (.seq (.seq (.reg [zM 6 0,zS 7 6,
 zO 8 (.mov (zi 0))]) (.block 0 (.loop (.seq (.reg [zB 9 .lss (.t 8) (.t 7)]) (.seq (.cond (.t 9) .skip (.exit 0)) (.seq (.block 1 (.seq (.reg [zM 10 8,zM 5 10]) (.seq (.reg [zM 11 1,
 zM 12 0,zM 13 5,zO 14 (.j6 1 (.t 12) (.t 13)),zL 15 14,zB 16 .eql (.t 11) (.t 15)] ) (.cond (.t 16) (.seq (.reg [zM 17 5,zM 4 17]) .ret) .skip)))) (.reg [zB 18 .add (.t 8) (zi 1),
 zM 8 18]))))))) (.seq (.reg [zO 4 (.mov (zi (-1)))]) .ret))⟩
theorem pf179_is:pfs 179=some pf179:=by kernel_rfl
def pf180:PF:=⟨19,[.t 4],.seq (.reg [zO 4 (.mov (zi 0))]) (.seq (.seq (.reg [zM 6 0,zS 7 6,
 zO 8 (.mov (zi 0))]) (.block 0 (.loop (.seq (.reg [zB 9 .lss (.t 8) (.t 7)]) (.seq (.cond (.t 9) .skip (.exit 0)) (.seq (.block 1 (.seq (.reg [zM 10 8,zM 5 10]) (.seq (.reg [zM 11 1,
 zM 12 0,zM 13 5,zO 14 (.j6 1 (.t 12) (.t 13)),zL 15 14,zB 16 .eql (.t 11) (.t 15)] ) (.cond (.t 16) (.seq (.reg [zM 17 5,zM 4 17]) .ret) .skip)))) (.reg [zB 18 .add (.t 8) (zi 1),
 zM 8 18]))))))) (.seq (.reg [zO 4 (.mov (zi (-1)))]) .ret))⟩
theorem pf180_is:pfs 180=some pf180:=by kernel_rfl
def pf181:PF:=⟨15,[.t 2,.t 3,.t 4],.seq (.reg [zO 2 (.mov (zb false)),zO 3 (.mov (zb false)),
 zO 4 (.mov (.c (.v (.bool false)) ))]) (.seq (.seq (.reg [zM 5 0]) (.block 0 (.seq (.seq (.reg [zB 7 .eql (.t 5) (zi 0),zM 6 7]) (.cond (.t 6) .skip (.seq (.reg [zB 8 .eql (.t 5) (zi 1),
 zM 6 8]) (.cond (.t 6) .skip (.seq (.reg [zB 9 .eql (.t 5) (zi 5),zM 6 9]) (.cond (.t 6) .skip (.reg [zB 10 .eql (.t 5) (zi 7),
 zM 6 10]))))))) (.cond (.t 6) (.seq (.reg [zO 2 (.mov (zb true)),zO 3 (.mov (zb false)),zO 4 (.mov (zb false))]) .ret) (.seq (.reg [zB 12 .eql (.t 5) (zi 6) ,
 zM 11 12]) (.cond (.t 11) (.seq (.reg [zO 2 (.mov (zb true)),zO 3 (.mov (zb true)),zO 4 (.mov (zb false))]) .ret) (.seq (.reg [zB 14 .eql (.t 5) (zi 4),
 zM 13 14]) (.cond (.t 13) (.seq (.reg [zO 2 (.mov (zb true)),zO 3 (.mov (zb true)),zO 4 (.mov (zb true)) ]) .ret) .skip)))))))) (.seq (.reg [zO 2 (.mov (zb false)),zO 3 (.mov (zb false)),
 zO 4 (.mov (zb false))]) .ret))⟩
theorem pf181_is:pfs 181=some pf181:=by kernel_rfl
def pf182:PF:=⟨9,[.t 4],.seq (.reg [zO 4 (.mov (zb false))]) (.seq (.reg [zM 5 0,zM 6 1,zC 7 185 [.t 5,.t 6],zB 8 .geq (.t 7) (zi 0),zM 4 8]) .ret)⟩
theorem pf182_is:pfs 182=some pf182:=by kernel_rfl
def pf183:PF:=⟨6,[.t 2],.seq (.reg [zO 1 (.box (.t 0)),zO 2 (.mov (zb false))]) (.seq (.reg [zF 3 0 1,zL 4 3,zB 5 .neq (.t 4) (zi 6),zM 2 5]) .ret)⟩
theorem pf183_is:pfs 183=some pf183:=by kernel_rfl
def pf185:PF:=⟨19,[.t 4],.seq (.reg [zO 4 (.mov (zi 0))]) (.seq (.seq (.reg [zM 6 0,zS 7 6,
 zO 8 (.mov (zi 0))]) (.block 0 (.loop (.seq (.reg [zB 9 .lss (.t 8) (.t 7)]) (.seq (.cond (.t 9) .skip (.exit 0)) (.seq (.block 1 (.seq (.reg [zM 10 8,zM 5 10]) (.seq (.reg [zM 11 1,
 zM 12 0,zM 13 5,zO 14 (.j6 4 (.t 12) (.t 13)),zR 15 4 14,zO 16 (.call (.t 11) [.t 15])]) (.cond (.t 16) (.seq (.reg [zM 17 5,zM 4 17]) .ret) .skip)))) (.reg [zB 18 .add (.t 8) (zi 1),
 zM 8 18]))))))) (.seq (.reg [zO 4 (.mov (zi (-1)))]) .ret))⟩
theorem pf185_is:pfs 185=some pf185:=by kernel_rfl
end Go.Proofs.Eng
