/- slices.Clone, told. No conditions beyond those in the theorems. -/
import Derived.Test.YtflfmkkcnphdcaaGreatG5
import Derived.Test.YtflfmkkcnphdcaaGreatSW
import Derived.Deep.RegionHeld3
import Derived.RangeFuncBox
import Derived.RangeFuncLeaves
import Derived.Shelf.Abstract
import Derived.WalkKit
import Derived.OwnWalkIn
import Derived.TacticsInMore
import Derived.LoopNIn
import Derived.LoopIn
import Derived.Laws.CopyOwn
import Derived.Deep.LoopGhost
set_option linter.all false
set_option linter.deprecated false
set_option linter.unnecessarySimpa false
set_option linter.unusedVariables false
set_option linter.unusedSimpArgs false
set_option linter.defProp false
namespace Go.Proofs.Eng
open Go Go.Proofs
set_option maxRecDepth 10000
def a7b:=And.intro @Y5 (And.intro @O4 (And.intro @a19 (And.intro @a48 (And.intro @a0q (And.intro @Uv (And.intro @Tu (And.intro @a26 (And.intro @a2v (And.intro @a3i (And.intro @Y2 (And.intro @Ti (And.intro @a2s (And.intro @Vc (And.intro @a3a (And.intro @a1s (And.intro @a4l (And.intro @a2f (And.intro @a5s (And.intro @a06 (And.intro @a0b (And.intro @Xp (And.intro @Ta (And.intro @W9 (And.intro @Ph (And.intro @Ya (And.intro @Zm (And.intro @Yk (And.intro @a0n (And.intro @a25 (And.intro @Wj (And.intro @a33 (And.intro @a4p (And.intro @a0c (And.intro @Xd (And.intro @Xy (And.intro @a5a (And.intro @Uq (And.intro @a2r (And.intro @Wi (And.intro @a3z (And.intro @Xg (And.intro @Su (And.intro @a4m (And.intro @Vw (And.intro @a1r (And.intro @a3p (And.intro @a29 (And.intro @a5h (And.intro @a5p (And.intro @Ww (And.intro @Zp (And.intro @X5 (And.intro @Wa (And.intro @W7 (And.intro @Qg (And.intro @Y8 (And.intro @Wt (And.intro @Yo (And.intro @X6 (And.intro @a2x (And.intro @Ub (And.intro @a1t (And.intro @a3s (And.intro @Yv (And.intro @Yi (And.intro @Xa (And.intro @a2z (And.intro @Td (And.intro @a4e (And.intro @Ro (And.intro @R9 (And.intro @U8 (And.intro @Xb (And.intro @Q7 (And.intro @Wr (And.intro @Xx (And.intro @a5d (And.intro @a2q (And.intro @a1p (And.intro @a56 (And.intro @Xk (And.intro @T8 (And.intro @a71 (And.intro @a6n (And.intro @a6l (@a6z))))))))))))))))))))))))))))))))))))))))))))))))))))))))))))))))))))))))))))))))))))))
def wbm:=And.intro @a0k (And.intro @So (And.intro @T4 (And.intro @Z9 (And.intro @a5j (And.intro @a0r (And.intro @Yn @Zi))))))
def wbs:=And.intro @X9 (And.intro @Y3 (And.intro @a5c (And.intro @Tp (And.intro @a4f (And.intro @Xt (And.intro @a2a (And.intro @Z6 (And.intro @a1w (And.intro @Xc (And.intro @V8 (And.intro @V0 (And.intro @a0h (And.intro @Le.eq_1 (And.intro @Le.eq_2 (And.intro @Le.eq_3 (And.intro @Option.isSome_none.{0} @Option.isSome_some.{0}))))))))))))))))
def wall:=And.intro wbm (And.intro wbs (And.intro a6u (And.intro a6g (And.intro a7b (And.intro @ne_eq.{1} (And.intro @if_true.{1} (And.intro @if_false.{1} (And.intro @exists_eq_left'.{1} (And.intro @true_implies (And.intro @false_implies (And.intro @exists_const.{1} (And.intro @exists_eq_right.{1} (And.intro @Fc.eq_1 (And.intro @Fc.eq_2 (And.intro @Fc.eq_3 (And.intro @Fc.eq_4 (And.intro @Fc.eq_5 (And.intro @vv.eq_1 (And.intro @vv.eq_2 (And.intro @vv.eq_3 (And.intro @vv.eq_4 (And.intro @vv.eq_5 (And.intro @vv.eq_6 (And.intro @vv.eq_7 (And.intro @vv.eq_8 (And.intro @vv.eq_9 (And.intro @vv.eq_10 (And.intro @vv.eq_11 (And.intro @vv.eq_12 (And.intro @vv.eq_13 (And.intro @vv.eq_14 (And.intro @vv.eq_15 (And.intro @vv.eq_16 (And.intro @sf.eq_1 (And.intro @sf.eq_2 (And.intro @sf.eq_3 (And.intro @uo.eq_1 (And.intro @uo.eq_2 (And.intro @x8.eq_1 (And.intro @setAt.eq_1 (And.intro @il.eq_1 (And.intro @il.eq_2 (And.intro @v8.eq_1 (And.intro @X.isC.eq_1 (And.intro @X.isC.eq_2 (And.intro @ma.eq_1 (And.intro @ma.eq_2 (And.intro @ma.eq_3 (And.intro @oq.eq_1 (And.intro @oq.eq_2 (And.intro @unA.eq_1 (And.intro @unA.eq_2 (And.intro @unA.eq_3 (And.intro @jd.eq_1 (And.intro @jd.eq_2 (And.intro @Km.eq_1 (And.intro @Km.eq_2 (And.intro @Km.eq_3 (And.intro @Km.eq_4 (And.intro @Kq.eq_1 (And.intro @Kq.eq_2 (And.intro @Kq.eq_3 (And.intro @Kq.eq_4 (And.intro @ui.eq_1 (And.intro @ui.eq_2 (And.intro @wz.eq_1 (And.intro @wz.eq_2 (And.intro @ASt.fz.eq_1 (And.intro @Eu.eq_1 (And.intro @Eu.eq_2 (And.intro @Eu.eq_3 (And.intro @Eu.eq_4 (And.intro @Eu.eq_5 (And.intro @Eu.eq_6 (And.intro @Eu.eq_7 (And.intro @Eu.eq_8 (And.intro @tk.eq_1 (And.intro @tk.eq_2 (And.intro @tk.eq_3 (And.intro @Ga.eq_1 (And.intro @Ga.eq_2 @Ga.eq_3)))))))))))))))))))))))))))))))))))))))))))))))))))))))))))))))))))))))))))))))))
def wH:=And.intro @List.length_append.{0} (And.intro @List.append_assoc.{0} (And.intro @xj (And.intro @Co (And.intro @Cc @Ck))))
end Go.Proofs.Eng
namespace Go.Proofs.Eng
open Go Go.Proofs Go.RowKit Go.Shelf
set_option maxRecDepth 100000
set_option maxHeartbeats 4000000
abbrev afV (b1 b2:Nat):Value:=.func (.func 172) #[] #[.pointer (some ⟨b1,0,none⟩),.pointer (some ⟨b2,0,none⟩)]
def qe (B:Nat) (x:Value) (k:Int) (w:World) (b1 b2:Nat):Prop:=B<=b1/\B<=b2/\w.cell? ⟨b1,0,none⟩=some x/\w.cell? ⟨b2,0,none⟩=some (.int .i64 k)
theorem wu {w w':World} (h:Below w.heap.size w w') {b o:Nat} {v:Value} (hc:w.cell? ⟨b,o,none⟩=some v):w'.cell? ⟨b,o,none⟩=some v:=by
 rw[<- hc];exact World.cell?_of_block (w:=w) (a:=⟨b,o,none⟩) (h.block b (World.block_lt_of_cell? _ _ hc))
theorem qe.jb {B:Nat} {x:Value} {k:Int} {w w':World} {b1 b2:Nat} (h:qe B x k w b1 b2) (hb:Below w.heap.size w w'):qe B x k w' b1 b2:=
 ⟨h.1,h.2.1,wu hb h.2.2.1,wu hb h.2.2.2⟩
theorem qx (B:Nat) (a:Option Addr) (k:Int) (w:World) (hB:B<=w.heap.size) :
  Calls Tryz.prog 147 #[.pointer a,.int .i64 k] w λe w'=>∃b1 b2,e = .returned (.func (.func 172) #[] #[.pointer (some ⟨b1,0,none⟩),.pointer (some ⟨b2,0,none⟩)])/\qe B (.pointer a) k w' b1 b2/\Below w.heap.size w w':=by
 go_enter Tryz.func147,Tryz.ntmps147
 go_wp2
 have hb1:Below w.heap.size w (w.alloc (Obj.cells #[Value.pointer a] 115)):=(Below.refl _ w).alloc (di _) _
 have hb2:=hb1.alloc (by simp) (Obj.cells #[Value.int IntKind.i64 k] 3)
 refine bodyPost_ret (v:=.func (.func 172) #[] #[.pointer (some ⟨w.heap.size,0,none⟩),.pointer (some ⟨w.heap.size+1,0,none⟩)]) (by simp[results,Tryz.results147,go_sem]) rfl ⟨_,_,rfl,⟨hB,Nat.le_succ_of_le hB, ?_, ?_⟩,hb2⟩
 ·rw[World.cell?_alloc_lt _ _ _ (by simp)]
  simp only[World.cell?,je]
  rfl
 ·have:(w.alloc (Obj.cells #[Value.pointer a] 115)).heap.size=w.heap.size+1:=by simp
  rw[<- this]
  simp only[World.cell?,je]
  rfl
theorem Yq {B1 B2:Nat} {x:Value} {w:World} (h:w.cell? ⟨B1,0,none⟩=some x/\w.there B2 0 12):w.drew.cell? ⟨B1,0,none⟩=some x/\w.drew.there B2 0 12:=h
theorem yc {B1 B2:Nat} {x:Value} {w w':World} (hb:Below w.heap.size w w') (h:w.cell? ⟨B1,0,none⟩=some x/\w.there B2 0 12):w'.cell? ⟨B1,0,none⟩=some x/\w'.there B2 0 12:=by
 refine⟨wu hb h.1,λj hj => ?_⟩
 obtain⟨h1,h2⟩:=h.2 j hj
 obtain⟨v,hv⟩:=Option.isSome_iff_exists.1 h1
 refine⟨by rw[wu hb hv];rfl, ?_⟩
 rw[<- h2]
 exact World.frozen?_of_block (hb.block B2 (World.block_lt_of_cell? _ _ hv))
theorem Tf {B1 B2:Nat} {x:Value} {w:World} {vs:List Value} (hne:B1 ≠ B2) (h:w.cell? ⟨B1,0,none⟩=some x/\w.there B2 0 12):(w.setCells B2 0 vs).cell? ⟨B1,0,none⟩=some x/\(w.setCells B2 0 vs).there B2 0 12:=
 ⟨by rw[World.cell?_setCells_out B2 vs 0 w _ λe=>absurd e hne];exact h.1,World.there_setCells h.2 B2 0 vs⟩
theorem E3 {B:Nat} {w0:World} {g:Nat} (hg:B<=g):∀(vs:List Value) (o:Nat) {w:World},Below B w0 w->Below B w0 (w.setCells g o vs)
 | [],_,_,h=>h
 | v::r,o,w,h=>E3 hg r (o+1) (h.setCell (p:=⟨g,o,none⟩) hg v)
theorem qe.store {B B2:Nat} {x:Value} {k:Int} {w:World} {b1 b2:Nat} (h:qe B x k w b1 b2) (h2:B2<B) (vs:List Value):qe B x k (w.setCells B2 0 vs) b1 b2:=by
 obtain⟨h3,h4,h5,h6⟩:=h
 exact⟨h3,h4,by rw[World.cell?_setCells_out B2 vs 0 w _ λe=>absurd e (show b1 ≠ B2 by omega)];exact h5,by rw[World.cell?_setCells_out B2 vs 0 w _ λe=>absurd e (show b2 ≠ B2 by omega)];exact h6⟩
theorem Me {P:Program} {ty:TypeId} {x:Addr} {w:World} {r:Result Value} (h:Sem.run P (loadVar ty x) w=r):((Sem.run P (asAddr (Value.pointer (some x))) w).andThen λa w'=>Sem.run P (loadVar ty a) w')=r:=h
theorem a0d (a:Option Addr) (w:World):Calls Tryz.prog 112 #[.pointer a] w λe w'=>∃p2 q2 p6 q6 p8 q8 p9 q9 p10 q10 p11 q11,e = .returned (.agg #[.func (.func 145) #[] #[.pointer (some ⟨w.heap.size,0,none⟩)],.func (.func 146) #[] #[.pointer (some ⟨w.heap.size,0,none⟩)],afV p2 q2,.func (.func 148) #[.pointer a] #[],.func (.func 149) #[.pointer a] #[],.func (.func 150) #[.pointer a] #[],afV p6 q6,.func (.func 151) #[.pointer a] #[],afV p8 q8,afV p9 q9,afV p10 q10,afV p11 q11]) /\
  w'.cell? ⟨w.heap.size,0,none⟩=some (.pointer a)/\qe (w.heap.size+2) (.pointer a) 2 w' p2 q2/\qe (w.heap.size+2) (.pointer a) 8 w' p6 q6/\qe (w.heap.size+2) (.pointer a) 11 w' p8 q8/\qe (w.heap.size+2) (.pointer a) 12 w' p9 q9/\qe (w.heap.size+2) (.pointer a) 13 w' p10 q10/\qe (w.heap.size+2) (.pointer a) 14 w' p11 q11/\Below w.heap.size w w':=by
 have hbd:∀(x0 x1:Nat) (p2 q2 p6 q6 p8 q8 p9 q9 p10 q10 p11 q11:Nat) (W:World),(Instr.build 170 #[(0,.func (.func 145) #[] #[.pointer (some ⟨x0,0,none⟩)]),(1,.func (.func 146) #[] #[.pointer (some ⟨x1,0,none⟩)]),(2,afV p2 q2),(3,.func (.func 148) #[.pointer a] #[]),(4,.func (.func 149) #[.pointer a] #[]),(5,.func (.func 150) #[.pointer a] #[]),(6,afV p6 q6),(7,.func (.func 151) #[.pointer a] #[]),(8,afV p8 q8),(9,afV p9 q9),(10,afV p10 q10),(11,afV p11 q11)]).run Tryz.prog W =
   .ok (.agg #[.func (.func 145) #[] #[.pointer (some ⟨x0,0,none⟩)],.func (.func 146) #[] #[.pointer (some ⟨x1,0,none⟩)],afV p2 q2,.func (.func 148) #[.pointer a] #[],.func (.func 149) #[.pointer a] #[],.func (.func 150) #[.pointer a] #[],afV p6 q6,.func (.func 151) #[.pointer a] #[],afV p8 q8,afV p9 q9,afV p10 q10,afV p11 q11]) W:=by
  intros
  exact run_build _ _ _ _ (by kernel_rfl)
 go_enter Tryz.func112,Tryz.ntmps112
 go_wp2
 have hb1:Below w.heap.size w (w.alloc (Obj.cells #[Value.pointer a] 115)):=(Below.refl _ w).alloc (di _) _
 have hb2:=hb1.alloc (by simp) (Obj.cells #[Value.nilFunc,Value.nilFunc,Value.nilFunc,Value.nilFunc,Value.nilFunc,Value.nilFunc,Value.nilFunc,Value.nilFunc,Value.nilFunc,Value.nilFunc,Value.nilFunc,Value.nilFunc] 170)
 have hS:((w.alloc (Obj.cells #[Value.pointer a] 115)).alloc (Obj.cells #[Value.nilFunc,Value.nilFunc,Value.nilFunc,Value.nilFunc,Value.nilFunc,Value.nilFunc,Value.nilFunc,Value.nilFunc,Value.nilFunc,Value.nilFunc,Value.nilFunc,Value.nilFunc] 170)).cell? ⟨w.heap.size,0,none⟩=some (.pointer a)/\((w.alloc (Obj.cells #[Value.pointer a] 115)).alloc (Obj.cells #[Value.nilFunc,Value.nilFunc,Value.nilFunc,Value.nilFunc,Value.nilFunc,Value.nilFunc,Value.nilFunc,Value.nilFunc,Value.nilFunc,Value.nilFunc,Value.nilFunc,Value.nilFunc] 170)).there (w.heap.size+1) 0 12:=by
  have hz:(w.alloc (Obj.cells #[Value.pointer a] 115)).heap.size=w.heap.size+1:=by simp
  refine⟨?_,λj hj => ?_⟩
  ·rw[World.cell?_alloc_lt _ _ _ (by simp)]
   simp only[World.cell?,je]
   rfl
  ·rw[<- hz]
   simp only[World.cell?,World.frozen?,je]
   refine⟨?_,by simp⟩
   match j,hj with
   | 0,_|1,_|2,_|3,_|4,_|5,_|6,_|7,_|8,_|9,_|10,_|11,_=>rfl
 have hsz:w.heap.size+2<=((w.alloc (Obj.cells #[Value.pointer a] 115)).alloc (Obj.cells #[Value.nilFunc,Value.nilFunc,Value.nilFunc,Value.nilFunc,Value.nilFunc,Value.nilFunc,Value.nilFunc,Value.nilFunc,Value.nilFunc,Value.nilFunc,Value.nilFunc,Value.nilFunc] 170)).heap.size:=by simp
 generalize hW:(w.alloc (Obj.cells #[Value.pointer a] 115)).alloc (Obj.cells #[Value.nilFunc,Value.nilFunc,Value.nilFunc,Value.nilFunc,Value.nilFunc,Value.nilFunc,Value.nilFunc,Value.nilFunc,Value.nilFunc,Value.nilFunc,Value.nilFunc,Value.nilFunc] 170)=W at *
 have hs2:w.heap.size+2<=W.drew.heap.size:=hsz
 clear hW hb1
 refine wp_region_held_drew (S:=λw'=>w'.cell? ⟨w.heap.size,0,none⟩=some (.pointer a)/\w'.there (w.heap.size+1) 0 12) (by kernel_rfl) (Yq hS) (λhHeld => ?_)
 refine wpAnyH_take (i:=0) (v := ?_) rfl (by kernel_rfl) (by kernel_rfl) (by kernel_rfl) (λ_ _ _ h=>h) (Or.inl ⟨by rfl, ?_⟩) hHeld ?_
 rotate_left
 ·intro w hSw
  have hSw1:=hSw.1
  go_simp
  try with_reducible rfl
 simp only[Act.put,List.setIfInBounds_toArray,c6,c7]
 refine wpAnyH_take (i:=1) (v := ?_) rfl (by kernel_rfl) (by kernel_rfl) (by kernel_rfl) (λ_ _ _ h=>h) (Or.inl ⟨by rfl, ?_⟩) hHeld ?_
 rotate_left
 ·intro w hSw
  have hSw1:=hSw.1
  go_simp
  try with_reducible rfl
 simp only[Act.put,List.setIfInBounds_toArray,c6,c7]
 refine wpAnyH_take (i:=2) (v := ?_) rfl (by kernel_rfl) (by kernel_rfl) (by kernel_rfl) (λ_ _ _ h=>h) (Or.inl ⟨by rfl, ?_⟩) hHeld ?_
 rotate_left
 ·intro w hSw
  have hSw1:=hSw.1
  go_simp
  try with_reducible rfl
 simp only[Act.put,List.setIfInBounds_toArray,c6,c7]
 refine wpAnyH_take (i:=4) (v := ?_) rfl (by kernel_rfl) (by kernel_rfl) (by kernel_rfl) (λ_ _ _ h=>h) (Or.inl ⟨by rfl, ?_⟩) hHeld ?_
 rotate_left
 ·intro w hSw
  have hSw1:=hSw.1
  go_simp
  try with_reducible rfl
 simp only[Act.put,List.setIfInBounds_toArray,c6,c7]
 refine wpAnyH_take (i:=6) (v := ?_) rfl (by kernel_rfl) (by kernel_rfl) (by kernel_rfl) (λ_ _ _ h=>h) (Or.inl ⟨by rfl, ?_⟩) hHeld ?_
 rotate_left
 ·intro w hSw
  have hSw1:=hSw.1
  go_simp
  try with_reducible rfl
 simp only[Act.put,List.setIfInBounds_toArray,c6,c7]
 refine wpAnyH_take (i:=8) (v := ?_) rfl (by kernel_rfl) (by kernel_rfl) (by kernel_rfl) (λ_ _ _ h=>h) (Or.inl ⟨by rfl, ?_⟩) hHeld ?_
 rotate_left
 ·intro w hSw
  have hSw1:=hSw.1
  go_simp
  try with_reducible rfl
 simp only[Act.put,List.setIfInBounds_toArray,c6,c7]
 refine wpAnyH_take (i:=10) (v := ?_) rfl (by kernel_rfl) (by kernel_rfl) (by kernel_rfl) (λ_ _ _ h=>h) (Or.inl ⟨by rfl, ?_⟩) hHeld ?_
 rotate_left
 ·intro w hSw
  have hSw1:=hSw.1
  go_simp
  try with_reducible rfl
 simp only[Act.put,List.setIfInBounds_toArray,c6,c7]
 refine wpAnyH_take (i:=12) (v := ?_) rfl (by kernel_rfl) (by kernel_rfl) (by kernel_rfl) (λ_ _ _ h=>h) (Or.inl ⟨by rfl, ?_⟩) hHeld ?_
 rotate_left
 ·intro w hSw
  have hSw1:=hSw.1
  go_simp
  try with_reducible rfl
 simp only[Act.put,List.setIfInBounds_toArray,c6,c7]
 refine wpAnyH_take (i:=14) (v := ?_) rfl (by kernel_rfl) (by kernel_rfl) (by kernel_rfl) (λ_ _ _ h=>h) (Or.inl ⟨by rfl, ?_⟩) hHeld ?_
 rotate_left
 ·intro w hSw
  have hSw1:=hSw.1
  go_simp
  try with_reducible rfl
 simp only[Act.put,List.setIfInBounds_toArray,c6,c7]
 refine wpAnyH_take (i:=16) (v := ?_) rfl (by kernel_rfl) (by kernel_rfl) (by kernel_rfl) (λ_ _ _ h=>h) (Or.inl ⟨by rfl, ?_⟩) hHeld ?_
 rotate_left
 ·intro w hSw
  have hSw1:=hSw.1
  go_simp
  try with_reducible rfl
 simp only[Act.put,List.setIfInBounds_toArray,c6,c7]
 refine wpAnyH_take (i:=18) (v := ?_) rfl (by kernel_rfl) (by kernel_rfl) (by kernel_rfl) (λ_ _ _ h=>h) (Or.inl ⟨by rfl, ?_⟩) hHeld ?_
 rotate_left
 ·intro w hSw
  have hSw1:=hSw.1
  go_simp
  try with_reducible rfl
 simp only[Act.put,List.setIfInBounds_toArray,c6,c7]
 refine wpAnyH_take (i:=20) (v := ?_) rfl (by kernel_rfl) (by kernel_rfl) (by kernel_rfl) (λ_ _ _ h=>h) (Or.inl ⟨by rfl, ?_⟩) hHeld ?_
 rotate_left
 ·intro w hSw
  have hSw1:=hSw.1
  go_simp
  try with_reducible rfl
 simp only[Act.put,List.setIfInBounds_toArray,c6,c7]
 refine wpAnyH_take (i:=5) (v := ?_) rfl (by kernel_rfl) (by kernel_rfl) (by kernel_rfl) (λ_ _ _ h=>h) (Or.inl ⟨by rfl, ?_⟩) hHeld ?_
 rotate_left
 ·intro w hSw
  have hSw1:=hSw.1
  go_simp
  try with_reducible rfl
 simp only[Act.put,List.setIfInBounds_toArray,c6,c7]
 refine wpAnyH_take (i:=7) (v := ?_) rfl (by kernel_rfl) (by kernel_rfl) (by kernel_rfl) (λ_ _ _ h=>h) (Or.inl ⟨by rfl, ?_⟩) hHeld ?_
 rotate_left
 ·intro w hSw
  have hSw1:=hSw.1
  go_simp
  try with_reducible rfl
 simp only[Act.put,List.setIfInBounds_toArray,c6,c7]
 refine wpAnyH_take (i:=9) (v := ?_) rfl (by kernel_rfl) (by kernel_rfl) (by kernel_rfl) (λ_ _ _ h=>h) (Or.inl ⟨by rfl, ?_⟩) hHeld ?_
 rotate_left
 ·intro w hSw
  have hSw1:=hSw.1
  go_simp
  try with_reducible rfl
 simp only[Act.put,List.setIfInBounds_toArray,c6,c7]
 refine wpAnyH_take (i:=13) (v := ?_) rfl (by kernel_rfl) (by kernel_rfl) (by kernel_rfl) (λ_ _ _ h=>h) (Or.inl ⟨by rfl, ?_⟩) hHeld ?_
 rotate_left
 ·intro w hSw
  have hSw1:=hSw.1
  go_simp
  try with_reducible rfl
 simp only[Act.put,List.setIfInBounds_toArray,c6,c7]
 refine wpAnyH_ready (rs:=[3]) (by kernel_rfl) (by simp) ?_
 refine AllReadyH.cons rfl (λK hK => ?_) AllReadyH.nil
 go_simp
 refine Calls.mono (qx (w.heap.size+2) a 2 _ (by omega)) ?_
 rintro e w1 ⟨p2,q2,rfl,hA1,hB1⟩
 have hz1:=hB1.size
 refine hK.out _ _ (yc hB1 hHeld) (λhHeld => ?_)
 clear hK K
 try simp only[Act.put,List.setIfInBounds_toArray,c6,c7]
 refine wpAnyH_ready (rs:=[11]) (by kernel_rfl) (by simp) ?_
 refine AllReadyH.cons rfl (λK hK => ?_) AllReadyH.nil
 go_simp
 refine Calls.mono (qx (w.heap.size+2) a 8 _ (by omega)) ?_
 rintro e w2 ⟨p6,q6,rfl,hA2,hB2⟩
 have hz2:=hB2.size
 refine hK.out _ _ (yc hB2 hHeld) (λhHeld => ?_)
 clear hK K
 try simp only[Act.put,List.setIfInBounds_toArray,c6,c7]
 refine wpAnyH_ready (rs:=[15]) (by kernel_rfl) (by simp) ?_
 refine AllReadyH.cons rfl (λK hK => ?_) AllReadyH.nil
 go_simp
 refine Calls.mono (qx (w.heap.size+2) a 11 _ (by omega)) ?_
 rintro e w3 ⟨p8,q8,rfl,hA3,hB3⟩
 have hz3:=hB3.size
 refine hK.out _ _ (yc hB3 hHeld) (λhHeld => ?_)
 clear hK K
 try simp only[Act.put,List.setIfInBounds_toArray,c6,c7]
 refine wpAnyH_ready (rs:=[17]) (by kernel_rfl) (by simp) ?_
 refine AllReadyH.cons rfl (λK hK => ?_) AllReadyH.nil
 go_simp
 refine Calls.mono (qx (w.heap.size+2) a 12 _ (by omega)) ?_
 rintro e w4 ⟨p9,q9,rfl,hA4,hB4⟩
 have hz4:=hB4.size
 refine hK.out _ _ (yc hB4 hHeld) (λhHeld => ?_)
 clear hK K
 try simp only[Act.put,List.setIfInBounds_toArray,c6,c7]
 refine wpAnyH_ready (rs:=[19]) (by kernel_rfl) (by simp) ?_
 refine AllReadyH.cons rfl (λK hK => ?_) AllReadyH.nil
 go_simp
 refine Calls.mono (qx (w.heap.size+2) a 13 _ (by omega)) ?_
 rintro e w5 ⟨p10,q10,rfl,hA5,hB5⟩
 have hz5:=hB5.size
 refine hK.out _ _ (yc hB5 hHeld) (λhHeld => ?_)
 clear hK K
 try simp only[Act.put,List.setIfInBounds_toArray,c6,c7]
 refine wpAnyH_ready (rs:=[21]) (by kernel_rfl) (by simp) ?_
 refine AllReadyH.cons rfl (λK hK => ?_) AllReadyH.nil
 go_simp
 refine Calls.mono (qx (w.heap.size+2) a 14 _ (by omega)) ?_
 rintro e w6 ⟨p11,q11,rfl,hA6,hB6⟩
 have hz6:=hB6.size
 refine hK.out _ _ (yc hB6 hHeld) (λhHeld => ?_)
 clear hK K
 try simp only[Act.put,List.setIfInBounds_toArray,c6,c7]
 refine wpAnyH_take (i:=22) (v:=.agg #[.func (.func 145) #[] #[.pointer (some ⟨w.heap.size,0,none⟩)],.func (.func 146) #[] #[.pointer (some ⟨w.heap.size,0,none⟩)],afV p2 q2,.func (.func 148) #[.pointer a] #[],.func (.func 149) #[.pointer a] #[],.func (.func 150) #[.pointer a] #[],afV p6 q6,.func (.func 151) #[.pointer a] #[],afV p8 q8,afV p9 q9,afV p10 q10,afV p11 q11]) rfl (by kernel_rfl) (by kernel_rfl) (by kernel_rfl) (λ_ _ _ h=>h) (Or.inl ⟨by rfl, ?_⟩) hHeld ?_
 ·intro W' hSw
  simp[execOp,Act.eval,hbd]
 try simp only[Act.put,List.setIfInBounds_toArray,c6,c7]
 refine wpAnyH_ready (rs:=[23]) (by kernel_rfl) (by simp) ?_
 refine AllReadyH.cons rfl (λK hK => ?_) AllReadyH.nil
 rw[if_pos (by rfl)]
 refine wp_store_mid 170 (Operand.tmp 2) (Operand.tmp 25) rfl (w.heap.size+1) 0 #[.func (.func 145) #[] #[.pointer (some ⟨w.heap.size,0,none⟩)],.func (.func 146) #[] #[.pointer (some ⟨w.heap.size,0,none⟩)],afV p2 q2,.func (.func 148) #[.pointer a] #[],.func (.func 149) #[.pointer a] #[],.func (.func 150) #[.pointer a] #[],afV p6 q6,.func (.func 151) #[.pointer a] #[],afV p8 q8,afV p9 q9,afV p10 q10,afV p11 q11] rfl rfl hHeld.2 (by kernel_rfl) (by simp[Value.oneCell']) ?_
 refine hK.out _ _ (Tf (by omega) hHeld) (λhHeld2 => ?_)
 clear hK K
 refine wpAnyH_done (by kernel_rfl) ?_ _
 try simp only[Act.put,List.setIfInBounds_toArray,c6,c7]
 have hR:=World.rangeAt_setCells_same w6 (w.heap.size+1) 0 (Array.toList #[.func (.func 145) #[] #[.pointer (some ⟨w.heap.size,0,none⟩)],.func (.func 146) #[] #[.pointer (some ⟨w.heap.size,0,none⟩)],afV p2 q2,.func (.func 148) #[.pointer a] #[],.func (.func 149) #[.pointer a] #[],.func (.func 150) #[.pointer a] #[],afV p6 q6,.func (.func 151) #[.pointer a] #[],afV p8 q8,afV p9 q9,afV p10 q10,afV p11 q11]) hHeld.2
 have hl:=run_loadVar_mid (P:=Tryz.prog) _ _ _ 170 _ _ hR Tryz.underlying170 rfl (by kernel_rfl)
 have hbD:Below w.heap.size w W.drew:=hb2.drew
 have hbS:Below w.heap.size w w6:=((((((hbD.trans (hB1.mono (by omega))).trans (hB2.mono (by omega))).trans (hB3.mono (by omega))).trans (hB4.mono (by omega))).trans (hB5.mono (by omega))).trans (hB6.mono (by omega)))
 refine ‹∀(a:Act) (w:World),Code.wp _ Code.ret _ a w->_› _ _ ?_
 go_wp2
 have k1:=(((((hA1.jb hB2).jb hB3).jb hB4).jb hB5).jb hB6)
 have k2:=((((hA2.jb hB3).jb hB4).jb hB5).jb hB6)
 have k3:=(((hA3.jb hB4).jb hB5).jb hB6)
 have k4:=((hA4.jb hB5).jb hB6)
 have k5:=(hA5.jb hB6)
 refine bodyPost_ret (v:=.agg #[.func (.func 145) #[] #[.pointer (some ⟨w.heap.size,0,none⟩)],.func (.func 146) #[] #[.pointer (some ⟨w.heap.size,0,none⟩)],afV p2 q2,.func (.func 148) #[.pointer a] #[],.func (.func 149) #[.pointer a] #[],.func (.func 150) #[.pointer a] #[],afV p6 q6,.func (.func 151) #[.pointer a] #[],afV p8 q8,afV p9 q9,afV p10 q10,afV p11 q11]) (by simp[results,Tryz.results112];exact Me hl) rfl ⟨p2,q2,p6,q6,p8,q8,p9,q9,p10,q10,p11,q11,rfl,hHeld2.1,k1.store (by omega) _,k2.store (by omega) _,k3.store (by omega) _,k4.store (by omega) _,k5.store (by omega) _,hA6.store (by omega) _,E3 (by omega) _ _ hbS⟩
end Go.Proofs.Eng
namespace Go.Proofs.Eng
open Go Go.Proofs Go.Shelf Go.RowKit
def afA (x:AV) (k:Int):AV:=.fn 172 [.ip [x] 0,.ip [.int k] 0]
def emA (x:AV):AV:=.agg [.fn 145 [.ip [x] 0],.fn 146 [.ip [x] 0],afA x 2,.bm 148 [x],.bm 149 [x],.bm 150 [x],afA x 8,.bm 151 [x],afA x 11,afA x 12,afA x 13,afA x 14]
def Sb:List AV->ASt->Option (AV × ASt)
 | [.ptr ci off],s=>some (emA (.ptr ci off),s)
 | _,_=>none
theorem Gc {g:Gh} {s:ASt} {w:World} {l:List AV} {cs:List Value} (h:ga g s w l cs):Rep g s w (.agg l) (.agg cs.toArray):=.agg cs h.1 h.2
theorem Ib {g:Gh} {s:ASt} {w:World} {x:AV} {c:Value} {b:Nat} (h:Rep g s w x c) (hs:oi g s w b 0 c):Rep g s w (.ip [x] 0) (.pointer (some ⟨b,0,none⟩)):=
 .ip (o:=0) [c] rfl (λk a c' h1 h2=>by
  match k,h1,h2 with
  | 0,h1,h2=>simp at h1 h2;subst h1;subst h2;exact h
  | k+1,h1,h2=>simp at h1) λk c' h2=>by
  match k,h2 with
  | 0,h2=>simp at h2;subst h2;exact hs
  | k+1,h2=>simp at h2
theorem Lv {g:Gh} {s:ASt} {w:World} {f:FuncId} {l:List AV} {cs:List Value} (h:ga g s w l cs):Rep g s w (.fn f l) (.func (.func f) #[] cs.toArray):=.fn cs h.1 h.2
theorem a5g {g:Gh} {s:ASt} {w:World} {f:FuncId} {l:List AV} {cs:List Value} (h:ga g s w l cs):Rep g s w (.bm f l) (.func (.func f) cs.toArray #[]):=.bm cs h.1 h.2
set_option maxRecDepth 100000 in
theorem Yt:Kl Tryz.prog 112 Sb:=by
 intro args s v s' hv
 refine⟨⟨_,_,Tryz.func112,rfl,by kernel_rfl⟩,λg w vs hI hr => ?_⟩
 unfold Sb at hv
 split at hv
 ·rename_i ci off
  simp only[fe,ff]at hv
  obtain⟨rfl,rfl⟩:=hv
  obtain⟨u,us,rfl,hu,hnil⟩:=hr.cons_inv
  obtain rfl:us=[]:=List.length_eq_zero_iff.1 hnil.1.symm
  obtain⟨b,hb,rfl⟩:=hu.mj
  refine(a0d (some ⟨b,off,none⟩) w).mono λe w' ⟨p2,q2,p6,q6,p8,q8,p9,q9,p10,q10,p11,q11,he,h0,h2,h6,h8,h9,h10,h11,hbl⟩ => ?_
  subst he
  have hE:Ext g s w g s w':=Ext.same hbl.size hbl.block hbl.os hbl.tape ⟨hbl.output,λd=>d.elim⟩
  have hI':Inv g s w':=hI.jb hE λc hc=>hbl.block c (hI.yb hc)
  have hx:=hu.mono hE
  have hs:∀{b':Nat} {c:Value},w.heap.size<=b'->w'.cell? ⟨b',0,none⟩=some c->oi g s w' b' 0 c:=λhle hc=>⟨hc,λhw=>absurd (hI.Cf hw) (by omega)⟩
  have hbx:=Ib hx (hs (di _) h0)
  have ha:∀{k:Int} {b1 b2:Nat},qe (w.heap.size+2) (.pointer (some ⟨b,off,none⟩)) k w' b1 b2->Rep g s w' (afA (.ptr ci off) k) (afV b1 b2):=λ{k b1 b2} h=>
   Lv (.cons (Ib hx (hs (by have:=h.1;omega) h.2.2.1)) (.one (Ib (x:=.int k) (.v rfl) (hs (by have:=h.2.1;omega) h.2.2.2))))
  have hm:∀(f:FuncId),Rep g s w' (.bm f [.ptr ci off]) (.func (.func f) #[.pointer (some ⟨b,off,none⟩)] #[]):=λf=>a5g (.one hx)
  refine⟨g,hI',hE, ?_⟩
  exact Gc (.cons (Lv (.one hbx)) (.cons (Lv (.one hbx)) (.cons (ha h2) (.cons (hm 148) (.cons (hm 149) (.cons (hm 150) (.cons (ha h6) (.cons (hm 151) (.cons (ha h8) (.cons (ha h9) (.cons (ha h10) (.one (ha h11)))))))))))))
 ·simp at hv
end Go.Proofs.Eng
namespace Go.Proofs.Eng
open Go Go.Proofs Go.RowKit Go.Shelf
attribute [local go_sem] Oper.semAt_some
def itF (g:FuncId) (caps:List AV) (s:ASt) (i:Nat):Option (Option (List AV)):=
 if g=111 then
  match caps with
  | [.ptr k 0]=>match s.H[k]? with
   | some (.cells _ [.ptr j 0])=>match s.H[j]? with
    | some (.cells _ [_,.sl l _,_])=>if (l.all λx=>x.cells.length==5)=true/\l.length<=4000000000000000000 then(match l[i]? with|some (.agg c)=>some (some [.agg c])|some _=>none|none=>if i=l.length then some none else none)else none
    | _=>none
   | _=>none
  | _=>none
 else none
theorem cell_of {g:Gh} {s:ASt} {w:World} (hI:Inv g s w) {i b:Nat} (hb:g.mu i=some b) {fz:Bool} {l:List AV} (hl:s.H[i]? = some (.cells fz l)) {k:Nat} {a:AV} (ha:l[k]? = some a):∃c,w.cell? ⟨b,k,none⟩=some c/\Rep g s w a c:=by
 obtain⟨cs,el,⟨rest,hh⟩,hr⟩:=hI.obj i b _ hb hl
 have hk:k<cs.length:=by rw[<- hr.1];exact(List.getElem?_eq_some_iff.1 ha).1
 refine⟨cs[k], ?_,hr.2 k a _ ha (aa hk)⟩
 simp only[World.cell?,hh]
 simp[ae hk,hk]
theorem M5 {α:Type} {l:List α} {k:Nat} {a:α} (h:l[k]? = some a):l.drop k=a::l.drop (k+1):=by
 obtain⟨h1,rfl⟩:=List.getElem?_eq_some_iff.1 h
 exact bz h1
theorem a74 {c:List AV} (h:c.length=5):∃a0 a1 a2 a3 a4,c=[a0,a1,a2,a3,a4]:=by
 match c,h with
 | [a,b,d,e,f],_=>exact⟨a,b,d,e,f,rfl⟩
theorem O8 {caps:List AV} {cs:List Value} {s:ASt} {k:Nat} {g:Gh} {w:World} {r:Option (List AV)} (h:itF 111 caps s k=some r) (hI:Inv g s w) (hr:ga g s w caps cs) :
  ∃pb po pj x len cap,cs=[.pointer (some ⟨pb,po,none⟩)]/\w.cell? ⟨pb,po,none⟩=some (.pointer (some ⟨pj,0,none⟩))/\w.cell? ⟨pj,1,none⟩=some (.slice x len cap)/\len<=4000000000000000000 /\
   ((r=none/\len=k)\/(∃c v0 v1 v2 v3 v4 bb o,r=some [.agg c]/\k<len/\x=some ⟨bb,o,none⟩/\w.cell? ⟨bb,o+k*5,none⟩=some v0/\w.cell? ⟨bb,o+k*5+1,none⟩=some v1/\w.cell? ⟨bb,o+k*5+2,none⟩=some v2/\w.cell? ⟨bb,o+k*5+3,none⟩=some v3/\w.cell? ⟨bb,o+k*5+4,none⟩=some v4/\ga g s w [.agg c] [.agg #[v0,v1,v2,v3,v4]])):=by
 simp only[itF,if_true]at h
 split at h
 ·rename_i kk
  split at h
  ·rename_i fz0 j hH
   split at h
   ·rename_i m0 m1 l tl x2 hH2
    split at h
    ·rename_i hc
     obtain⟨hall,hlen⟩:=hc
     obtain⟨u,us,rfl,hu,hnil⟩:=hr.cons_inv
     obtain rfl:us=[]:=List.length_eq_zero_iff.1 hnil.1.symm
     obtain⟨pb,hpb,rfl⟩:=hu.mj
     obtain⟨c1,k1,r1⟩:=cell_of hI hpb hH (k:=0) rfl
     obtain⟨pj,hpj,rfl⟩:=r1.mj
     obtain⟨c2,k2,r2⟩:=cell_of hI hpj hH2 (k:=1) rfl
     obtain⟨x,cap,bb,o,cs,rfl,h1,h2,h3,h4,_⟩:=r2.n8
     refine⟨pb,0,pj,x,l.length,cap,rfl,k1,k2,hlen, ?_⟩
     split at h
     ·rename_i c hlk
      simp only[fe]at h;subst h
      have hkl:=(List.getElem?_eq_some_iff.1 hlk).1
      have hne:l ≠ []:=by intro e;rw[e]at hkl;simp at hkl
      have hc3:c.length=5:=by
       have:=aw.1 hall _ (aq hlk)
       simpa[AV.cells]using this
      have hfd:flat (l.drop k)=(flat l).drop (k*5):=C9 (λx hx=>by simpa using aw.1 hall x hx) k
      rw[M5 hlk,kp]at hfd
      obtain⟨a0,a1,a2,a3,a4,rfl⟩:=a74 hc3
      have hg:∀i a,([a0,a1,a2,a3,a4]:List AV)[i]? = some a->(flat l)[k*5+i]? = some a:=λi a hi=>by
       have:((flat l).drop (k*5))[i]? = some a:=by
        rw[<- hfd];exact(ae (List.getElem?_eq_some_iff.1 hi).1).trans hi
       rwa [ba]at this
      have hget:∀i a,([a0,a1,a2,a3,a4]:List AV)[i]? = some a -> ∃v,w.cell? ⟨bb,o+k*5+i,none⟩=some v/\Rep g s w a v:=λi a hi=>by
       have hf:=hg i a hi
       have hlt:k*5+i<cs.length:=by rw[<- h1.1];exact(List.getElem?_eq_some_iff.1 hf).1
       refine⟨cs[k*5+i], ?_,h1.2 _ a _ hf (aa hlt)⟩
       rw[dv]
       exact(h2 _ _ (aa hlt)).1
      obtain⟨v0,e0,f0⟩:=hget 0 a0 rfl
      obtain⟨v1,e1,f1⟩:=hget 1 a1 rfl
      obtain⟨v2,e2,f2⟩:=hget 2 a2 rfl
      obtain⟨v3,e3,f3⟩:=hget 3 a3 rfl
      obtain⟨v4,e4,f4⟩:=hget 4 a4 rfl
      exact .inr ⟨_,v0,v1,v2,v3,v4,bb,o,rfl,hkl,h3 hne,e0,e1,e2,e3,e4,.one (Gc (.cons f0 (.cons f1 (.cons f2 (.cons f3 (.one f4))))))⟩
     ·cases h
     ·split at h
      ·rename_i hkl
       simp only[fe]at h;subst h
       exact .inl ⟨rfl,hkl.symm⟩
      ·cases h
    ·cases h
   ·cases h
  ·cases h
 ·cases h
set_option maxRecDepth 100000 in
set_option maxHeartbeats 4000000 in
theorem a68:a5q Tryz.prog 111 (itF 111):=by
 intro caps s0 r0 hr0
 refine⟨⟨_,_,Tryz.func111,rfl,by kernel_rfl⟩, ?_⟩
 intro n l K cs S X J Jx hit hJ hend hY g W hJ0
 have hph:∀k g W,J k g W -> ∃pb po pj x len cap,cs=[.pointer (some ⟨pb,po,none⟩)]/\W.cell? ⟨pb,po,none⟩=some (.pointer (some ⟨pj,0,none⟩))/\W.cell? ⟨pj,1,none⟩=some (.slice x len cap)/\len<=4000000000000000000 /\
   ((k=K/\len=k)\/(k<K /\ ∃v0 v1 v2 v3 v4 bb o,k<len/\x=some ⟨bb,o,none⟩/\W.cell? ⟨bb,o+k*5,none⟩=some v0/\W.cell? ⟨bb,o+k*5+1,none⟩=some v1/\W.cell? ⟨bb,o+k*5+2,none⟩=some v2/\W.cell? ⟨bb,o+k*5+3,none⟩=some v3/\W.cell? ⟨bb,o+k*5+4,none⟩=some v4/\ga g (S k) W (X k) [.agg #[v0,v1,v2,v3,v4]])):=by
  intro k g W hk
  obtain⟨h1,h2,h3⟩:=hJ k g W hk
  rcases dj k K with hlt|hge
  ·obtain⟨pb,po,pj,x,len,cap,a1,a2,a3,a4,⟨a5,_⟩|⟨c,v0,v1,v2,v3,v4,bb,o,a5,a6,a7,a8,a9,a10,a12,a13,a11⟩⟩:=O8 (hit k hlt) h2 h3
   ·cases a5
   ·simp only[fe]at a5
    exact⟨pb,po,pj,x,len,cap,a1,a2,a3,a4,.inr ⟨hlt,v0,v1,v2,v3,v4,bb,o,a6,a7,a8,a9,a10,a12,a13,by rw[a5];exact a11⟩⟩
  ·obtain rfl:k=K:=by omega
   obtain⟨pb,po,pj,x,len,cap,a1,a2,a3,a4,⟨_,a5⟩|⟨c,v0,v1,v2,v3,v4,bb,o,a5,_⟩⟩:=O8 (hend g W hk) h2 h3
   ·exact⟨pb,po,pj,x,len,cap,a1,a2,a3,a4,.inl ⟨rfl,a5⟩⟩
   ·cases a5
 obtain⟨pb0,po0,_,_,_,_,hcs,_⟩:=hph 0 g W hJ0
 subst hcs
 refine callsIn_of_wp Tryz.func111 rfl trivial ?_ rfl
 simp only[Tryz.ntmps111,List.size_toArray,ak,ao,Nat.reduceAdd,Nat.reduceSub,Array.replicate_succ,Array.replicate_zero,List.push_toArray,List.append_toArray,bo,bn]
 gi_wp2
 gi_loopw [3] (λi wr=>∃k g,k<=K/\i = .int .i64 (k:Nat)/\J k g wr) (λi _=>K-(match i with | .int _ z=>z.toNat|_=>0))
 case atStart=>exact⟨0,g,dk _,rfl,hJ0⟩
 case round=>
  obtain⟨k,g1,hk,rfl,hJk⟩:=hrel
  obtain⟨pb,po,pj,x,len,cap,hpb,c1,c2,hlen,hcase⟩:=hph k g1 wr hJk
  simp only[List.cons.injEq,Value.pointer.injEq,fe,Addr.mk.injEq,and_true]at hpb
  obtain⟨rfl,rfl⟩:=hpb
  rcases hcase with⟨rfl,hlk⟩|⟨hkK,v0,v1,v2,v3,v4,bb,o,hlt,rfl,d0,d1,d2,d3,d4,hR⟩
  ·have hnl:¬((k:Int)<(len:Int)):=by omega
   gi_wp2
   go_end0
   exact⟨⟨_,rfl⟩,.inl ⟨_,hJk⟩⟩
  ·obtain⟨fn,tmps,assign,body,hy,hYR⟩:=hY k g1 wr _ hkK hJk hR
   have hlt':(k:Int)<(len:Int):=by omega
   gi_wp2
   refine⟨λh=>(by cases h), ?_⟩
   refine hYR.mono ?_
   rintro e W3 (⟨rfl,g3,hJ3⟩|⟨rfl,hJx3⟩)
   ·gi_wp2
    go_roundw
    case rel=>exact⟨k+1,g3,by omega,(by first|rfl|simp),hJ3⟩
    case measure=>simp;omega
   ·gi_wp2
    refine bodyPost_ret (results_none rfl _ _ _) rfl ?_
    exact⟨⟨_,rfl⟩,.inr hJx3⟩
theorem a54 {b1 b2}:Kt Tryz.prog ⟨b1,b2,itF⟩:=by
 intro gf
 by_cases h:gf=111
 ·subst h;exact a68
 ·intro caps s0 r0 h0
  simp[itF,h]at h0
end Go.Proofs.Eng
namespace Go.Proofs.Eng
open Go Go.Proofs Go.RowKit Go.Shelf
theorem mul_one (n:Nat) (hn:n<=1000000) (w:World):Calls Tryz.prog 138 #[.int .u64 1,.int .u64 n] w λe w'=>e = .returned (.tuple #[.int .u64 0,.int .u64 n])/\w'=w:=by
 refine(Tryz.bits_Mul 1 n (by omega) (by omega) w).mono ?_
 rintro e w' ⟨rfl,rfl⟩
 rw[show 1*n / 18446744073709551616=0 from by omega,show 1*n % 18446744073709551616=n from by omega]
 exact⟨rfl,rfl⟩
theorem Kh {w:World} {ad:Addr} {v:Value} {ob:Obj} (h:w.cell? ad=some v):(w.alloc ob).cell? ad=some v:=by
 have hlt:ad.block<w.heap.size:=by
  unfold World.cell? at h
  cases hb:w.heap[ad.block]? with
  | none=>rw[hb]at h;simp at h
  | some o=>exact(Array.getElem?_eq_some_iff.1 hb).1
 unfold World.cell? at h ⊢
 rw[Below.heap_alloc w ob _ hlt];exact h
set_option maxRecDepth 100000 in
set_option maxHeartbeats 4000000 in
theorem Uj (ad:Addr) (v:Value) (n cap:Nat) (w:World) (h1:1<=n) (hn:n<=1000000) (hc:w.cell? ad=some v) (hv:v.oneCell'=true) (kh:1<=cap) :
  Calls Tryz.prog 88 #[.slice (some ad) 1 cap,.int .i64 n] w λe w'=>e = .returned (.slice (some ⟨w.heap.size,0,none⟩) n n)/\(∃t,w'.heap[w.heap.size]? = some (.cells (List.replicate n v).toArray t (0,0)))/\Below w.heap.size w w'/\w.heap.size<w'.heap.size:=by
 have f0:¬((n:Int)<0):=by omega
 have f1:¬((9223372036854775807:Int)<n):=by omega
 go_enter Tryz.func88,Tryz.ntmps88
 go_wp2_with (go_at_call 138;refine(mul_one n hn _).mono ?_)
 have hi0:(Tryz.prog.info? 3).isSome=true:=by kernel_rfl
 obtain⟨i0,hi⟩:=Option.isSome_iff_exists.1 hi0
 have e1:(Tryz.prog.info? 3).map (λi=>(i.size,i.bytes))=some (1,8):=by kernel_rfl
 have e2:(Tryz.prog.info? 3).bind (λi=>i.zero)=some (.int .i64 0):=by kernel_rfl
 rw[hi]at e1 e2
 simp only[fh,fe,ff]at e1
 simp only[Option.bind_some]at e2
 have hrun:=run_make (P:=Tryz.prog) w 24 3 i0 (.int .i64 0) (by kernel_rfl) hi e2 .i64 .i64 n n (by omega) (Int.le_refl _) (by rw[e1.2];omega) (by omega)
 have hm0:madeCells (Value.int IntKind.i64 0).cells ((n:Int).toNat*i0.size)=(List.replicate n (Value.int .i64 0)).toArray:=by
  rw[e1.1]
  apply Array.ext
  ·simp[madeCells]
  ·intro k h1 h2
   simp only[madeCells,Value.cells,Array.getElem_map,List.getElem_toArray,List.getElem_replicate]
   simp[Nat.mod_one]
 rw[hrun,hm0,ew]
 obtain⟨w1,hw1⟩:∃w1,w1=w.alloc (.cells (List.replicate n (Value.int .i64 0)).toArray 3):=⟨_,rfl⟩
 rw[<- hw1]
 have hg1:w1.heap[w.heap.size]? = some (.cells (List.replicate n (Value.int .i64 0)).toArray 3 (0,0)):=by rw[hw1];exact je _ _
 have hb1:Below w.heap.size w w1:=by rw[hw1];exact(Below.refl _ w).alloc (di _) _
 have hc1:w1.cell? ad=some v:=by
  rw[hw1];exact Kh hc
 have hu3:Tryz.prog.underlying 24=some (.slice 3):=by kernel_rfl
 have hs3:(Tryz.prog.info? 3).map (·.size)=some 1:=by rw[hi];simp[e1.1]
 have HG1:Hid (w1.heap[w.heap.size]? = some (.cells (List.replicate n (Value.int .i64 0)).toArray 3 (0,0))):=hg1
 generalize hS:w.heap.size=S at *
 simp only[Result.andThen]
 rw[Oper.upon_value]
 have hr1:=run_copy_row (P:=Tryz.prog) w1 24 24 3 3 S 0 n n ad 1 cap (List.replicate n (Value.int .i64 0)).toArray 3 [v] hu3 hs3 hg1 (by rw[List.length_singleton];exact(Nat.min_eq_left h1).symm) (λj x hj=>by
  match j,hj with
  | 0,hj=>simp at hj;subst hj;simpa[Addr.add]using hc1
  | j+1,hj=>simp at hj) (by simp;omega) (by simpa using hv)
 obtain⟨w2,hw2⟩:∃w2,w2=w1.setRow S (([v]++List.replicate (n-1) (Value.int .i64 0))).toArray:=⟨_,rfl⟩
 have hr1':(Builtin.copy_ #[24,24] 3 #[.slice (some ⟨S,0,none⟩) n n,.slice (some ad) 1 cap]).run Tryz.prog w1 = .ok (goInt 1) w2:=by
  rw[hr1,hw2];simp
 have hg2:w2.heap[S]? = some (.cells ([v]++List.replicate (n-1) (Value.int .i64 0)).toArray 3 (0,0)):=by rw[hw2];exact setRow_heap _ _ _ _ _ _ hg1
 have hb2:Below S w w2:=by rw[hw2];exact below_setRow hb1 (di _) _
 clear hr1 hw2 hw1 hrun
 go_wp2
 go_loopw [8] (λi wr=>∃m:Nat,1<=m/\m<=n/\i = .int .i64 (m:Nat)/\wr.heap[S]? = some (.cells (List.replicate m v++List.replicate (n-m) (Value.int .i64 0)).toArray 3 (0,0))/\Below S w wr/\S<wr.heap.size) (λi _=>n-(match i with | .int _ z=>z.toNat|_=>0))
 case atStart=>exact⟨1,di _,h1,rfl,hg2,hb2,G4 hg2⟩
 case round=>
  obtain⟨m,hm1,hmn,rfl,hgm,hbm,hsz⟩:=hrel
  by_cases hlt:m<n
  ·have hz:(m:Int)<(n:Int):=by omega
   go_wp2
   obtain⟨k,hk⟩:∃k,k=Nat.min m (n-m):=⟨_,rfl⟩
   have hk1:k<=m/\k<=n-m/\1<=k:=by
    rw[hk];refine⟨Nat.min_le_left _ _,Nat.min_le_right _ _,Nat.le_min.2 ⟨hm1,by omega⟩⟩
   have hgd:wr.drew.heap[S]? = some (.cells (List.replicate m v++List.replicate (n-m) (Value.int .i64 0)).toArray 3 (0,0)):=hgm
   have hrc:=run_copy_row (P:=Tryz.prog) wr.drew 24 24 3 3 S m (n-m) (n-m) ⟨S,0,none⟩ m n (List.replicate m v++List.replicate (n-m) (Value.int .i64 0)).toArray 3 (List.replicate k v) hu3 hs3 hgd (by simp[hk]) (λj x hj=>by
    obtain⟨hj1,hj2⟩:=List.getElem?_eq_some_iff.1 hj
    simp only[List.length_replicate]at hj1
    simp only[List.getElem_replicate]at hj2
    subst hj2
    have:(List.replicate m v++List.replicate (n-m) (Value.int .i64 0))[j]? = some v:=by
     rw[ae (by simp;omega),List.getElem?_replicate,if_pos (by omega)]
    rw[show (⟨S,0,none⟩:Addr).add j=⟨S,j,none⟩from by unfold Addr.add;split<;>simp_all]
    simp only[World.cell?,hgd]
    simpa using this) (by simp;omega) (λx hx=>by rw[(List.mem_replicate.1 hx).2];exact hv)
   have hnew:((List.replicate m v++List.replicate (n-m) (Value.int IntKind.i64 0)).toArray.toList.take m++List.replicate k v++(List.replicate m v++List.replicate (n-m) (Value.int IntKind.i64 0)).toArray.toList.drop (m+(List.replicate k v).length)).toArray=(List.replicate (m+k) v++List.replicate (n-(m+k)) (Value.int IntKind.i64 0)).toArray:=by
    congr 1
    rw[List.take_left' (by simp),List.length_replicate,List.drop_append]
    simp only[List.length_replicate,List.drop_replicate]
    rw[show m-(m+k)=0 from by omega,show n-m-(m+k-m)=n-(m+k)from by omega,List.replicate_zero,bo,<- List.replicate_append_replicate]
   rw[hnew,List.length_replicate]at hrc
   have hg3:=setRow_heap _ S _ (List.replicate (m+k) v++List.replicate (n-(m+k)) (Value.int IntKind.i64 0)).toArray _ _ hgd
   have hb3:Below S w (wr.drew.setRow S (List.replicate (m+k) v++List.replicate (n-(m+k)) (Value.int IntKind.i64 0)).toArray):=below_setRow hbm.drew (di _) _
   generalize wr.drew.setRow S (List.replicate (m+k) v++List.replicate (n-(m+k)) (Value.int IntKind.i64 0)).toArray=w3 at hrc hg3 hb3
   clear hk
   have HWR:Hid (IntKind.i64.wrap ((m:Int)+(k:Int))=((m+k:Nat):Int)):=by
    show _=_
    rw[IntKind.wrap_i64];omega
   go_region_held3 (λw'=>True) (exact trivial) (fail)
   go_wp2
   go_roundw
   case rel=>exact⟨m+k,by omega,by omega,by rw[HWR.out],hg3,hb3,G4 hg3⟩
   case measure=>rw[HWR.out];simp only[ew];omega
  ·obtain rfl:m=n:=by omega
   have hz:¬((m:Int)<(m:Int)):=by omega
   go_wp2
   go_ret
   rw[Nat.sub_self,List.replicate_zero,List.append_nil]at hgm
   exact⟨rfl,⟨3,hgm⟩,hbm,hsz⟩
def R5:List AV->ASt->Option (AV × ASt)
 | [.sl [.v (.int .i64 z)] _,.v (.int .i64 n)],s=>if 1<=n/\n<=1000000 then some (.bs s.H.length 0 n.toNat 1 false,⟨s.H++[.cells false (List.replicate n.toNat (.v (.int .i64 z)))],s.T⟩)else none
 | _,_=>none
theorem a44:Kl Tryz.prog 88 R5:=by
 intro args s v s' hv
 refine⟨⟨_,_,Tryz.func88,rfl,by kernel_rfl⟩,λg w vs hI hr => ?_⟩
 unfold R5 at hv
 split at hv
 ·rename_i s0 z t n
  split at hv
  ·rename_i hn
   simp only[fe,ff]at hv
   obtain⟨rfl,rfl⟩:=hv
   obtain⟨m,rfl⟩:∃m:Nat,n=m:=⟨n.toNat,by omega⟩
   obtain⟨u,us,rfl,hu,hr1⟩:=hr.cons_inv
   obtain⟨u1,us,rfl,hu1,hnil⟩:=hr1.cons_inv
   obtain rfl:us=[]:=List.length_eq_zero_iff.1 hnil.1.symm
   obtain⟨a,cap,b,o,cs,rfl,h1,h2,h3,h4,h5⟩:=hu.n8
   rw[hu1.ke]
   obtain rfl:=h3 (by simp)
   have hfl:flat [AV.v (.int .i64 z)]=[.v (.int .i64 z)]:=rfl
   rw[hfl]at h1
   have hcl:0<cs.length:=by rw[<- h1.1];simp
   have hc0:cs[0]? = some cs[0]:=aa hcl
   have hz:cs[0] = .int .i64 z:=(h1.2 0 _ _ rfl hc0).ke
   have hcell:=(h2 0 _ hc0).1
   rw[hz,Nat.add_zero]at hcell
   refine(Uj ⟨b,o,none⟩ (.int .i64 z) m cap w (by omega) (by omega) hcell rfl (by simpa using h4)).mono ?_
   rintro e w' ⟨rfl,⟨ty,hb⟩,hbel,hlt⟩
   have hrl:ga g s w (List.replicate m (AV.v (.int .i64 z))) (List.replicate m (Value.int .i64 z)):=⟨by simp,λk a c ha hc=>by
    have e1:=List.mem_replicate.1 (aq ha)
    have e2:=List.mem_replicate.1 (aq hc)
    rw[e1.2,e2.2];exact .v rfl⟩
   obtain⟨j1,j2,j3⟩:=Gq hI hrl ty
   have hsz1:(w.alloc (.cells (List.replicate m (Value.int .i64 z)).toArray ty)).heap.size=w.heap.size+1:=by rw[ks]
   have hblk:∀b,b<(w.alloc (.cells (List.replicate m (Value.int .i64 z)).toArray ty)).heap.size->w'.heap[b]? = (w.alloc (.cells (List.replicate m (Value.int .i64 z)).toArray ty)).heap[b]? := λb hlt'=>by
    rw[hsz1]at hlt'
    rcases dj b w.heap.size with h|h
    ·rw[hbel.block b h,Below.heap_alloc w _ b h]
    ·obtain rfl:b=w.heap.size:=by omega
     rw[hb,je]
   have hE2:=Ext.same (g:=g.bind s.H.length w.heap.size) (s:={s with H:=s.H++[.cells false (List.replicate m (.v (.int .i64 z)))]}) (w:=w.alloc (.cells (List.replicate m (Value.int .i64 z)).toArray ty)) (w':=w') (by rw[hsz1];exact hlt) hblk hbel.os hbel.tape ⟨hbel.output,λd=>d.elim⟩
   rw[ew]
   exact⟨_,j1.jb hE2 λc hc=>hblk c (j1.yb hc),j2.trans hE2,.bs (by simp[Gh.bind]) (di _) ⟨_,ty,_,hb,by simp⟩⟩
  ·cases hv
 ·cases hv
end Go.Proofs.Eng
namespace Go.Proofs.Eng
open Go Go.Proofs Go.RowKit
set_option maxRecDepth 100000
def Lz (es:Nat):List AV->ASt->Option (AV × ASt)
 | [.sl [] t],s=>some (.sl [] (sj (.sl [] t)),s)
 | [.sl (x::l) t],s=>if (x::l).length<=1073741824/\((x::l).all λx=>x.cells.length==es&&x.cells.all ic)=true then some (.sl (x::l) (.tl s.T.length 0),{s with T:=s.T++[0]})else none
 | _,_=>none
theorem Kx {P:Program} {f:FuncId} {ag:Bool} {es:Nat} {t:TypeId} (hcl:sn P f=some (ag,es,t)):Kl P f (Lz es):=by
 intro args s v s' hv
 obtain⟨fn,e,z,q0,q1,q2,q3,id0,id1,id2,id3,h1,h2,_,_,_,_,_,h3,_⟩:=wx hcl
 refine⟨⟨fn,_,h1,h3,by simpa using h2⟩,λg w vs hI hr => ?_⟩
 have key:∀{av rv:AV} {l:List AV},args=[av]->ku s av=some l->((l=[]/\s'=s/\rv = .sl [] (sj av)) \/
   (l ≠ []/\(l.length<=1073741824/\(l.all λx=>x.cells.length==es&&x.cells.all ic)=true)/\((rv = .bs s.H.length 0 l.length es ag/\s' = {s with H:=s.H++[.cells false (flat l)]})\/(rv = .sl l (.tl s.T.length 0)/\s' = {s with T:=s.T++[0]}))))->v=rv ->
   Calls P f vs.toArray w λe w'=>∃g',Inv g' s' w'/\Ext g s w g' s' w'/\qk g' s' w' (.ret v) e:=by
  intro av rv l ha hl hx hvr
  subst ha hvr
  obtain⟨u,us,rfl,hu,hnil⟩:=hr.cons_inv
  obtain rfl:us=[]:=List.length_eq_zero_iff.1 hnil.1.symm
  refine(Cr hcl hl hu hI hx).mono ?_
  rintro e w' ⟨g',v',rfl,k1,k2,k3,_⟩
  exact⟨g',k1,k2,k3⟩
 unfold Lz at hv
 split at hv
 ·simp only[fe,ff]at hv
  obtain⟨rfl,rfl⟩:=hv
  exact key rfl rfl (.inl ⟨rfl,rfl,rfl⟩) rfl
 ·split at hv
  ·rename_i hc
   simp only[fe,ff]at hv
   obtain⟨rfl,rfl⟩:=hv
   exact key rfl rfl (.inr ⟨by simp,hc,.inr ⟨rfl,rfl⟩⟩) rfl
  ·cases hv
 ·cases hv
end Go.Proofs.Eng
