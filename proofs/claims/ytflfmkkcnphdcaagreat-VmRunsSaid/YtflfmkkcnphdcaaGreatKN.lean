/- Nothing is known of memory ahead. No conditions beyond those in the theorems. -/
import Derived.Test.YtflfmkkcnphdcaaGreatT4
import Derived.Laws.CopyOwn
import Derived.StillTailTactics
import Derived.Test.YtflfmkkcnphdcaaGreatV2
import Derived.Test.YtflfmkkcnphdcaaGreatPf57
import Derived.Test.YtflfmkkcnphdcaaGreatRows
set_option linter.all false
set_option linter.deprecated false
set_option linter.unnecessarySimpa false
set_option linter.unusedVariables false
set_option linter.unusedSimpArgs false
set_option linter.defProp false
namespace Go.Proofs.Eng
open Go Go.Proofs Go.RowKit
set_option maxRecDepth 100000
def Oe:AV->Option Ins
 | .agg [.v (.int .i64 op),.v (.int .i64 a),.v (.int .i64 b),.v (.string n)]=>some ⟨op,a,b,n⟩
 | _=>none
def a0g:AV->Option (List Ins)
 | .sl l t=>if t.pure=true then il Oe l else none
 | _=>none
def strOf:AV->Option ByteArray
 | .v (.string n)=>some n
 | _=>none
def intOf:AV->Option Int
 | .v (.int .i64 n)=>some n
 | _=>none
def Qv:AV->Option Cd
 | .agg [.sl Bs t1,.sl gs t2,.sl ss t3]=>if t1.pure=true/\t2.pure=true/\t3.pure=true then(match il a0g Bs,il strOf gs,il intOf ss with
  | some b,some g,some s=>some ⟨b,g,s⟩
  | _,_,_=>none)else none
 | _=>none
theorem Li {a:AV} {x:Ins} (h:Oe a=some x):a=x.av:=by
 unfold Oe at h
 split at h
 ·simp only[fe]at h;subst h;rfl
 ·cases h
theorem xm {α:Type} {f:AV->Option α} {R:α->AV->Prop} (hf:∀a x,f a=some x->R x a):∀{al:List AV} {l:List α},il f al=some l->LIs R l al
 | [],l,h=>by simp only[il,fe]at h;subst h;trivial
 | a::al,l,h=>by
  simp only[il]at h
  split at h
  ·rename_i x hx
   split at h
   ·rename_i l' hl'
    simp only[fe]at h;subst h
    exact⟨hf a x hx,xm hf hl'⟩
   ·cases h
  ·cases h
theorem Ic:∀{l:List Ins} {al:List AV},LIs (λx a=>a=x.av) l al->al=jf l
 | [],[],_=>rfl
 | [],_::_,h=>h.elim
 | _::_,[],h=>h.elim
 | x::l,a::al,⟨h1,h2⟩=>by rw[h1,Ic h2];rfl
theorem Mh:∀{l:List ByteArray} {al:List AV},LIs (λx a=>a = .str x) l al->al=nmA l
 | [],[],_=>rfl
 | [],_::_,h=>h.elim
 | _::_,[],h=>h.elim
 | x::l,a::al,⟨h1,h2⟩=>by rw[h1,Mh h2];rfl
theorem N1:∀{l:List Int} {al:List AV},LIs (λx a=>a = .int x) l al->al=ints l
 | [],[],_=>rfl
 | [],_::_,h=>h.elim
 | _::_,[],h=>h.elim
 | x::l,a::al,⟨h1,h2⟩=>by rw[h1,N1 h2];rfl
theorem Pq {a:AV} {c:Cd} (h:Qv a=some c):∃Bs t1 t2 t3,a = .agg [.sl Bs t1,.sl (nmA c.gl) t2,.sl (ints c.st) t3]/\LIs (λb x=>∃t,x = .sl (jf b) t/\t.pure=true) c.bl Bs/\t1.pure=true/\t2.pure=true/\t3.pure=true:=by
 unfold Qv at h
 split at h
 ·rename_i Bs t1 gs t2 ss t3
  split at h
  ·rename_i hp
   split at h
   ·rename_i b g s e1 e2 e3
    simp only[fe]at h;subst h
    have h1:LIs (λb x=>∃t,x = .sl (jf b) t/\t.pure=true) b Bs:=xm (λa x hx=>by
     unfold a0g at hx
     split at hx
     ·rename_i l t
      split at hx
      ·rename_i ht
       exact⟨t,by rw[show l=jf x from Ic (xm (R:=λx a=>a=x.av) (λa x h=>Li h) hx)],ht⟩
      ·cases hx
     ·cases hx) e1
    have h2:=Mh (xm (R:=λx a=>a = .str x) (λa x hx=>by
     unfold strOf at hx
     split at hx
     ·simp only[fe]at hx;subst hx;rfl
     ·cases hx) e2)
    have h3:=N1 (xm (R:=λx a=>a = .int x) (λa x hx=>by
     unfold intOf at hx
     split at hx
     ·simp only[fe]at hx;subst hx;rfl
     ·cases hx) e3)
    exact⟨Bs,t1,t2,t3,by rw[h2,h3],h1,hp.1,hp.2.1,hp.2.2⟩
   ·cases h
  ·cases h
 ·cases h
theorem Jy:∀{l:List AV},(∀x ∈ l,x.cells=[x])->flat l=l
 | [],_=>rfl
 | x::l,h=>by
  rw[kp,h x (by simp),Jy λy hy=>h y (by simp[hy])];rfl
theorem Qo {g:Gh} {s:ASt} {w w1:World} {l:List AV} {vs:List Value} (hI:Inv g s w) (hr:ga g s w l vs) (hb:Below w.heap.size w w1):Inv g s w1/\ga g s w1 l vs:=by
 have hE:Ext g s w g s w1:=Ext.same hb.size hb.block hb.os hb.tape ⟨hb.output,λd=>d.elim⟩
 exact⟨hI.jb hE λb h=>hb.block b (hI.yb h),hr.mono hE⟩
theorem a4o {l:List (List Ins)} {Bs:List AV} (h:LIs (λb x=>∃t,x = .sl (jf b) t/\t.pure=true) l Bs) (hl:∀b ∈ l,b.length<=jj):LIs Em l Bs:=
 (h.mono (R':=Em) λb hb a ⟨t,e,ht⟩=>⟨t,e,ht,hl b hb⟩)
theorem Oj {α:Type} {f:AV->Option α} {R:α->AV->Prop} (hf:∀x a,R x a->f a=some x):∀{l:List α} {al:List AV},LIs R l al->il f al=some l
 | [],[],_=>rfl
 | [],_::_,h=>h.elim
 | _::_,[],h=>h.elim
 | x::l,a::al,⟨h1,h2⟩=>by rw[il,hf x a h1,Oj hf h2]
theorem V9:∀(l:List Ins),il Oe (jf l)=some l
 | []=>rfl
 | x::l=>by
  have:=V9 l
  rw[jf]at this ⊢
  rw[bq,il,this];rfl
theorem a1d:∀(l:List ByteArray),il strOf (nmA l)=some l
 | []=>rfl
 | x::l=>by
  have:=a1d l
  rw[nmA]at this ⊢
  rw[bq,il,this];rfl
theorem W6:∀(l:List Int),il intOf (ints l)=some l
 | []=>rfl
 | x::l=>by
  have:=W6 l
  rw[ints]at this ⊢
  rw[bq,il,this];rfl
theorem Yy {c:Cd} {a:AV} (h:c.Is a):Qv a=some c:=by
 obtain⟨Bs,t1,t2,t3,rfl,g1,g2,g3,g4,_⟩:=h
 have h1:il a0g Bs=some c.bl:=Oj (R:=Em) (λl a ⟨t,e,ht,_⟩=>by rw[e,a0g,if_pos ht,V9]) g1
 rw[Qv,if_pos ⟨g2,g3,g4⟩,h1,a1d,W6]
end Go.Proofs.Eng
namespace Go.Proofs.Eng
open Go Go.Proofs Go.Shelf Go.RowKit
set_option maxHeartbeats 1000000 in
set_option maxRecDepth 1000000 in
theorem Sf {c:Cd} {w:World} {v1 v2 v3:Value} (hone:v1.oneCell'=true/\v2.oneCell'=true/\v3.oneCell'=true)
  (h20:∀w1,Below w.heap.size w w1->Calls Tryz.prog 73 #[.agg #[v1,v2,v3]] w1 λe w2=>e = .returned (.int .i64 0)/\Below w1.heap.size w1 w2)
  (hs1:∃a cap,v1 = .slice a c.bl.length cap/\c.bl.length<=cap) (hnb:1<=c.bl.length/\c.bl.length<=1000000)
  (hs3:∃a cap,v3 = .slice a c.st.length cap/\c.st.length<=cap /\ ∀n x,c.st[n]? = some x -> ∃b o,a=some ⟨b,o,none⟩/\w.cell? ⟨b,o+n,none⟩=some (.int .i64 x)) (hst:∀x ∈ c.st,1<=x/\x<c.bl.length) (hns:c.st.length<=1000000) (X:World->Nat->List Int->World->Prop)
  (hX:∀w1 g cap wr,Below w.heap.size w w1->w.heap.size+1<=w1.heap.size->w1.heap.size+1<=g->Below w1.heap.size w1 wr->wr.heap[w1.heap.size]? = some (.cells #[v1,v2,v3,.slice (some ⟨g,0,none⟩) c.bl.length cap] 129 (0,0))->wr.ownsRow (w1.heap.size+1) 3 1 (.slice (some ⟨g,0,none⟩) c.bl.length cap) c.bl.length (c.S0.map λz=>.int .i64 z)->SB 0 c.S0->X w1 0 c.S0 wr)
  (h21:∀w1 n l S wr,X w1 n S wr->c.bl[n]? = some l->Calls Tryz.prog 74 #[.pointer (some ⟨w1.heap.size,0,none⟩),.int .i64 n] wr λe w2=>match zn c.bl.length c.gl.length n l S with | .error z=>e = .returned (.int .i64 z)/\Below w1.heap.size wr w2 | .ok S'=>e = .returned (.int .i64 0)/\Below w1.heap.size wr w2/\X w1 (n+1) S' w2) (ho:c.ua=0) :
  Calls Tryz.prog 29 #[.agg #[v1,v2,v3]] w λe w'=>e = .returned (.int .i64 c.check)/\Below w.heap.size w w':=by
 obtain⟨q1,q2,q3⟩:=hone
 obtain⟨a1,cap1,rfl,hcap1⟩:=hs1
 obtain⟨a3,cap3,rfl,hcap3,hc3⟩:=hs3
 have hz:((0:Int) != 0)=false:=rfl
 go_enter Tryz.func29,Tryz.ntmps29
 go_wp2_with (go_at_call 73;refine(h20 _ ((Below.refl _ w).alloc (di _) _)).mono ?_)
 rintro e w1 ⟨rfl,hb1⟩
 have hsz0:(w.alloc (.cells #[.slice a1 c.bl.length cap1,v2,.slice a3 c.st.length cap3] 26)).heap.size=w.heap.size+1:=by rw[ks]
 have hbk0:w1.heap[w.heap.size]? = some (.cells #[.slice a1 c.bl.length cap1,v2,.slice a3 c.st.length cap3] 26):=(hb1.block _ (by rw[hsz0];omega)).trans (je _ _)
 have hB1:Below w.heap.size w w1:=((Below.refl _ w).alloc (di _) _).trans (hb1.mono (by rw[hsz0];omega))
 have hsz1:=hb1.size
 rw[hsz0]at hsz1
 have k1:w1.cell? ⟨w.heap.size,0,none⟩=some (.slice a1 c.bl.length cap1):=by simp[World.cell?,hbk0]
 have k2:w1.cell? ⟨w.heap.size,1,none⟩=some v2:=by simp[World.cell?,hbk0]
 have k3:w1.cell? ⟨w.heap.size,2,none⟩=some (.slice a3 c.st.length cap3):=by simp[World.cell?,hbk0]
 clear hb1 hsz0 hbk0
 go_wp2
 have hi0:(Tryz.prog.info? 3).isSome=true:=by kernel_rfl
 obtain⟨i0,hi⟩:=Option.isSome_iff_exists.1 hi0
 have z1:(Tryz.prog.info? 3).map (λi=>(i.size,i.bytes))=some (1,8):=by kernel_rfl
 have z2:(Tryz.prog.info? 3).bind (λi=>i.zero)=some (.int .i64 0):=by kernel_rfl
 rw[hi]at z1 z2
 simp only[fh,fe,ff]at z1
 simp only[Option.bind_some]at z2
 have hu3:Tryz.prog.underlying 24=some (.slice 3):=by kernel_rfl
 have hKn:(w1.alloc (.cells #[.slice a1 c.bl.length cap1,v2,.slice a3 c.st.length cap3,.slice none 0 0] 129)).heap[w1.heap.size]? = some (.cells #[.slice a1 c.bl.length cap1,v2,.slice a3 c.st.length cap3,.slice none 0 0] 129 (0,0)):=je _ _
 have hBA:Below w1.heap.size w1 (w1.alloc (.cells #[.slice a1 c.bl.length cap1,v2,.slice a3 c.st.length cap3,.slice none 0 0] 129)):=(Below.refl _ w1).alloc (di _) _
 have hszA:(w1.alloc (.cells #[.slice a1 c.bl.length cap1,v2,.slice a3 c.st.length cap3,.slice none 0 0] 129)).heap.size=w1.heap.size+1:=by rw[ks]
 go_loopw [5] (λi wr=>∃(n:Nat) (sv:Value),n<=c.bl.length/\i = .int .i64 (n:Nat)/\Below w1.heap.size w1 wr/\wr.heap[w1.heap.size]? = some (.cells #[.slice a1 c.bl.length cap1,v2,.slice a3 c.st.length cap3,sv] 129 (0,0))/\wr.ownsRow (w1.heap.size+1) 3 1 sv n (List.replicate n (Value.int .i64 (-1)))) (λi _=>c.bl.length-(match i with | .int _ z=>z.toNat|_=>0))
 case atStart=>exact⟨0,_,dk _,rfl,hBA,hKn,World.ownsRow_nil _ _ _ _⟩
 case round=>
  obtain⟨n,sv,hn,rfl,hB,hK,hI⟩:=hrel
  have hsz:=hB.size
  have hKl:=G4 hK
  have kc:wr.cell? ⟨w1.heap.size,3,none⟩=some sv:=by simp[World.cell?,hK]
  have kb:=tf hB k1 (by omega)
  have hfz:wr.frozen? ⟨w1.heap.size,3,none⟩=false:=by simp[World.frozen?,hK]
  by_cases hlt:n<c.bl.length
  ·have hzl:(n:Int)<(c.bl.length:Int):=by omega
   go_wp2_with (at_builtin;refine wpList_append_own _ rfl _ _ 24 rfl (w1.heap.size+1) 3 i0 (.int .i64 0) 1 8 hu3 hi z2 z1.1 z1.2 rfl (by decide) _ _ _ rfl (hI.alloc _) ⟨wr.heap.size,0,none⟩ 1 1 [.int .i64 (-1)] rfl rfl ?c1 ?c2 ?c3 ?c4 ?c5 ?_)
   case c1=>
    intro j u hj
    match j,hj with
    | 0,hj=>simp at hj;subst hj;simp[Addr.add]
   case c2=>intro u hu;simp at hu;subst hu;rfl
   case c3=>unfold maxLen;omega
   case c4=>omega
   case c5=>simp;omega
   intro v4 w4 hI4 hgrow _
   have hno:sv.ownBlock ≠ some w1.heap.size:=by
    rcases hI.2 with⟨rfl,_⟩|⟨g,cap,cur,rfl,hg,_⟩
    ·simp[Value.ownBlock]
    ·simp[Value.ownBlock];omega
   have hgs:=hgrow.size
   have hK4:w4.heap[w1.heap.size]? = some (.cells #[.slice a1 c.bl.length cap1,v2,.slice a3 c.st.length cap3,sv] 129 (0,0)):=by
    rw[hgrow.block _ (by simp;omega) (λe=>hno e.symm),Below.heap_alloc _ _ _ hKl];exact hK
   have hB4:Below w1.heap.size w1 w4:=(hB.alloc (by omega) _).grown hgrow (by simp;omega) (λk hk=>by have:=(hI.lt k hk).1;omega)
   have hf4:w4.frozen? ⟨w1.heap.size,3,none⟩=false:=by simp[World.frozen?,hK4]
   have kc4:w4.cell? ⟨w1.heap.size,3,none⟩=some sv:=by simp[World.cell?,hK4]
   obtain⟨g4,cap4,rfl,hg4⟩:∃g cap,v4 = .slice (some ⟨g,0,none⟩) (n+1) cap/\w1.heap.size+1<=g:=by
    rcases hI4.2 with⟨_,h⟩|⟨g,cap,cur,rfl,hg,_⟩
    ·omega
    ·exact⟨g,cap,rfl,hg⟩
   have hI5:=ownsRow_setCell_below hI4 (a:=⟨w1.heap.size,3,none⟩) (by simp) (.slice (some ⟨g4,0,none⟩) (n+1) cap4)
   have hK5:(w4.setCell ⟨w1.heap.size,3,none⟩ (.slice (some ⟨g4,0,none⟩) (n+1) cap4)).heap[w1.heap.size]? = some (.cells #[.slice a1 c.bl.length cap1,v2,.slice a3 c.st.length cap3,.slice (some ⟨g4,0,none⟩) (n+1) cap4] 129 (0,0)):=by
    simp[World.setCell,Array.getElem?_modify,hK4]
   have hB5:=hB4.setCell (p:=⟨w1.heap.size,3,none⟩) (di _) (.slice (some ⟨g4,0,none⟩) (n+1) cap4)
   go_wp2
   go_roundw
   case rel=>
    refine⟨n+1,_,by omega,(by first|rfl|simp),hB5,hK5, ?_⟩
    rw[List.replicate_succ'];exact hI5
   case measure=>simp;omega
  ·obtain rfl:n=c.bl.length:=by omega
   obtain⟨g,cap,rfl,hg⟩:∃g cap,sv = .slice (some ⟨g,0,none⟩) c.bl.length cap/\w1.heap.size+1<=g:=by
    rcases hI.2 with⟨_,h⟩|⟨g,cap,cur,rfl,hg,_⟩
    ·omega
    ·exact⟨g,cap,rfl,hg⟩
   have hz0:(0:Int)<(c.bl.length:Int):=by omega
   have cg:=hI.cellAt 0 (by omega)
   rw[List.getElem?_replicate,if_pos (by omega)]at cg
   have fg:=hI.frozenAt 0
   obtain⟨hI6,sI⟩:=hI.stored 0 (.int .i64 0)
   go_wp2
   have hrow:(List.replicate c.bl.length (Value.int IntKind.i64 (-1))).set 0 (Value.int IntKind.i64 0)=((List.replicate c.bl.length (-1:Int)).set 0 0).map (λz=>Value.int .i64 z):=by
    rw[List.map_set,List.map_replicate]
   rw[hrow]at hI6
   have hgr:=sI.size
   have hB6:Below w1.heap.size w1 (wr.setCell ⟨g,0,none⟩ (.int .i64 0)):=hB.grown sI (by omega) (λk hk=>by cases hk;omega)
   have hK6:(wr.setCell ⟨g,0,none⟩ (.int .i64 0)).heap[w1.heap.size]? = some (.cells #[.slice a1 c.bl.length cap1,v2,.slice a3 c.st.length cap3,.slice (some ⟨g,0,none⟩) c.bl.length cap] 129 (0,0)):=by
    rw[Below.heap_setCell _ _ _ _ (by simp;omega)];exact hK
   clear hI hrow cg fg sI hgr hK kc hB hfz kb hsz hKl
   generalize wr.setCell ⟨g,0,none⟩ (.int .i64 0)=wq at *
   go_loopw [6] (λi wr=>∃(n:Nat) (S:List Int),n<=c.st.length/\i = .int .i64 (n:Nat)/\Below w1.heap.size w1 wr/\wr.heap[w1.heap.size]? = some (.cells #[.slice a1 c.bl.length cap1,v2,.slice a3 c.st.length cap3,.slice (some ⟨g,0,none⟩) c.bl.length cap] 129 (0,0))/\wr.ownsRow (w1.heap.size+1) 3 1 (.slice (some ⟨g,0,none⟩) c.bl.length cap) c.bl.length (S.map λz=>.int .i64 z)/\SB 0 S/\(c.st.drop n).foldl (λS s=>S.set s.toNat 0) S=c.S0) (λi _=>c.st.length-(match i with | .int _ z=>z.toNat|_=>0))
   case atStart => 
    exact⟨0,_,dk _,rfl,hB6,hK6,hI6,SB.set (λs hs=>by rw[(List.mem_replicate.1 hs).2];decide) (Int.le_refl _),rfl⟩
   case round=>
    obtain⟨n,S,hn,rfl,hB,hK,hI,hSB,hf⟩:=hrel
    have hsz:=hB.size
    have hKl:=G4 hK
    have hSl:S.length=c.bl.length:=by have:=hI.1;simpa using this
    have kc:wr.cell? ⟨w1.heap.size,3,none⟩=some (.slice (some ⟨g,0,none⟩) c.bl.length cap):=by simp[World.cell?,hK]
    have kb1:=tf hB k1 (by omega)
    have kb3:=tf hB k3 (by omega)
    by_cases hlt:n<c.st.length
    ·have hzl:(n:Int)<(c.st.length:Int):=by omega
     obtain⟨x,hx⟩:∃x,c.st[n]? = some x:=⟨_,aa hlt⟩
     obtain⟨b3,o3,rfl,kx⟩:=hc3 n x hx
     have kx1:=tf hB (tf hB1 kx (World.block_lt_of_cell? _ _ kx)) (by have:=World.block_lt_of_cell? _ _ kx;simp at this;omega)
     obtain⟨hx1,hx2⟩:=hst x (aq hx)
     obtain⟨m,rfl⟩:∃m:Nat,x=m:=⟨x.toNat,by omega⟩
     have hm:m<c.bl.length:=by omega
     have cg:=hI.cellAt m (by omega)
     rw[bh,aa (by omega),fh]at cg
     have fg:=hI.frozenAt m
     obtain⟨hI7,sI⟩:=hI.stored m (.int .i64 0)
     have hdr:c.st.drop n=(m:Int)::c.st.drop (n+1):=by
      obtain⟨h,e⟩:=List.getElem?_eq_some_iff.1 hx
      rw[<- e];exact bz h
     go_wp2
     go_still_tail 10,(by kernel_rfl)
     go_wp2
     go_roundw
     case rel=>
      refine⟨n+1,S.set m 0,by omega,(by first|rfl|simp),(hB.grown sI (by omega) (λk hk=>by cases hk;omega)).drew, ?_,by rw[List.map_set];exact hI7,hSB.set (Int.le_refl _), ?_⟩
      ·show (wr.setCell ⟨g,m,none⟩ (.int .i64 0)).heap[w1.heap.size]? = _
       rw[Below.heap_setCell _ _ _ _ (by simp;omega)];exact hK
      ·rw[hdr,dc,ew]at hf;exact hf
     case measure=>simp;omega
    ·obtain rfl:n=c.st.length:=by omega
     rw[bt (di _),List.foldl_nil]at hf
     subst hf
     have hX0:=hX w1 g cap wr hB1 hsz1 hg hB hK hI hSB
     clear hI hK kc
     go_wp2
     go_loopw [7] (λi wr=>∃(n:Nat) (S:List Int),n<=c.bl.length/\i = .int .i64 (n:Nat)/\Below w1.heap.size w1 wr/\X w1 n S wr/\goB c.bl.length c.gl.length n (c.bl.drop n) S=c.check) (λi _=>c.bl.length-(match i with | .int _ z=>z.toNat|_=>0))
     case atStart=>exact⟨0,_,dk _,rfl,hB,hX0,by rw[Cd.check,if_neg (by rw[ho];simp)];rfl⟩
     case round=>
      obtain⟨n,S,hn,rfl,hB,hX1,hf⟩:=hrel
      have kb1:=tf hB k1 (by omega)
      by_cases hlt:n<c.bl.length
      ·have hzl:(n:Int)<(c.bl.length:Int):=by omega
       obtain⟨l,hl⟩:∃l,c.bl[n]? = some l:=⟨_,aa hlt⟩
       have hc:=h21 w1 n l S _ hX1 hl
       have hdr:c.bl.drop n=l::c.bl.drop (n+1):=by
        obtain⟨h,e⟩:=List.getElem?_eq_some_iff.1 hl
        rw[<- e];exact bz h
       rw[hdr,Oi]at hf
       cases hbk:zn c.bl.length c.gl.length n l S with
       | error z=>
        rw[hbk]at hc hf
        have hz1:(z != 0)=true:=by simpa[bne]using Nu hbk
        simp only at hf hc
        go_wp2_with (go_at_call 74;refine hc.mono ?_)
        rintro e w2 ⟨rfl,hb2⟩
        go_wp2
        go_ret
        exact⟨rfl,hB1.trans ((hB.trans hb2).mono (by omega))⟩
       | ok S'=>
        rw[hbk]at hc hf
        simp only at hf hc
        go_wp2_with (go_at_call 74;refine hc.mono ?_)
        rintro e w2 ⟨rfl,hb2,hX2⟩
        go_wp2
        go_roundw
        case rel=>
         exact⟨n+1,S',by omega,(by first|rfl|simp),hB.trans hb2,hX2,hf⟩
        case measure=>simp;omega
      ·obtain rfl:n=c.bl.length:=by omega
       go_wp2
       rw[bt (di _),goB]at hf
       go_ret
       exact⟨by rw[<- hf];rfl,hB1.trans (hB.mono (by omega))⟩
set_option maxHeartbeats 1000000 in
set_option maxRecDepth 1000000 in
theorem a2h {c:Cd} {w:World} {v1 v2 v3:Value} (hone:v1.oneCell'=true/\v2.oneCell'=true/\v3.oneCell'=true) (ho:(c.ua != 0)=true)
  (h20:∀w1,Below w.heap.size w w1->Calls Tryz.prog 73 #[.agg #[v1,v2,v3]] w1 λe w2=>e = .returned (.int .i64 c.ua)/\Below w1.heap.size w1 w2) :
  Calls Tryz.prog 29 #[.agg #[v1,v2,v3]] w λe w'=>e = .returned (.int .i64 c.check)/\Below w.heap.size w w':=by
 obtain⟨q1,q2,q3⟩:=hone
 have hck:c.check=c.ua:=by rw[Cd.check,if_pos (by simpa[bne]using ho)]
 rw[hck]
 go_enter Tryz.func29,Tryz.ntmps29
 go_wp2_with (go_at_call 73;refine(h20 _ ((Below.refl _ w).alloc (di _) _)).mono ?_)
 rintro e w1 ⟨rfl,hb1⟩
 have hsz0:(w.alloc (.cells #[v1,v2,v3] 26)).heap.size=w.heap.size+1:=by rw[ks]
 have hB1:Below w.heap.size w w1:=((Below.refl _ w).alloc (di _) _).trans (hb1.mono (by rw[hsz0];omega))
 clear hb1 hsz0
 go_wp2
 go_ret
 exact⟨rfl,hB1⟩
end Go.Proofs.Eng
namespace Go.Proofs.Eng
open Go Go.Proofs Go.RowKit
set_option maxRecDepth 100000
theorem a6d {n:Nat} {s:ASt} {v:AV} {x:Value} (h:gr n s v=some (.v x)):v = .v x:=by
 cases n with
 | zero=>simp[gr]at h
 | succ n=>
  by_cases hp:im v=true
  ·have:gr (n+1) s v=some v:=by cases v<;>simp only[gr,hp,if_true]
   rw[this]at h;simpa using h
  ·cases v<;>simp only[gr,hp,if_false,fi,reduceCtorEq,and_false,exists_false,dz]at h
   ·split at h
    ·split at h
     ·simp at h
     ·cases h
    ·cases h
theorem Us {P:Program} {md:FuncId->Md} {pfs:FuncId->Option PF} (hS:Sound P (run md pfs)) {f:FuncId} {args:List AV} {s:ASt} {PR:AV->ASt->Prop} (h:Sh md pfs f args s PR λ_ _=>False) (hz:∀v s',PR v s' -> ∃z:Int,v = .int z) {g:Gh} {w:World} {vs:List Value} (hI:Inv g s w) (hr:ga g s w args vs) :
  Calls P f vs.toArray w λe w'=>∃(z:Int) (g':Gh) (s':ASt),PR (.int z) s'/\e = .returned (.int .i64 z)/\Inv g' s' w'/\Ext g s w g' s' w':=by
 obtain⟨out,s1,out',h1,h2,h3⟩:=h
 obtain⟨_,hcalls⟩:=hS f args _ out s1 h1
 refine(hcalls _ w vs hI hr).mono ?_
 rintro e w' ⟨g1,hI1,hE1,hO1⟩
 cases out with
 | ret v=>
  obtain⟨v',hv',rfl⟩:=fp h2
  obtain⟨z,rfl⟩:=hz _ _ h3
  obtain rfl:=a6d hv'
  have hf:(jx.ret (AV.v (.int .i64 z))).frz 20 s1=s1:=xh (n:=20) (x:=.v (.int .i64 z)) rfl
  simp only[hf]at h3
  cases e with
  | returned u=>
   have hu:u = .int .i64 z:=Rep.ke hO1
   exact⟨z,g1,s1,h3,by rw[hu],hI1,hE1⟩
  | panicked _=>exact hO1.elim
  | outgrown=>exact hO1.elim
 | pan v=>
  obtain⟨v',hv',rfl⟩:=fp h2
  exact h3.elim
theorem Va {g g':Gh} {s s':ASt} {w w':World} (h:Ext g s w g' s' w') {B:Nat} (hB:B<=w.heap.size) (hn:∀b,b<B -> ¬g.has b):Below B w w':=
 ⟨h.os,h.tape,h.output.1,h.size,λk hk=>(h.obj k (by omega) (hn k hk)).1⟩
def GhK (K gb:Nat) (fb:Nat->Nat->Prop):Gh:=⟨λi=>if i=0 then some K else if i=1 then some gb else none,λ_=>none,fb⟩
theorem zy {K gb:Nat} {fb:Nat->Nat->Prop} {i b:Nat} (h:(GhK K gb fb).mu i=some b):(i=0/\b=K)\/(i=1/\b=gb):=by
 simp only[GhK]at h
 split at h
 ·simp only[fe]at h;exact .inl ⟨by assumption,h.symm⟩
 ·split at h
  ·simp only[fe]at h;exact .inr ⟨by assumption,h.symm⟩
  ·cases h
theorem H7 {K gb:Nat} {fb:Nat->Nat->Prop} {b:Nat} (h:(GhK K gb fb).has b):b=K\/b=gb:=by
 rcases h with⟨i,h⟩|⟨id,q,h,_⟩
 ·rcases zy h with⟨_,h⟩|⟨_,h⟩
  ·exact .inl h
  ·exact .inr h
 ·cases h
theorem Jc {g:Gh} {s:ASt} {w:World}:∀l:List Int,ga g s w (ints l) (l.map λz=>.int .i64 z)
 | []=>.nil g s w
 | x::l=>.cons (.v rfl) (Jc l)
theorem Qc {g:Gh} {s:ASt} {w wr:World} {a1 a2 a3:AV} {v1 v2 v3:Value} {K gb nb cap:Nat} {S:List Int} (hI:Inv g s w) (hr:ga g s w [.agg [a1,a2,a3]] [.agg #[v1,v2,v3]]) (hp:gi [.agg [a1,a2,a3]]=true)
  (hb:Below w.heap.size w wr) (hK:w.heap.size<=K) (hg:K+1<=gb) (hKc:wr.heap[K]? = some (.cells #[v1,v2,v3,.slice (some ⟨gb,0,none⟩) nb cap] 129 (0,0)))
  (hrow:wr.ownsRow (K+1) 3 1 (.slice (some ⟨gb,0,none⟩) nb cap) nb (S.map λz=>.int .i64 z)) :
  ∃fb,Inv (GhK K gb fb) ⟨[.cells false [a1,a2,a3,.bs 1 0 nb 1 false],.cells false (ints S)],[]⟩ wr:=by
 have hInv0:Inv (Gh.empty λb o=>g.wr s b o) ⟨[],[]⟩ w:=Inv.empty hI.known λb o h=>hI.Cf h
 have hok:∀b o,¬g.wr s b o -> ¬(Gh.empty λb o=>g.wr s b o).wr ⟨[],[]⟩ b o:=by
  rintro b o hn (⟨i,l,h1,_⟩|⟨id,q,h1,_⟩|h1)
  ·simp[Gh.empty]at h1
  ·simp[Gh.empty]at h1
  ·exact hn h1
 have hfz:∀i b o,g.mu i=some b->mw s i -> ¬(Gh.empty λb o=>g.wr s b o).wr ⟨[],[]⟩ b o:=by
  rintro i b o hb hf (⟨i,l,h1,_⟩|⟨id,q,h1,_⟩|h1)
  ·simp[Gh.empty]at h1
  ·simp[Gh.empty]at h1
  ·exact yg (mh.refl s) hI i b o hb hf h1
 have hfold:[AV.agg [a1,a2,a3]].foldl (frz 20) s=s:=D7 s hp
 have hr0:=xr (ok:=mw s) (wg 20) (ou hI hok (mw s) hfz 20 λh=>absurd h (by decide)) (wb s hp) hr (mh.refl s) (λi hi=>by rw[hfold]at hi;exact hi)
 refine⟨λb o=>g.wr s b o, ?_⟩
 rcases hrow.2 with⟨h,_⟩|⟨g1,cap1,cur,h,hg1,hgc,hnc,hcm,hcs,htk⟩
 ·cases h
 simp only[Value.slice.injEq,fe,Addr.mk.injEq,and_true,true_and]at h
 obtain⟨rfl,rfl⟩:=h
 have hKl:=G4 hKc
 have hgl:=G4 hgc
 have hsz:=hb.size
 have hE:Ext (Gh.empty λb o=>g.wr s b o) ⟨[],[]⟩ w (GhK K gb λb o=>g.wr s b o) ⟨[.cells false [a1,a2,a3,.bs 1 0 nb 1 false],.cells false (ints S)],[]⟩ wr:=by
  refine⟨λi b h=>by simp[Gh.empty]at h,λid v h=>by simp at h,hsz,x9.same hb.block,λb o hlt _=>hb.cell (p:=⟨b,o,none⟩) hlt, ?_, ?_,rfl,hb.os,hb.tape,hb.output,λd=>d.elim⟩
  ·rintro b o hlt hn (⟨i,l,h,_⟩|⟨id,q,h,_⟩|h)
   ·rcases zy h with⟨_,rfl⟩|⟨_,rfl⟩<;>omega
   ·cases h
   ·exact hn (.inr (.inr h))
  ·intro b hlt _
   refine⟨hb.block b hlt,λh => ?_⟩
   rcases H7 h with rfl|rfl<;>omega
 obtain⟨u,us,e,hu,_⟩:=(hr0.mono hE).cons_inv
 simp only[List.cons.injEq]at e
 obtain⟨rfl,rfl⟩:=e
 obtain⟨cs,e,hcs⟩:=hu.Dc
 obtain rfl:cs=[v1,v2,v3]:=by simpa using (congrArg Array.toList (Value.agg.inj e)).symm
 refine⟨?_, ?_, ?_, ?_, ?_, ?_, ?_, ?_, ?_, ?_⟩
 ·intro i b h
  rcases zy h with⟨rfl,rfl⟩|⟨rfl,rfl⟩<;>exact⟨by simp,by assumption⟩
 ·intro i j b h1 h2
  rcases zy h1 with⟨rfl,rfl⟩|⟨rfl,rfl⟩<;>rcases zy h2 with⟨rfl,h⟩|⟨rfl,h⟩<;>first|rfl|omega
 ·intro i b o h ho
  rcases zy h with⟨rfl,rfl⟩|⟨rfl,rfl⟩
  ·simp only[bw,fe]at ho
   subst ho
   exact⟨[v1,v2,v3,.slice (some ⟨gb,0,none⟩) nb cap],129,⟨[],by simpa using hKc⟩,hcs.append (l:=[a1,a2,a3]) (.one (.bs (by simp[GhK]) hnc ⟨_,_,_,hgc,by have:=hcs;omega⟩))⟩
  ·simp only[bu,bw,fe]at ho
   subst ho
   refine⟨S.map λz=>.int .i64 z,3,⟨cur.toList.drop nb, ?_⟩,Jc S⟩
   rw[hgc,<- htk,Nat.mul_one,ck]
 ·intro id o h;cases h
 ·intro id id' o o' h;cases h
 ·intro id o i h;cases h
 ·intro b o h;exact dq (hI.Cf h) hsz
 ·intro i b o h h2
  have:=hI.Cf h2
  rcases zy h with⟨_,rfl⟩|⟨_,rfl⟩<;>omega
 ·intro id q o h;cases h
 ·intro b hk
  obtain⟨h1,h2⟩:=hI.known b hk
  refine⟨by omega,λh => ?_,by rw[hb.block b h1];exact h2⟩
  rcases H7 h with rfl|rfl<;>omega
end Go.Proofs.Eng
namespace Go.Proofs.Eng
open Go Go.Proofs Go.RowKit
set_option maxRecDepth 100000
def okR (c:Cd):Bool:=decide (c.bl.length<=900000)&&decide ((c.bl.map List.length).sum<=1000000000)&&(c.bl.all λl=>decide (l.length<=1000000)&&l.all λx=>decide (x.n.size<=9223372036854775807))&&(c.gl.all λg=>decide (g.size<=9223372036854775807))&&decide (c.gl.length<=1000000)&&decide (c.st.length<=1000000)
def Rx:List AV->ASt->Option (AV × ASt)
 | [a],s=>match Qv a with
  | some c=>if okR c=true then some (.int c.check,s)else none
  | none=>none
 | _,_=>none
theorem a4q:Kl Tryz.prog 29 Rx:=by
 intro args s v s' hv
 refine⟨⟨_,_,Tryz.func29,rfl,by kernel_rfl⟩,λg w vs hI hr => ?_⟩
 unfold Rx at hv
 split at hv
 ·rename_i a s0
  split at hv
  ·rename_i c hc
   split at hv
   ·rename_i hok
    simp only[fe,ff]at hv
    obtain⟨rfl,rfl⟩:=hv
    obtain⟨Bs,t1,t2,t3,rfl,hBs,p1,p2,p3⟩:=Pq hc
    simp only[okR,dy,decide_eq_true_eq,aw]at hok
    obtain⟨⟨⟨⟨⟨k1,k2⟩,k3⟩,k4⟩,k5⟩,k6⟩:=hok
    have hlen:=hBs.len
    have hlb:jj=9223372036854775807:=rfl
    have hBl:LIs Em c.bl Bs:=a4o hBs λb hb=>by have:=(k3 b hb).1;omega
    have hIs:c.Is (.agg [.sl Bs t1,.sl (nmA c.gl) t2,.sl (ints c.st) t3]):=⟨Bs,t1,t2,t3,rfl,hBl,p1,p2,p3,by omega,by omega,by omega⟩
    have hS:=Fw (md:=md) hm a1f
    have hpa:gi [.agg [.sl Bs t1,.sl (nmA c.gl) t2,.sl (ints c.st) t3]]=true:=by simp[gp,gz,Ca hIs]
    obtain⟨u,us,rfl,hu,hnil⟩:=hr.cons_inv
    obtain rfl:us=[]:=List.length_eq_zero_iff.1 hnil.1.symm
    obtain⟨cs,rfl,hcs⟩:=hu.Dc
    obtain⟨v1,cs,rfl,hv1,hcs⟩:=hcs.cons_inv
    obtain⟨v2,cs,rfl,hv2,hcs⟩:=hcs.cons_inv
    obtain⟨v3,cs,rfl,hv3,hcs⟩:=hcs.cons_inv
    obtain rfl:cs=[]:=List.length_eq_zero_iff.1 hcs.1.symm
    have hone:v1.oneCell'=true/\v2.oneCell'=true/\v3.oneCell'=true:=by
     obtain⟨_,_,_,_,_,rfl,_⟩:=hv1.n8
     obtain⟨_,_,_,_,_,rfl,_⟩:=hv2.n8
     obtain⟨_,_,_,_,_,rfl,_⟩:=hv3.n8
     exact⟨rfl,rfl,rfl⟩
    have h20:∀w1,Below w.heap.size w w1->Calls Tryz.prog 73 #[.agg #[v1,v2,v3]] w1 λe w2=>e = .returned (.int .i64 c.ua)/\Below w1.heap.size w1 w2:=λw1 hb=>by
     obtain⟨hI1,hr1⟩:=Qo hI hr hb
     refine(Iy hS (M7 hIs (λg hg=>by have:=k4 g hg;omega)) hpa hI1 hr1).mono ?_
     rintro e w2 ⟨_,u,rfl,rfl,hbl,hR⟩
     rw[hR.ke]
     exact⟨rfl,hbl⟩
    have fin:Calls Tryz.prog 29 #[.agg #[v1,v2,v3]] w (λe w'=>e = .returned (.int .i64 c.check)/\Below w.heap.size w w')->Calls Tryz.prog 29 #[.agg #[v1,v2,v3]] w λe w'=>∃g',Inv g' s w'/\Ext g s w g' s w'/\qk g' s w' (.ret (.int c.check)) e:=λh=>h.mono λe w' ⟨he,hbl⟩=>by
     subst he
     have hE:Ext g s w g s w':=Ext.same hbl.size hbl.block hbl.os hbl.tape ⟨hbl.output,λd=>d.elim⟩
     exact⟨g,hI.jb hE λb h=>hbl.block b (hI.yb h),hE,.v rfl⟩
    cases ho:(c.ua != 0)
    case true=>exact fin (a2h hone ho h20)
    have ho':c.ua=0:=by simpa[bne]using ho
    rw[ho']at h20
    have hoo:c.bl ≠ []/\(c.st.any λs=>decide (s<1)||decide ((c.bl.length:Int)<=s))=false:=by
     unfold Cd.ua at ho'
     split at ho'
     ·omega
     rename_i hh
     exact⟨λe=>hh (.inl e),by
      cases hx:(c.st.any λs=>decide (s<1)||decide ((c.bl.length:Int)<=s))with
      | false=>rfl
      | true=>exact absurd (.inr (.inr (.inl hx))) hh⟩
    obtain⟨hne,hst⟩:=hoo
    have hb1:1<=c.bl.length:=by
     rcases Nat.eq_zero_or_pos c.bl.length with h|h
     ·exact absurd (List.length_eq_zero_iff.1 h) hne
     ·exact h
    refine fin (Sf hone h20 ?_ ⟨hb1,by omega⟩ ?_ ?_ (by omega) (λw1 n S wr=>∃g' s',Inv g' s' wr/\g'.mu 0=some w1.heap.size/\KS 0 1 Bs t1 t2 t3 c S s'.H/\SB ((64*n+((c.bl.map List.length).take n).sum:Nat):Int) S/\w1.heap.size<=wr.heap.size /\ ∀b,b<w1.heap.size -> ¬g'.has b) ?_ ?_ ho')
    ·obtain⟨x,cap,b,o,cs,rfl,r1,r2,r3,r4,_⟩:=hv1.n8
     exact⟨x,cap,by rw[hlen],by omega⟩
    ·obtain⟨x,cap,b,o,cs,rfl,r1,r2,r3,r4,_⟩:=hv3.n8
     have hfl:flat (ints c.st)=ints c.st:=Jy λy hy=>by
      obtain⟨q,_,rfl⟩:=List.mem_map.1 hy;rfl
     rw[hfl]at r1
     refine⟨x,cap,by rw[ig],by rw[<- ig];exact r4,λn l hl => ?_⟩
     have hnl:n<c.st.length:=(List.getElem?_eq_some_iff.1 hl).1
     have hx:=r3 (by intro e;have:=congrArg List.length e;rw[ig]at this;simp at this;rw[this]at hnl;simp at hnl)
     have hnc:n<cs.length:=by rw[<- r1.1,ig];exact hnl
     have hav:(ints c.st)[n]? = some (.int l):=by rw[ints,bh,hl];rfl
     have hR:=r1.2 n _ _ hav (aa hnc)
     have hcell:=(r2 n _ (aa hnc)).1
     rw[hR.ke]at hcell
     exact⟨b,o,hx,hcell⟩
    ·intro x hx
     have h:=List.any_eq_false.1 hst x hx
     simp only[ei,decide_eq_true_eq,not_or]at h
     omega
    ·intro w1 gb cap wr hB1 hsz1 hg hB hK hrow hSB
     obtain⟨fb,hI2⟩:=Qc (K:=w1.heap.size) hI hr hpa (hB1.trans (hB.mono (by omega))) (by omega) hg hK hrow
     have hSl:c.S0.length=c.bl.length:=by have:=hrow.1;simpa using this
     refine⟨_,_,hI2,by simp[GhK],⟨rfl,rfl,hSl,by decide,hBl,p1,by omega⟩,hSB.mono (by simp),hB.size,λb hlt hb => ?_⟩
     rcases H7 hb with rfl|rfl<;>omega
    ·rintro w1 n l S wr ⟨g',s',hI2,hmu,kS,hS2,hsz,hnh⟩ hl
     have hle:=Di (c.bl.map List.length) (n+1)
     have htk:((c.bl.map List.length).take (n+1)).sum=((c.bl.map List.length).take n).sum+l.length:=by
      rw[bj,bh,hl];simp
     have hnl:=(List.getElem?_eq_some_iff.1 hl).1
     refine(Us hS (Lg (V:=s'.T) kS hl (λx hx=>by have:=(k3 l (aq hl)).2 x hx;omega) hS2 (by omega) (by omega)) ?_ hI2 (vs:=[.pointer (some ⟨w1.heap.size,0,none⟩),.int .i64 n]) (.cons (.ptr hmu) (.one (.v rfl)))).mono ?_
     ·intro v s1 h
      revert h
      cases zn c.bl.length c.gl.length n l S with
      | error e=>rintro⟨rfl,_⟩;exact⟨_,rfl⟩
      | ok S'=>rintro⟨rfl,_⟩;exact⟨_,rfl⟩
     ·rintro e w2 ⟨z,g2,s2,hz,rfl,hI3,hE⟩
      have hbl:=Va hE hsz hnh
      cases hbk:zn c.bl.length c.gl.length n l S with
      | error e=>
       rw[hbk]at hz
       obtain⟨h,_⟩:=hz
       obtain rfl:z=e:=by simpa[AV.int]using h
       exact⟨rfl,hbl⟩
      | ok S'=>
       have hS':=Ol hS2 (by omega) hbk
       rw[hbk]at hz
       obtain⟨h,H',rfl,kS',hl'⟩:=hz
       obtain rfl:z=0:=by simpa[AV.int]using h
       refine⟨rfl,hbl,g2,_,hI3,hE.mu _ _ hmu,kS',hS'.mono (by rw[htk];omega),by have:=hbl.size;omega,λb hb=>(hE.obj b (by omega) (hnh b hb)).2⟩
   ·cases hv
  ·cases hv
 ·cases hv
end Go.Proofs.Eng
namespace Go.Proofs.Eng
open Go Go.Proofs Go.RowKit
set_option maxRecDepth 100000
theorem xz {call:ia} {md:FuncId->Md} {p1 p2:FuncId->Option PF} (hp:∀f pf,p1 f=some pf->p2 f=some pf):∀(ds:List (FuncId × List AV)) (p:Option AV) (s:ASt) r,jy call md p1 ds p s=some r->jy call md p2 ds p s=some r
 | [],p,s,r,h=>h
 | (f,args)::ds,p,s,r,h=>by
  simp only[jy]at h ⊢
  cases hf:p1 f with
  | none=>rw[hf]at h;cases h
  | some pf=>
   rw[hf]at h
   rw[hp f pf hf]
   simp only at h ⊢
   split at h
   ·cases h
   ·rename_i hq
    rw[if_neg hq]
    split at h
    ·rename_i rc st hx
     split at h
     ·rename_i hc
      rw[if_pos hc];exact xz hp ds _ _ r h
     ·cases h
    ·rename_i rc st hx
     split at h
     ·rename_i hc
      rw[if_pos hc];exact xz hp ds _ _ r h
     ·cases h
    ·cases h
theorem A3 {call:ia} {md:FuncId->Md} {p1 p2:FuncId->Option PF} (hp:∀f pf,p1 f=some pf->p2 f=some pf) {res:List PR} {st:St} {p:Option AV} {r:jx × ASt} (h:jw call md p1 res st p=some r):jw call md p2 res st p=some r:=by
 have go:∀df,(match jy call md p1 df p st.s with
  | some (none,s)=>(ma st.tm s res).map λl=>(jx.ret (oq l),s)
  | some (some v,s)=>some (jx.pan v,s)
  | none=>none)=some r->(match jy call md p2 df p st.s with
  | some (none,s)=>(ma st.tm s res).map λl=>(jx.ret (oq l),s)
  | some (some v,s)=>some (jx.pan v,s)
  | none=>none)=some r:=λdf h=>by
  cases hu:jy call md p1 df p st.s with
  | none=>rw[hu]at h;cases h
  | some x=>rw[hu]at h;rw[xz hp _ _ _ _ hu];exact h
 unfold jw at h ⊢
 cases hd:st.df with
 | nil=>
  rw[hd]at h
  cases p<;>exact h
 | cons d ds=>
  rw[hd]at h
  exact go _ h
theorem Qk {call:ia} {md:FuncId->Md} {p1 p2:FuncId->Option PF} (hp:∀f pf,p1 f=some pf->p2 f=some pf) {F:Nat} {pf:PF} {args:List AV} {s:ASt} {r:jx × ASt} (h:uz call md p1 F pf args s=some r):uz call md p2 F pf args s=some r:=by
 unfold uz at h ⊢
 split at h
 ·split at h
  ·cases h
  ·rename_i hq;rw[if_neg hq];exact A3 hp h
 ·split at h
  ·cases h
  ·rename_i hq;rw[if_neg hq];exact A3 hp h
 ·split at h
  ·cases h
  ·rename_i hq;rw[if_neg hq];exact A3 hp h
 ·cases h
theorem Gg {md:FuncId->Md} {p1 p2:FuncId->Option PF} (hp:∀f pf,p1 f=some pf->p2 f=some pf):∀(F:Nat) f args s r,oh md p1 F f args s=some r->oh md p2 F f args s=some r
 | 0,f,args,s,r,e=>by simp[oh]at e
 | F+1,f,args,s,r,e=>by
  simp only[oh]at e ⊢
  cases hf:p1 f with
  | none=>rw[hf]at e;simp at e
  | some pf=>
   rw[hf]at e
   rw[hp f pf hf]
   simp only at e ⊢
   cases ho:pf.body.J5 with
   | some o=>rw[ho]at e;exact e
   | none=>
    rw[ho]at e
    exact Qk hp (Ds (λf args s r e=>Gg hp F f args s r e) (di _) e)
theorem N9 {md:FuncId->Md} {p1 p2:FuncId->Option PF} (hp:∀f pf,p1 f=some pf->p2 f=some pf) {f:FuncId} {args:List AV} {s:ASt} {r:jx × ASt} (h:run md p1 f args s=some r):run md p2 f args s=some r:=by
 obtain⟨F,hF⟩:=(xg p1 f args s).fin _ h
 exact Lx (Gg hp F f args s r hF)
theorem Out.ext {md:FuncId->Md} {p1 p2:FuncId->Option PF} (hp:∀f pf,p1 f=some pf->p2 f=some pf) {f:FuncId} {args:List AV} {PR PP:AV->Prop} (h:Out md p1 f args PR PP):Out md p2 f args PR PP:=by
 obtain⟨out,s,out',h1,h2,h3⟩:=h
 exact⟨out,s,out',N9 hp h1,h2,h3⟩
end Go.Proofs.Eng
namespace Go.Proofs.Eng
open Go Go.Proofs
set_option maxRecDepth 100000
set_option maxHeartbeats 16000000
structure Ap (H:List fq) (V:List Nat) (H':List fq) (V':List Nat):Prop where
 h:∀(k:Nat) (o:fq),H[k]? = some o->H'[k]? = some o
 v:∀(i v:Nat),V[i]? = some v->V'[i]? = some v
theorem Ap.refl (H:List fq) (V:List Nat):Ap H V H V:=⟨λ_ _ h=>h,λ_ _ h=>h⟩
theorem Ap.trans {A B C:List fq} {V V' V'':List Nat} (h:Ap A V B V') (k:Ap B V' C V''):Ap A V C V'':=⟨λi o e=>k.h i o (h.h i o e),λi v e=>k.v i v (h.v i v e)⟩
theorem Ap.app (H:List fq) (V:List Nat) (G:List fq):Ap H V (H++G) V:=⟨λ_ _ h=>jc h G,λ_ _ h=>h⟩
theorem C6 {es:Nat} {f:FuncId} (hf:pfs f=some ⟨0,[],.ora (Lz es)⟩) {l:List AV} (t:Tl) (hl:l.length<=1073741824) (hp:gi l=true) (hc:(l.all λx=>x.cells.length==es&&x.cells.all ic)=true) :
  Out md pfs f [.sl l t] (λv=>∃t',v = .sl l t'/\t'.pure=true) λ_=>False:=by
 cases l with
 | nil=>
  have hn:(sj (.sl [] t)).pure=true:=by unfold sj;split<;>rfl
  have:=Df (md:=md) (pfs:=pfs) hf rfl (args:=[.sl [] t]) (v:=.sl [] (sj (.sl [] t))) (s:=⟨[],[]⟩) (s':=⟨[],[]⟩) rfl
  exact⟨_,_,.ret (.sl [] (sj (.sl [] t))),this,by rw[jx.gr,jh (by rw[kl,hn];rfl)];rfl,_,rfl,hn⟩
 | cons x l=>
  have:=Df (md:=md) (pfs:=pfs) hf rfl (args:=[.sl (x::l) t]) (v:=.sl (x::l) (.tl 0 0)) (s:=⟨[],[]⟩) (s':=⟨[],[0]⟩) (by rw[Lz,if_pos ⟨hl,hc⟩];rfl)
  exact⟨_,_,.ret (.sl (x::l) ((Tl.tl 0 0).uy 1019 ⟨[],[0]⟩)),this,by rw[jx.gr,a5y,Hl hp];rfl,_,rfl,Jr _ _ _⟩
theorem Vf (l:List Ins):((jf l).all λx=>x.cells.length==4&&x.cells.all ic)=true:=by
 rw[aw];intro x hx
 obtain⟨b,_,rfl⟩:=List.mem_map.1 hx;rfl
theorem Z8 (l:List ByteArray):((nmA l).all λx=>x.cells.length==1&&x.cells.all ic)=true:=by
 rw[aw];intro x hx
 obtain⟨b,_,rfl⟩:=List.mem_map.1 hx;rfl
theorem J0 (l:List Int):((ints l).all λx=>x.cells.length==1&&x.cells.all ic)=true:=by
 rw[aw];intro x hx
 obtain⟨b,_,rfl⟩:=List.mem_map.1 hx;rfl
def mcs (Bl:List AV) (tb t2 t3:Tl) (c:Cd) (bk at':Int) (ea sa fa:AV) (steps:Int) (hlt:Bool) (err:Int) (m:Nat):List AV:=[.sl Bl tb,.sl (nmA c.gl) t2,.sl (ints c.st) t3,.int bk,.int at',ea,sa,fa,.int steps,.bool hlt,.int err,
 .bm 42 [.ptr m 0],.bm 43 [.ptr m 0],.bm 44 [.ptr m 0],.bm 45 [.ptr m 0],.bm 46 [.ptr m 0],.bm 47 [.ptr m 0],.bm 48 [.ptr m 0],.bm 49 [.ptr m 0],.bm 50 [.ptr m 0],.bm 51 [.ptr m 0],.bm 52 [.ptr m 0],.bm 53 [.ptr m 0],.bm 54 [.ptr m 0],.bm 55 [.ptr m 0],.bm 56 [.ptr m 0]]
def Zn (Bl:List AV) (tb t2 t3:Tl) (c:Cd):List AV:=[.sl Bl tb,.sl (nmA c.gl) t2,.sl (ints c.st) t3,.int 0,.int 0,.v (.pointer none),.sl [] .nil,.sl [] .nil,.int 0,.bool false,.int 0,
 .v .nilFunc,.v .nilFunc,.v .nilFunc,.v .nilFunc,.v .nilFunc,.v .nilFunc,.v .nilFunc,.v .nilFunc,.v .nilFunc,.v .nilFunc,.v .nilFunc,.v .nilFunc,.v .nilFunc,.v .nilFunc,.v .nilFunc]
theorem Yj {c:Cd} {a:AV} (h:c.Is a) (hn:∀g ∈ c.gl,g.size<=jj) (hnm:∀b ∈ c.bl,∀x ∈ b,x.n.size<=jj) (hb:c.bl.length<=1000000) (hsum:(c.bl.map List.length).sum<=1000000000) (hg:c.gl.length<=1000000) (hs:c.st.length<=1000000) (H:List fq) (V:List Nat) :
  Rw 12 [a] ⟨H,V⟩ λv s1=>∃H1 V1,s1=⟨H1,V1⟩/\Ap H V H1 V1/\((c.check ≠ 0/\v = .tup [.v (.pointer none),.int c.check])\/(c.check=0 /\ ∃m Bl tb t2 t3,H.length<=m/\v = .tup [.ptr m 0,.int 0]/\H1[m]? = some (.cells false (mcs Bl tb t2 t3 c 0 0 (.v (.pointer none)) (.sl [] .nil) (.sl [] .nil) 0 false 0 m))/\LIs blX c.bl Bl)):=by
 obtain⟨Bs,t1,t2,t3,rfl,g1,g2,g3,g4,g5,g6,g7⟩:=id h
 have hBl:=g1.len
 have kh:Ev=1073741824:=rfl
 have hlb:jj=9223372036854775807:=rfl
 have hpA:=Ca h
 have hBa:(Bs.all λx=>x.cells.length==1)=true:=aw.2 λy hy=>by
  obtain⟨q,hq⟩:=List.mem_iff_getElem?.1 hy
  obtain⟨b,a,_,_,_,e4,⟨t,rfl,_⟩⟩:=g1.at (i:=q) (List.getElem?_eq_some_iff.1 hq).1
  rw[hq]at e4;cases e4;rfl
 refine ju pf12_is (dh rfl) ?_
 obtain⟨_,rfl,cck⟩:=(Sp h hn hnm hb (by omega)).call rfl (by simp[gp,gz,hpA])
 cases hz:(c.check==0)
 ·have hz':c.check ≠ 0:=by simpa using hz
  have hne:(c.check != 0)=true:=by simp[bne,hz]
  simp only[pf12,↓fm,wall,simprocAttr,wH,fw,fj,cck,hz,hne]
  exact⟨_,_,rfl,.app _ _ _,.inl hz'⟩
 have hz':c.check=0:=by simpa using hz
 rw[hz']at cck
 obtain⟨_,⟨u2,rfl,w2⟩,cg⟩:=(C6 (f:=39) (es:=1) (by simp[pfs]) (l:=nmA c.gl) t2 (by rw[ja];omega) (xf _) (Z8 _)).call rfl (by simp[gp,gz,kl,g3,xf])
 obtain⟨_,⟨u3,rfl,w3⟩,cs⟩:=(C6 (f:=40) (es:=1) (by simp[pfs]) (l:=ints c.st) t3 (by rw[ig];omega) (mv _) (J0 _)).call rfl (by simp[gp,gz,kl,g4,mv])
 simp only[pf12,↓fm,wall,simprocAttr,wH,fw,fj,cck,cg,cs]
 obtain⟨A,hA⟩:∃A,A=H++[fq.cells false [.sl Bs t1,.sl (nmA c.gl) t2,.sl (ints c.st) t3]]:=⟨_,rfl⟩
 have hAl:A.length=H.length+1:=by rw[hA];simp
 obtain⟨m,hm⟩:∃m,m=H.length+1:=⟨_,rfl⟩
 refine j7 (λj=>Bs.length-j) (λj E H' V'=>∃Bl tb,j<=Bs.length/\E 5 = .ptr m 0/\E 23 = .sl Bs t1/\E 24 = .int Bs.length/\E 25 = .int (j:Nat)/\H'[m]? = some (.cells false (Zn Bl tb u2 u3 c))/\Ap H V H' V'/\LIs blX (c.bl.take j) Bl/\App V' Bl tb/\V.length<=V'.length /\ ∀i v,tb = .tl i v->V.length<=i) ?_ 0 ?_
 ·rintro j E H1 V1 ⟨Bl,tb,hj,e5,e23,e24,e25,b1,hAp,hBlx,hApp,hV,hown⟩
  rcases dj j Bs.length with hlt|hge
  ·have hdec:decide ((j:Int)<Bs.length)=true:=by simpa using hlt
   obtain⟨b,_,d0,_,dm,d4,⟨t,rfl,ht,hbl⟩⟩:=g1.at hlt
   have hbs:b.length<=1000000000:=by
    have:=N2 (List.mem_map_of_mem (f:=List.length) dm);omega
   obtain⟨_,⟨t',rfl,_⟩,cb⟩:=(C6 (f:=41) (es:=4) (by simp[pfs]) (l:=jf b) t (by rw[gj];omega) (yh _) (Vf _)).call rfl (by simp[gp,gz,kl,ht,yh])
   have hBx:=hBlx.len
   rw[b7]at hBx
   obtain⟨tb',V2,q1,q2,q3⟩:=rn (es:=1) (xs:=[.sl (jf b) t']) hApp (by simp only[ak,ao];omega) (aw.2 λy hy=>by
    obtain⟨q,hq⟩:=List.mem_iff_getElem?.1 hy
    obtain⟨b,a,_,_,_,e4,e5⟩:=hBlx.at (i:=q) (List.getElem?_eq_some_iff.1 hq).1
    rw[hq]at e4;cases e4
    exact a5w e5) rfl
   have hml:=fu b1
   simp only[Zn]at b1
   simp only[↓fm,wall,simprocAttr,wH,e5,e23,e24,e25,hdec,d4,hBa,b1,cb,q1]
   refine jg ⟨j+1,by omega,_,_,by omega,e5,e23,e24,ij (by omega), ?_,⟨λk o hk => ?_,λi v hv => ?_⟩, ?_,q2,dt hV q3.1,λi v e => ?_⟩
   ·rw[b9,if_pos rfl,if_pos hml];rfl
   ·have hk':=hAp.h k o hk
    have:=fu hk
    rw[b9,if_neg (by omega)];exact hk'
   ·have:=(List.getElem?_eq_some_iff.1 hv).1
    exact q3.2.1 i v (hAp.v i v hv) λver e=>by have:=hown i ver e;omega
   ·rw[bj,d0]
    exact hBlx.append (.one ⟨t',rfl⟩)
   ·rcases q3.2.2 i v e with⟨v0,h⟩|h
    ·exact hown i v0 h
    ·omega
  ·have hdec:decide ((j:Int)<Bs.length)=false:=by simpa using hge
   rw[au (by omega)]at hBlx
   have hml:=fu b1
   simp only[Zn]at b1
   simp only[↓fm,wall,simprocAttr,wH,e5,e23,e24,e25,hdec,b1,fw,fj]
   refine⟨_,_,rfl,⟨λk o hk => ?_,hAp.v⟩,.inr ⟨hz',m,Bl,tb,u2,u3,by omega,rfl, ?_,hBlx⟩⟩
   ·have hk':=hAp.h k o hk
    have:=fu hk
    rw[b9,if_neg (by omega)];exact hk'
   ·rw[b9,if_pos rfl,if_pos hml];rfl
 ·subst hm
  exact⟨[],.nil,dk _,rfl,rfl,rfl,rfl,by simp[Zn],.app _ _ _,trivial,.inl ⟨rfl,rfl⟩,di _,λ_ _ e=>by cases e⟩
section
variable {c:Cd} {Bl:List AV} {tb t2 t3:Tl} {bk at':Int} {ea sa fa:AV} {steps:Int} {hlt:Bool} {err:Int} {m:Nat} {H:List fq} {V:List Nat}
theorem Py (h:H[m]? = some (.cells false (mcs Bl tb t2 t3 c bk at' ea sa fa steps hlt err m))):Rw 21 [.ptr m 0] ⟨H,V⟩ λv s1=>s1=⟨H,V⟩/\v = .int steps:=by
 refine ju pf21_is (dh rfl) ?_
 simp only[mcs]at h
 simp only[pf21,↓fm,wall,simprocAttr,wH,fw,fj,h]
end
end Go.Proofs.Eng
namespace Go.Proofs.Eng
open Go Go.Proofs
set_option maxRecDepth 100000
set_option maxHeartbeats 16000000
def Ce (c:Cd):Bool:=((c.bl.take 80).all λb=>decide (b.length<=120))&&(decide (c.bl.length<=60)&&decide (c.gl.length<=20)&&decide (c.st.length<=20))
theorem Qu {c:Cd} {a:AV} (h:c.Is a):Out md pfs 10 [a] (· = .bool (Ce c)) λ_=>False:=by
 obtain⟨Bs,t1,t2,t3,rfl,g1,g2,g3,g4,g5,g6,g7⟩:=id h
 have hBl:=g1.len
 have hlb:jj=9223372036854775807:=rfl
 have hBa:(Bs.all λx=>x.cells.length==1)=true:=aw.2 λy hy=>by
  obtain⟨q,hq⟩:=List.mem_iff_getElem?.1 hy
  obtain⟨b,a,_,_,_,e4,⟨t,rfl,_⟩⟩:=g1.at (i:=q) (List.getElem?_eq_some_iff.1 hq).1
  rw[hq]at e4;cases e4;rfl
 refine jt pf10_is (dh rfl) ?_
 simp only[pf10,↓fm,wall,simprocAttr,wH]
 refine j7 (λi=>Bs.length-i) (λi E H T=>H=[.cells false [.sl Bs t1,.sl (nmA c.gl) t2,.sl (ints c.st) t3]]/\E 1 = .ptr 0 0/\E 3 = .int (i:Nat)/\i<=Bs.length/\i<=80/\((c.bl.take i).all λb=>decide (b.length<=120))=true) ?_ 0 ⟨rfl,rfl,rfl,dk _,dk _,rfl⟩
 rintro i E _ T ⟨rfl,e1,e3,hi,h80,hb⟩
 have fin:c.bl.take i=c.bl.take 80->Ce c=(decide (c.bl.length<=60)&&decide (c.gl.length<=20)&&decide (c.st.length<=20)):=λe=>by
  rw[Ce,<- e,hb,Bool.true_and]
 have ends:∀{d:Prop} [Decidable d] {n k:Nat},(decide ((n:Int)<=(k:Nat))=decide (n<=k)):=λ{_ _ n k}=>by
  rw[decide_eq_decide];omega
 rcases dj i Bs.length with hlt|hge
 ·have hdec:decide ((i:Int)<Bs.length)=true:=by simpa using hlt
  rcases dj i 80 with h8|h8
  ·have hd8:decide ((i:Int)<80)=true:=by simp;omega
   obtain⟨b,_,d0,_,_,d4,⟨t,rfl,_,hbl⟩⟩:=g1.at hlt
   cases q:decide (((b.length:Nat):Int)>120)
   ·simp only[↓fm,wall,simprocAttr,wH,e1,e3,hdec,hd8,hBa,d4,gj,q]
    refine jg ⟨i+1,by omega,rfl,e1,ij (by omega),by omega,by omega, ?_⟩
    rw[bj,d0,List.all_append,hb]
    simp only[decide_eq_false_iff_not]at q
    simp;omega
   ·simp only[↓fm,wall,simprocAttr,wH,e1,e3,hdec,hd8,hBa,d4,gj,q]
    have:Ce c=false:=by
     rw[Ce,Bool.and_eq_false_iff]
     refine .inl ?_
     rw[List.all_eq_false]
     refine⟨b,aq (i:=i) (by rw[List.getElem?_take_of_lt h8];exact d0), ?_⟩
     simp only[decide_eq_true_eq]at q ⊢;omega
    rw[this]
  ·have hd8:decide ((i:Int)<80)=false:=by simp;omega
   have hi8:i=80:=by omega
   rw[hi8]at hb
   rw[fin (by rw[hi8])]
   have q1:decide ((Bs.length:Int)<=60)=false:=by simp;omega
   have q1':decide (c.bl.length<=60)=false:=by simp;omega
   simp only[↓fm,wall,simprocAttr,wH,e1,e3,hdec,hd8,q1,q1',ej]
 ·have hdec:decide ((i:Int)<Bs.length)=false:=by simpa using hge
  rw[fin (by rw[au (by omega),au (by omega)])]
  have q1:decide ((Bs.length:Int)<=60)=decide (c.bl.length<=60):=by rw[decide_eq_decide];omega
  have q2:decide ((c.gl.length:Int)<=20)=decide (c.gl.length<=20):=by rw[decide_eq_decide];omega
  have q3:decide ((c.st.length:Int)<=20)=decide (c.st.length<=20):=by rw[decide_eq_decide];omega
  cases d1:decide (c.bl.length<=60)
  ·simp only[↓fm,wall,simprocAttr,wH,e1,e3,hdec,q1,d1,ej]
  ·cases d2:decide (c.gl.length<=20)
   ·simp only[↓fm,wall,simprocAttr,wH,e1,e3,hdec,q1,d1,ja,q2,d2,ej,Bool.true_and]
   ·simp only[↓fm,wall,simprocAttr,wH,e1,e3,hdec,q1,d1,ja,ig,q2,d2,q3,Bool.true_and]
noncomputable def yx (f:Nat):Option PF:=if f=29 then some ⟨0,[],.ora Rx⟩else pfs f
theorem B3:∀f pf,pfs f=some pf->yx f=some pf:=λf pf h=>by
 unfold yx
 split
 ·rename_i hf;subst hf;simp[pfs]at h
 ·exact h
theorem a3u:xy Tryz.prog yx:=λf pf h=>by
 unfold yx at h
 split at h
 ·rename_i hf
  subst hf
  simp only[fe]at h;subst h
  exact .inr (.inl ⟨_,rfl,a4q⟩)
 ·exact a1f f pf h
theorem Z4 {c:Cd} {a:AV} (h:Qv a=some c) (hok:okR c=true):Out md yx 29 [a] (· = .int c.check) λ_=>False:=by
 have:=Df (md:=md) (pfs:=yx) (f:=29) (pf:=⟨0,[],.ora Rx⟩) (by simp[yx]) rfl (args:=[a]) (v:=.int c.check) (s:=⟨[],[]⟩) (s':=⟨[],[]⟩) (by
  simp only[Rx,h]
  rw[if_pos hok])
 exact⟨_,_,.ret _,this,rfl,rfl⟩
theorem Rw.call3 {f:FuncId} {args:List AV} {s:ASt} {PR:AV->ASt->Prop} (h:Rw f args s PR) (hm:md f = .raw):∃v s',PR v s' /\ ∀K KP,CW (run md yx) md false s f args K KP ()=K v s':=by
 obtain⟨v,s1,h1,h2⟩:=h
 have h1:=N9 B3 h1
 exact⟨v,s1,h2,λK KP=>by simp[CW,me,my,mg,hm,h1]⟩
theorem Sa {c:Cd} (h:Ce c=true) (hn:∀g ∈ c.gl,g.size<=jj) (hnm:∀b ∈ c.bl,∀x ∈ b,x.n.size<=jj):okR c=true/\c.bl.length<=60/\(c.bl.map List.length).sum<=7200/\c.gl.length<=20/\c.st.length<=20:=by
 simp only[Ce,dy,decide_eq_true_eq,aw]at h
 obtain⟨h0,⟨h1,h2⟩,h3⟩:=h
 rw[au (by omega)]at h0
 have hlb:jj=9223372036854775807:=rfl
 have key:∀l:List (List Ins),(∀b ∈ l,b.length<=120)->(l.map List.length).sum<=120*l.length:=by
  intro l
  induction l with
  | nil=>simp
  | cons x l ih=>
   intro h
   have h1:=h x (by simp)
   have h2:=ih λy hy=>h y (by simp[hy])
   simp only[bq,List.sum_cons,ak];omega
 have hs:=key _ h0
 refine⟨?_,h1,by omega,h2,h3⟩
 simp only[okR,dy,decide_eq_true_eq,aw]
 exact⟨⟨⟨⟨⟨by omega,by omega⟩,λb hb=>⟨by have:=h0 b hb;omega,λx hx=>by have:=hnm b hb x hx;omega⟩⟩,λg hg=>by have:=hn g hg;omega⟩,by omega⟩,by omega⟩
end Go.Proofs.Eng
namespace Go.Proofs.Eng
open Go Go.Proofs Go.RowKit
set_option maxRecDepth 100000
def N8:Option (jx × ASt)->Bool
 | some (.ret (.v (.bool true)),_)=>true
 | _=>false
theorem Oz:N8 (oh md pfs 200 11 [] ⟨[],[]⟩)=true:=by kernel_rfl
theorem Qx:Out md pfs 11 [] (· = .bool true) λ_=>False:=by
 have h:=Oz
 cases hc:oh md pfs 200 11 [] ⟨[],[]⟩with
 | none=>rw[hc]at h;cases h
 | some r=>
  obtain⟨o,s⟩:=r
  rw[hc]at h
  unfold N8 at h
  split at h
  ·rename_i s' e
   simp only[fe,ff]at e
   obtain⟨rfl,rfl⟩:=e
   exact⟨_,_,.ret (.bool true),Lx hc,rfl,rfl⟩
  ·cases h
end Go.Proofs.Eng
namespace Go.Proofs.Eng
open Go Go.Proofs
set_option maxRecDepth 100000
set_option maxHeartbeats 16000000
end Go.Proofs.Eng
namespace Go.Proofs.Eng
open Go Go.Proofs
set_option maxRecDepth 100000
theorem a38:0<Tryz.prog.cellsOf 9:=by rw[show Tryz.prog.cellsOf 9=1 from by kernel_rfl];decide
theorem Yd:0<Tryz.prog.cellsOf 60:=by rw[show Tryz.prog.cellsOf 60=1 from by kernel_rfl];decide
theorem Yh:0<Tryz.prog.cellsOf 62:=by rw[show Tryz.prog.cellsOf 62=4 from by kernel_rfl];decide
def Sx (x:Ins) (a:AV):Prop:=a=x.av/\x.n.size<=jj
def Wk (b:List Ins) (a:AV):Prop:=∃t,a = .sl (jf b) t/\t.pure=true/\b.length<=jj /\ ∀x ∈ b,x.n.size<=jj
theorem D5 {α:Type} {R Q:α->AV->Prop} {P:α->Prop} (h:∀x a,R x a->Q x a/\P x):∀{l:List α} {al:List AV},LIs R l al->LIs Q l al /\ ∀x ∈ l,P x
 | [],[],_=>⟨trivial,λx hx=>by cases hx⟩
 | [],_::_,h=>h.elim
 | _::_,[],h=>h.elim
 | x::l,a::al,⟨h1,h2⟩=>by
  obtain⟨k1,k2⟩:=D5 h h2
  refine⟨⟨(h x a h1).1,k1⟩,λy hy => ?_⟩
  rcases List.mem_cons.1 hy with rfl|hy
  ·exact(h _ a h1).2
  ·exact k2 y hy
theorem four {α:Type} {l:List α} (h:l.length=4):∃a b c d,l=[a,b,c,d]:=by
 match l,h with
 | [a,b,c,d],_=>exact⟨a,b,c,d,rfl⟩
theorem three {α:Type} {l:List α} (h:l.length=3):∃a b c,l=[a,b,c]:=by
 match l,h with
 | [a,b,c],_=>exact⟨a,b,c,rfl⟩
theorem Xe {n:Nat} {l:List AV} (h:OfT Tryz.prog n 62 l):∃x:Ins,Sx x (.agg l):=by
 cases n with
 | zero=>exact h.elim
 | succ n=>
  simp only[OfT,Tryz.underlying62]at h
  rw[if_pos (by kernel_rfl)]at h
  obtain⟨xs,rfl,hl,hx⟩:=h
  obtain⟨a,b,c,d,rfl⟩:=four hl
  obtain⟨i,rfl,_⟩:=D9 (hx 0 _ a rfl rfl)
  obtain⟨j,rfl,hj⟩:=D9 (hx 1 _ b rfl rfl)
  obtain⟨k,rfl,hk⟩:=D9 (hx 2 _ c rfl rfl)
  obtain⟨nm,rfl,hn⟩:=O9 (hx 3 _ d rfl rfl)
  exact⟨⟨i,j,k,nm⟩,rfl,hn⟩
theorem a3b {n:Nat} {l:List AV} (h:OfT Tryz.prog n 60 l):∃b a,l=[a]/\Wk b a:=by
 obtain⟨xs,al,tl,rfl,h1,h2,h3⟩:=vj (R:=Sx) Tryz.underlying60 Yh (λn l h=>by
  obtain⟨x,hx⟩:=Xe h
  exact⟨x,by rw[show isAgg Tryz.prog 62=true from by kernel_rfl];exact hx⟩) h
 obtain⟨k1,k2⟩:=D5 (Q:=λx a=>a=x.av) (P:=λx=>x.n.size<=jj) (λx a (h:Sx x a)=>⟨h.1,h.2⟩) h1
 have e:=Ic k1
 subst e
 exact⟨xs,_,rfl,tl,rfl,h2,by rw[<- gj];exact h3,k2⟩
theorem a42 {n:Nat} {l:List AV} (h:OfT Tryz.prog n 26 l):∃c:Cd,c.Is (.agg l)/\(∀g ∈ c.gl,g.size<=jj) /\ ∀b ∈ c.bl,∀x ∈ b,x.n.size<=jj:=by
 cases n with
 | zero=>exact h.elim
 | succ n=>
  simp only[OfT,Tryz.underlying26]at h
  rw[if_pos (by kernel_rfl)]at h
  obtain⟨xs,rfl,hl,hx⟩:=h
  obtain⟨a,b,c,rfl⟩:=three hl
  obtain⟨bl,Bs,t1,rfl,g1,g2,g3⟩:=vj (R:=Wk) Tryz.underlying22 Yd (λn l h=>by
   obtain⟨b,a,rfl,hg⟩:=a3b h
   exact⟨b,by rw[show isAgg Tryz.prog 60=false from by kernel_rfl];exact hg⟩) (hx 0 _ a rfl rfl)
  obtain⟨gl,al,t2,rfl,k1,k2,k3⟩:=vj (R:=λ(s:ByteArray) a=>a = .str s/\s.size<=jj) Tryz.underlying23 a38 (λn l h=>by
   obtain⟨s,rfl,hs⟩:=O9 h
   exact⟨s,by rw[show isAgg Tryz.prog 9=false from by kernel_rfl];exact⟨rfl,hs⟩⟩) (hx 1 _ b rfl rfl)
  obtain⟨k1,k4⟩:=D5 (Q:=λs a=>a = .str s) (P:=λs=>s.size<=jj) (λx a h=>h) k1
  have e:=Mh k1
  subst e
  obtain⟨st,t3,rfl,m2,m3⟩:=Vb (hx 2 _ c rfl rfl)
  obtain⟨b1,b2⟩:=D5 (Q:=Em) (P:=λb=>∀x ∈ b,x.n.size<=jj) (λx a (h:Wk x a)=>by
   obtain⟨t,e,h1,h2,h3⟩:=h
   exact⟨⟨t,e,h1,h2⟩,h3⟩) g1
  exact⟨⟨bl,gl,st⟩,⟨Bs,t1,t2,t3,rfl,b1,g2,k2,m2,g3,by rw[<- ja];exact k3,m3⟩,k4,b2⟩
end Go.Proofs.Eng
namespace Go.Proofs.Eng
open Go Go.Proofs Go.Proofs.YtflfmkkcnphdcaaGreat
open Go.ChangeShapes Go.WideShapes Go.ChangeAt Go.RowKit
theorem a7i (W:World):Kn W:=λ_ h=>False.elim h
theorem Z3:ownKnob Tryz.prog.godebug=none:=by kernel_rfl
theorem Ur:laidOutB Tryz.prog=true:=by kernel_rfl
end Go.Proofs.Eng
