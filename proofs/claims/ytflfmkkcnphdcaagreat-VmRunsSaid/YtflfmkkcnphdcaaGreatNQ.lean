/- Small programs, and their code: plain law. No conditions beyond those in the theorems. -/
import Derived.Test.YtflfmkkcnphdcaaGreatS2
set_option linter.all false
set_option linter.deprecated false
set_option linter.unnecessarySimpa false
set_option linter.unusedVariables false
set_option linter.unusedSimpArgs false
set_option linter.defProp false
namespace Go.Proofs.Eng
open Go Go.Proofs
set_option maxRecDepth 100000
section
variable {c:Cd} {Z:List Int}
theorem Ai (hC:Ei c Z) {b:Nat} {e:List Vl} (hb:b<c.bl.length) (hz:Z.getD b 0=(e.length:Nat)) (he:kj c Z e):Hk c Z ⟨b,0,e⟩ 0:=by
 obtain⟨h1,h2,S,t',h3,h4⟩:=hC.blk b _ (aa hb)
 refine⟨⟨S,Z.getD b 0,0,0,0⟩,⟨_,aa hb,List.length_pos_iff.2 h1,t',by rw[List.drop_zero];exact h3,h4⟩,rfl,hz,rfl,Int.le_refl _,h2,by show Z.getD b 0<=Z.getD b 0+((0:Nat):Int);omega,he⟩
theorem zq {s:Ms} {b:Nat} {e:List Vl} {k r:Nat} (h1:s.halted=false) (h2:Hk c Z s.now (k+1)) (h3:s.stack.length=k+r) (h4:Tq c Z s.gq r) (h5:kj c Z s.stack) (h6:Hk c Z ⟨b,0,e⟩ 0) :
  Safe c Z {(s.enter b e).1 with err:=(s.enter b e).2}/\(s.enter b e).1.steps=s.steps/\(s.enter b e).1.stack=s.stack/\(s.enter b e).1.gq.length<=s.gq.length+1:=by
 rcases dj s.gq.length 65536 with h|h
 ·have e1:s.enter b e=({s with now:=⟨b,0,e⟩,gq:=s.now::s.gq},0):=by rw[Ms.enter,if_neg (by omega)]
  rw[e1]
  exact⟨.inr (.inr ⟨h1,rfl,⟨0,k+r,h6,by show s.stack.length=_;omega,⟨k,r,h2,rfl,h4⟩⟩,h5,by show s.gq.length+1<=_;omega⟩),rfl,rfl,di _⟩
 ·have e1:s.enter b e=(s,7):=by rw[Ms.enter,if_pos h]
  rw[e1]
  exact⟨.inl ⟨by show (7:Int) ≠ 0;decide,h1⟩,rfl,rfl,du _⟩
theorem kj.drop {l:List Vl} (n:Nat) (h:kj c Z l):kj c Z (l.drop n):=lg.2 λv hv=>lg.1 h v (List.mem_of_mem_drop hv)
theorem kj.take {l:List Vl} (n:Nat) (h:kj c Z l):kj c Z (l.take n):=lg.2 λv hv=>lg.1 h v (List.mem_of_mem_take hv)
theorem kj.rev {l:List Vl} (h:kj c Z l):kj c Z l.reverse:=lg.2 λv hv=>lg.1 h v (List.mem_reverse.1 hv)
theorem kj.app {l m:List Vl} (h:kj c Z l) (k:kj c Z m):kj c Z (l++m):=lg.2 λv hv=>by
 rcases List.mem_append.1 hv with h1|h1
 ·exact lg.1 h v h1
 ·exact lg.1 k v h1
theorem kj.cons {v:Vl} {l:List Vl} (h:VOK c Z v) (k:kj c Z l):kj c Z (v::l):=by rw[kj];exact⟨h,k⟩
theorem kj.hd {v:Vl} {l:List Vl} (h:kj c Z (v::l)):VOK c Z v:=by rw[kj]at h;exact h.1
theorem kj.tl {v:Vl} {l:List Vl} (h:kj c Z (v::l)):kj c Z l:=by rw[kj]at h;exact h.2
theorem K9 {l:List Vl} {n:Nat} (h:l.length=n+1):∃v st,l=v::st/\st.length=n:=by
 match l,h with
 | v::st,h=>exact⟨v,st,rfl,by simpa using h⟩
theorem Pa (hC:Ei c Z) {s:Ms} (hG:Good c Z s) (hb:s.stack.length<=1000000):∃l x,c.bl[s.now.bk]? = some l/\l[s.now.at']? = some x/\x ∈ l/\Rdy c x s.adv/\Safe c Z {(s.adv.exec c x).1 with err:=(s.adv.exec c x).2} /\
  (s.adv.exec c x).1.steps=s.steps+1/\(s.adv.exec c x).1.stack.length<=s.stack.length+1/\(s.adv.exec c x).1.gq.length<=s.gq.length+1:=by
 obtain⟨k,r,⟨t,hA,hbr,he,hs,hb0,hb1,hb2,hve⟩,hkr,hR⟩:=hG.fr
 obtain⟨l,x,t1,h1,h2,hm,h3,h4,h5⟩:=hA.step
 obtain⟨hf,S,hr,hx⟩:=Af h3
 obtain⟨e1,e2,e3,e4,e5⟩:=Al hx
 rw[hbr]at hf
 have hform:0<=x.op/\x.op<=14/\0<=x.a/\0<=x.b/\x.op ≠ 6/\(x.op=5->xp x (l.drop (s.now.at'+1))=true)/\(x.op=1->x.a<c.bl.length)/\(x.op=7->x.a<c.gl.length):=by
  unfold lq at hf
  split at hf
  ·omega
  ·rename_i hi
   split at hf
   ·omega
   ·split at hf
    ·omega
    ·rename_i hmm
     simp only[qu,Bool.not_eq_false,dy,ei,decide_eq_true_eq,beq_iff_eq,bne_iff_ne]at hi
     obtain⟨⟨⟨⟨⟨⟨⟨⟨i1,i2⟩,i3⟩,i4⟩,_⟩,_⟩,_⟩,i5⟩,i6⟩:=hi
     refine⟨i1,i2,i3,i4,λh => ?_,λh => ?_,λh => ?_,λh => ?_⟩
     ·rw[h]at i5;simp at i5
     ·rcases i6 with i6|i6
      ·exact absurd h i6
      ·exact i6
     ·rcases Int.lt_or_le x.a c.bl.length with h'|h'
      ·exact h'
      ·exact absurd (by simp[ld,h,h']) hmm
     ·rcases Int.lt_or_le x.a c.gl.length with h'|h'
      ·exact h'
      ·exact absurd (by simp[ld,h,h']) hmm
 obtain⟨p1,p2,p3,p4,p5,p6,p7,p8⟩:=hform
 have nx:∀(e':List Vl) (k':Nat),x.op ≠ 3->x.op ≠ 5->jr x t.env=(e'.length:Nat)->t.stack-lk x+jq x=(k':Nat)->kj c Z e'->Hk c Z ⟨s.now.bk,s.now.at'+1,e'⟩ k':=by
  intro e' k' h6 h7 h8 h9 h10
  refine⟨t1,h5 h6,by rw[e5];show brI x t.br=0;rw[brI,if_neg h7,hbr];rfl,by rw[e5];exact h8,by rw[e5];exact h9, ?_, ?_, ?_,h10⟩
  ·rw[e5];show 0<=jr x t.binds
   unfold jr
   split
   ·omega
   ·split
    ·rename_i h;have:=e2 h;omega
    ·exact hb0
  ·rw[e5];show jr x t.binds<=jr x t.env
   unfold jr
   repeat' split
   all_goals omega
  ·rw[e5];show jr x t.env<=Z.getD s.now.bk 0+((s.now.at'+1:Nat):Int)
   unfold jr
   repeat' split
   all_goals omega
 have envS:x.op ≠ 9->x.op ≠ 10->jr x t.env=(s.now.env.length:Nat):=λh h'=>by rw[jr,if_neg h,if_neg h',he]
 have yy:∀(s':Ms) (k':Nat),s'.halted=false->s'.err=0->Hk c Z s'.now k'->s'.stack.length=k'+r->s'.gq=s.gq->kj c Z s'.stack->Safe c Z s':=λs' k' g1 g2 g3 g4 g5 g6=>.inr (.inr ⟨g1,g2,⟨k',r,g3,g4,by rw[g5];exact hR⟩,g6,by rw[g5];exact hG.cap⟩)
 have bad:∀(s':Ms),s'.halted=false->s'.err ≠ 0->Safe c Z s':=λs' g1 g2=>.inl ⟨g2,g1⟩
 have hst:=hG.st
 have hh:=hG.h
 refine⟨l,x,h1,h2,hm, ?_⟩
 have hops:x.op=0\/x.op=1\/x.op=2\/x.op=3\/x.op=4\/x.op=5\/x.op=7\/x.op=8\/x.op=9\/x.op=10\/x.op=11\/x.op=12\/x.op=13\/x.op=14:=by omega
 have mkR:∀(p:Rdy c x s.adv) (q:Safe c Z {(s.adv.exec c x).1 with err:=(s.adv.exec c x).2}/\(s.adv.exec c x).1.steps=s.steps+1/\(s.adv.exec c x).1.stack.length<=s.stack.length+1/\(s.adv.exec c x).1.gq.length<=s.gq.length+1),Rdy c x s.adv/\Safe c Z {(s.adv.exec c x).1 with err:=(s.adv.exec c x).2}/\(s.adv.exec c x).1.steps=s.steps+1/\(s.adv.exec c x).1.stack.length<=s.stack.length+1/\(s.adv.exec c x).1.gq.length<=s.gq.length+1:=λp q=>⟨p,q⟩
 have noR:∀{p:Prop} {n:Int},x.op=n -> ¬x.op=n->p:=λh h'=>absurd h h'
 rcases hops with h|h|h|h|h|h|h|h|h|h|h|h|h|h
 ·-- variable
  have hxa:x.a<t.env:=by
   unfold pd at hr
   rw[if_neg (by omega),if_neg (by omega)]at hr
   split at hr
   ·cases hr
   ·rename_i h'
    rcases Int.lt_or_le x.a t.env with h9|h9
    ·exact h9
    ·exact absurd ⟨h,h9⟩ h'
  have hlt:x.a.toNat<s.now.env.length:=by omega
  have hget:s.now.env[x.a.toNat]? = some s.now.env[x.a.toNat]:=aa hlt
  have hex:s.adv.exec c x=(s.adv.push s.now.env[x.a.toNat],0):=by rw[Ms.exec,if_pos h,Ms.variable];simp only[Ms.adv,hget]
  refine⟨⟨⟨by omega,by omega,by omega⟩,λ_=>⟨x.a.toNat,_,by omega,hget⟩,by omega,by omega,by omega,by omega,by omega,by omega,by omega⟩, ?_⟩
  rw[hex]
  refine⟨yy _ (k+1) hh rfl (nx _ _ (by omega) (by omega) (envS (by omega) (by omega)) ?_ hve) ?_ rfl (kj.cons (lg.1 hve _ (List.getElem_mem hlt)) hst),rfl,di _,du _⟩
  ·simp[lk,jq,h];omega
  ·show s.stack.length+1=_;omega
 ·-- closure
  have hcl:VOK c Z (.clo x.a s.now.env):=by
   unfold pd at hr
   rw[if_pos h]at hr
   obtain⟨g1,g2,g3⟩:=Ak hr
   have hZ:=hC.len
   have hxa:=p7 h
   have hSZ:LeS S Z:=by rw[e5]at h4;exact h4
   have hlen:x.a.toNat<t.S.length:=by
    have h1:S.length=Z.length:=hSZ.1
    rw[g2,List.length_set]at h1;omega
   have hS:S.getD x.a.toNat 0=t.env+1:=by rw[g2,cc,b9,if_pos rfl,if_pos hlen];rfl
   rw[VOK]
   refine⟨p3,by omega, ?_,hve⟩
   rw[hSZ.2 _ (by rw[hS];omega),hS,he]
  have hex:s.adv.exec c x=(s.adv.push (.clo x.a s.now.env),0):=by rw[Ms.exec,if_neg (by omega),if_pos h];rfl
  refine⟨⟨⟨by omega,by omega,by omega⟩,by omega,by omega,by omega,by omega,by omega,by omega,by omega,by omega⟩, ?_⟩
  rw[hex]
  refine⟨yy _ (k+1) hh rfl (nx _ _ (by omega) (by omega) (envS (by omega) (by omega)) ?_ hve) ?_ rfl (kj.cons hcl hst),rfl,di _,du _⟩
  ·simp[lk,jq,h];omega
  ·show s.stack.length+1=_;omega
 ·-- apply
  have hp:lk x=2:=by simp[lk,h]
  have hq:jq x=1:=by simp[jq,h]
  obtain⟨k2,hk2⟩:∃k2,k=k2+2:=⟨k-2,by omega⟩
  obtain⟨a,l1,q1,q2⟩:=K9 (l:=s.stack) (n:=k2+1+r) (by omega)
  obtain⟨f,st,q3,q4⟩:=K9 (l:=l1) (n:=k2+r) (by omega)
  subst q3
  rw[q1]at hst
  have ha:=hst.hd
  have hf':=hst.tl.hd
  have hst':=hst.tl.tl
  have hex:s.adv.exec c x=s.adv.apply:=by rw[Ms.exec,if_neg (by omega),if_neg (by omega),if_pos h]
  have hq1:s.adv.stack=a::f::st:=q1
  have hfr:Hk c Z s.adv.now (k2+1):=nx _ _ (by omega) (by omega) (envS (by omega) (by omega)) (by omega) hve
  refine⟨⟨⟨by omega,by omega,by omega⟩,by omega,λ_=>⟨a,f,st,q1,λn e he => ?_⟩,by omega,by omega,by omega,by omega,by omega,by omega⟩, ?_⟩
  ·subst he;rw[VOK]at hf';exact hf'.1
  rw[hex]
  cases f with
  | box=>
   have:s.adv.apply=({s.adv with stack:=.box::st},0):=by rw[Ms.apply,hq1]
   rw[this]
   exact⟨yy _ (k2+1) hh rfl hfr (by show st.length+1=_;omega) rfl (kj.cons (by rw[VOK];trivial) hst'),rfl,by show st.length+1<=_;omega,du _⟩
  | clo n e=>
   rw[VOK]at hf'
   obtain⟨c1,c2,c3,c4⟩:=hf'
   have:s.adv.apply=Ms.enter {s.adv with stack:=st} n.toNat (a::e):=by rw[Ms.apply,hq1]
   rw[this]
   obtain⟨w1,w2,w3,w4⟩:=zq (s:={s.adv with stack:=st}) (b:=n.toNat) (e:=a::e) (k:=k2) (r:=r) hh hfr q4 hR hst' (Ai hC c2 (by rw[c3];simp) (kj.cons ha c4))
   exact⟨w1,w2,by rw[w3];show st.length<=_;omega,w4⟩
  | ctor n nm p=>
   have:s.adv.apply=({s.adv with stack:=st},10):=by rw[Ms.apply,hq1]
   rw[this]
   exact⟨bad _ hh (by show (10:Int) ≠ 0;decide),rfl,by show st.length<=_;omega,du _⟩
  | pair y z=>
   have:s.adv.apply=({s.adv with stack:=st},10):=by rw[Ms.apply,hq1]
   rw[this]
   exact⟨bad _ hh (by show (10:Int) ≠ 0;decide),rfl,by show st.length<=_;omega,du _⟩
 ·-- leave
  have hex:s.adv.exec c x=s.adv.leave:=by rw[Ms.exec,if_neg (by omega),if_neg (by omega),if_neg (by omega),if_pos h]
  have hp:lk x=0:=by simp[lk,h]
  have hq:jq x=0:=by simp[jq,h]
  have hk1:k=1:=by have:=(e4 h).1;omega
  refine⟨⟨⟨by omega,by omega,by omega⟩,by omega,by omega,by omega,by omega,by omega,by omega,by omega,by omega⟩, ?_⟩
  rw[hex]
  cases hfr:s.gq with
  | nil=>
   have:s.adv.leave=({s.adv with halted:=true},0):=by rw[Ms.leave];simp only[Ms.adv,hfr]
   rw[this]
   refine⟨.inr (.inl ⟨rfl,rfl, ?_,hst⟩),rfl,du _,by show s.gq.length<=_;rw[hfr];exact du _⟩
   intro h0
   have h0:s.stack=[]:=h0
   rw[h0]at hkr;simp at hkr;omega
  | cons f fs=>
   have:s.adv.leave=({s.adv with now:=f,gq:=fs},0):=by rw[Ms.leave];simp only[Ms.adv,hfr]
   rw[this]
   rw[hfr]at hR
   obtain⟨k1,r',g1,g2,g3⟩:=hR
   have kh:=hG.cap
   rw[hfr]at kh
   simp only[ak]at kh
   exact⟨.inr (.inr ⟨hh,rfl,⟨k1+1,r',g1,by show s.stack.length=_;omega,g3⟩,hst,by show fs.length<=_;omega⟩),rfl,du _,by show fs.length<=_;simp only[ak];omega⟩
 ·-- construct
  have hp:lk x=x.b:=by simp[lk,h]
  have hq:jq x=1:=by simp[jq,h]
  obtain⟨n,hn⟩:∃n:Nat,x.b=(n:Nat):=⟨x.b.toNat,by omega⟩
  have hnl:n<=s.stack.length:=by omega
  have hex:s.adv.exec c x=({s.adv with stack:=.ctor x.a x.n (s.stack.take x.b.toNat).reverse::s.stack.drop x.b.toNat},0):=by rw[Ms.exec,if_neg (by omega),if_neg (by omega),if_neg (by omega),if_neg (by omega),if_pos h];rfl
  refine⟨⟨⟨by omega,by omega,by omega⟩,by omega,by omega,λ_=>⟨n,hn,hnl⟩,by omega,by omega,by omega,by omega,by omega⟩, ?_⟩
  rw[hex,hn,ew]
  refine⟨yy _ (k-n+1) hh rfl (nx _ _ (by omega) (by omega) (envS (by omega) (by omega)) (by omega) hve) ?_ rfl (kj.cons ?_ (hst.drop n)),rfl, ?_,du _⟩
  ·show (s.stack.drop n).length+1=_;rw[b8];omega
  ·rw[VOK];exact⟨p3,by rw[List.length_reverse,b7];omega,(hst.take n).rev⟩
  ·show (s.stack.drop n).length+1<=_;rw[b8];omega
 ·-- choose
  have hp:lk x=1:=by simp[lk,h]
  have hq:jq x=1:=by simp[jq,h]
  obtain⟨n,hn⟩:∃n:Nat,x.a=(n:Nat):=⟨x.a.toNat,by omega⟩
  have hbr1:t1.br=(n:Nat):=by rw[e5];show brI x t.br=_;rw[brI,if_pos h,hn]
  have henv1:t1.env=(s.now.env.length:Nat):=by rw[e5];exact envS (by omega) (by omega)
  have hstk1:t1.stack=(k:Nat):=by rw[e5];show t.stack-lk x+jq x=_;omega
  have hbnd1:t1.binds=t.binds:=by rw[e5];show jr x t.binds=_;rw[jr,if_neg (by omega),if_neg (by omega)]
  obtain⟨l',t2,g1,g2,g3,g4,g5,g6,g7,g8⟩:=I8.skip hC.len n (h5 (by omega)) hbr1 (by omega)
  rw[h1]at g1;cases g1
  obtain⟨k1,hk1⟩:∃k1,k=k1+1:=⟨k-1,by omega⟩
  obtain⟨v,st,q1,q2⟩:=K9 (l:=s.stack) (n:=k1+r) (by omega)
  rw[q1]at hst
  have hv:=hst.hd
  have hst':=hst.tl
  have hbrs:c.brs s.adv.now n=((l.drop (s.now.at'+1)).take n):=by
   rw[Cd.brs,Cd.blk,cc]
   show (((c.bl[s.now.bk]?).getD []).drop (s.now.at'+1)).take n=_
   rw[h1];rfl
  have hbg:∀j y,(c.brs s.adv.now n)[j]? = some y->j<n/\l[s.now.at'+1+j]? = some y:=λj y hy=>by
   rw[hbrs]at hy
   have hl:=(List.getElem?_eq_some_iff.1 hy).1
   rw[b7]at hl
   rw[bc,if_pos (by omega),ba]at hy
   exact⟨by omega,hy⟩
  have hex:s.adv.exec c x=s.adv.choose c n:=by rw[Ms.exec,if_neg (by omega),if_neg (by omega),if_neg (by omega),if_neg (by omega),if_neg (by omega),if_pos h,hn,ew]
  have hq1:s.adv.stack=v::st:=q1
  refine⟨⟨⟨by omega,by omega,by omega⟩,by omega,by omega,by omega,λ_=>⟨n,v,st,l,hn,q1,h1,by show s.now.at'+1+n<=_;omega,λkk nm p e => ?_,λy hy => ?_⟩,by omega,by omega,by omega,by omega⟩, ?_⟩
  ·subst e;rw[VOK]at hv;exact⟨hv.1,hv.2.1⟩
  ·obtain⟨j,hj⟩:=c8 hy
   obtain⟨j1,j2⟩:=hbg j y hj
   obtain⟨y',y1,_,y3,_⟩:=g8 j j1
   rw[j2]at y1;cases y1;exact y3
  rw[hex]
  have stuck:s.adv.choose c n=({s.adv with stack:=st},10)->Safe c Z {(s.adv.choose c n).1 with err:=(s.adv.choose c n).2}/\(s.adv.choose c n).1.steps=s.steps+1/\(s.adv.choose c n).1.stack.length<=s.stack.length+1/\(s.adv.choose c n).1.gq.length<=s.gq.length+1:=λe=>by
   rw[e]
   exact⟨bad _ hh (by show (10:Int) ≠ 0;decide),rfl,by show st.length<=_;omega,du _⟩
  cases v with
  | ctor kk nm p=>
   rw[VOK]at hv
   obtain⟨v1,v2,v3⟩:=hv
   cases hy:(c.brs s.adv.now n)[kk.toNat]? with
   | none=>exact stuck (by rw[Ms.choose,hq1];simp only[hy])
   | some y=>
    by_cases hyb:y.b=(p.length:Nat)
    ·have:s.adv.choose c n=Ms.enter {s.adv with stack:=st,now:={s.adv.now with at':=s.adv.now.at'+n}} y.a.toNat (p.reverse++s.adv.now.env):=by
      rw[Ms.choose,hq1];simp only[hy];rw[if_pos hyb]
     rw[this]
     obtain⟨j1,j2⟩:=hbg _ y hy
     obtain⟨y',y1,y2,y3,y4,y5,y6,y7⟩:=g8 _ j1
     rw[j2]at y1;cases y1
     obtain⟨w1,w2,w3,w4⟩:=zq (c:=c) (Z:=Z) (s:={s.adv with stack:=st,now:={s.adv.now with at':=s.adv.now.at'+n}}) (b:=y.a.toNat) (e:=p.reverse++s.adv.now.env) (k:=k1) (r:=r) hh
      ⟨t2,g3,g4,by rw[g5];exact henv1,by rw[g6,hstk1,hk1],by rw[g7,hbnd1];exact hb0,by rw[g7,g5,hbnd1,henv1];omega,by rw[g5,henv1];show ((s.now.env.length:Nat):Int)<=Z.getD s.now.bk 0+((s.now.at'+1+n:Nat):Int);omega,hve⟩
      q2 hR hst' (Ai hC y4 (by rw[y7,henv1,hyb];simp only[ah,List.length_reverse];show _=(((p.length+s.now.env.length:Nat)):Int);omega) (v3.rev.app hve))
     exact⟨w1,w2,by rw[w3];show st.length<=_;omega,w4⟩
    ·exact stuck (by rw[Ms.choose,hq1];simp only[hy];rw[if_neg hyb])
  | _=>exact stuck (by rw[Ms.choose,hq1])
 ·-- global
  have hp:lk x=0:=by simp[lk,h]
  have hq:jq x=1:=by simp[jq,h]
  obtain⟨n,hn⟩:∃n:Nat,x.a=(n:Nat):=⟨x.a.toNat,by omega⟩
  obtain⟨b,hb1',hb2',hb3'⟩:=hC.st n (by have:=p8 h;omega)
  have hex:s.adv.exec c x=s.adv.enter b []:=by
   rw[Ms.exec,if_neg (by omega),if_neg (by omega),if_neg (by omega),if_neg (by omega),if_neg (by omega),if_neg (by omega),if_pos h,hn,ew,cc,hb1'];rfl
  refine⟨⟨⟨by omega,by omega,by omega⟩,by omega,by omega,by omega,by omega,λ_=>⟨n,b,hn,hb1'⟩,by omega,by omega,by omega⟩, ?_⟩
  rw[hex]
  obtain⟨w1,w2,w3,w4⟩:=zq (c:=c) (Z:=Z) (s:=s.adv) (b:=b) (e:=[]) (k:=k) (r:=r) hh (nx _ _ (by omega) (by omega) (envS (by omega) (by omega)) (by omega) hve) hkr hR hst (Ai hC hb2' (by rw[hb3'];rfl) (by rw[kj];trivial))
  exact⟨w1,w2,by rw[w3];exact du _,w4⟩
 ·-- box
  have hex:s.adv.exec c x=(s.adv.push .box,0):=by rw[Ms.exec,if_neg (by omega),if_neg (by omega),if_neg (by omega),if_neg (by omega),if_neg (by omega),if_neg (by omega),if_neg (by omega),if_pos h]
  refine⟨⟨⟨by omega,by omega,by omega⟩,by omega,by omega,by omega,by omega,by omega,by omega,by omega,by omega⟩, ?_⟩
  rw[hex]
  refine⟨yy _ (k+1) hh rfl (nx _ _ (by omega) (by omega) (envS (by omega) (by omega)) ?_ hve) ?_ rfl (kj.cons (by rw[VOK];trivial) hst),rfl,di _,du _⟩
  ·simp[lk,jq,h];omega
  ·show s.stack.length+1=_;omega
 ·-- bind
  have hp:lk x=1:=by simp[lk,h]
  have hq:jq x=0:=by simp[jq,h]
  obtain⟨k1,hk1⟩:∃k1,k=k1+1:=⟨k-1,by omega⟩
  obtain⟨v,st,q1,q2⟩:=K9 (l:=s.stack) (n:=k1+r) (by omega)
  rw[q1]at hst
  have hex:s.adv.exec c x=({s.adv with stack:=st,now:={s.adv.now with env:=v::s.adv.now.env}},0):=by
   rw[Ms.exec,if_neg (by omega),if_neg (by omega),if_neg (by omega),if_neg (by omega),if_neg (by omega),if_neg (by omega),if_neg (by omega),if_neg (by omega),if_pos h,Ms.bind]
   simp only[Ms.adv,q1]
  refine⟨⟨⟨by omega,by omega,by omega⟩,by omega,by omega,by omega,by omega,by omega,λ_=>⟨v,st,q1⟩,by omega,by omega⟩, ?_⟩
  rw[hex]
  refine⟨yy _ k1 hh rfl (nx (v::s.now.env) _ (by omega) (by omega) ?_ (by omega) (kj.cons hst.hd hve)) q2 rfl hst.tl,rfl,by show st.length<=_;omega,du _⟩
  rw[jr,if_pos h,he];simp
 ·-- unbind
  have hp:lk x=0:=by simp[lk,h]
  have hq:jq x=0:=by simp[jq,h]
  have hb':=e2 h
  obtain⟨v,e,q1,q2⟩:=K9 (l:=s.now.env) (n:=s.now.env.length-1) (by omega)
  rw[q1]at hve
  have hex:s.adv.exec c x=({s.adv with now:={s.adv.now with env:=e}},0):=by
   rw[Ms.exec,if_neg (by omega),if_neg (by omega),if_neg (by omega),if_neg (by omega),if_neg (by omega),if_neg (by omega),if_neg (by omega),if_neg (by omega),if_neg (by omega),if_pos h]
   simp only[Ms.adv,q1,List.tail_cons]
  refine⟨⟨⟨by omega,by omega,by omega⟩,by omega,by omega,by omega,by omega,by omega,by omega,λ_=>⟨v,e,q1⟩,by omega⟩, ?_⟩
  rw[hex]
  refine⟨yy _ k hh rfl (nx e _ (by omega) (by omega) ?_ (by omega) hve.tl) hkr rfl hst,rfl,du _,du _⟩
  rw[jr,if_neg (by omega),if_pos h,he,q2];omega
 ·-- pair
  have hp:lk x=2:=by simp[lk,h]
  have hq:jq x=1:=by simp[jq,h]
  obtain⟨k2,hk2⟩:∃k2,k=k2+2:=⟨k-2,by omega⟩
  obtain⟨b,l1,q1,q2⟩:=K9 (l:=s.stack) (n:=k2+1+r) (by omega)
  obtain⟨a,st,q3,q4⟩:=K9 (l:=l1) (n:=k2+r) (by omega)
  subst q3
  rw[q1]at hst
  have hex:s.adv.exec c x=({s.adv with stack:=.pair a b::st},0):=by
   rw[Ms.exec,if_neg (by omega),if_neg (by omega),if_neg (by omega),if_neg (by omega),if_neg (by omega),if_neg (by omega),if_neg (by omega),if_neg (by omega),if_neg (by omega),if_neg (by omega),if_pos h,Ms.pair]
   simp only[Ms.adv,q1]
  refine⟨⟨⟨by omega,by omega,by omega⟩,by omega,by omega,by omega,by omega,by omega,by omega,by omega,λ_=>⟨b,a,st,q1⟩⟩, ?_⟩
  rw[hex]
  exact⟨yy _ (k2+1) hh rfl (nx _ _ (by omega) (by omega) (envS (by omega) (by omega)) (by omega) hve) (by show st.length+1=_;omega) rfl (kj.cons (by rw[VOK];exact⟨hst.tl.hd,hst.hd⟩) hst.tl.tl),rfl,by show st.length+1<=_;omega,du _⟩
 iterate 2
  ·-- first, second
   have hp:lk x=1:=by simp[lk,h]
   have hq:jq x=1:=by simp[jq,h]
   obtain⟨k1,hk1⟩:∃k1,k=k1+1:=⟨k-1,by omega⟩
   obtain⟨v,st,q1,q2⟩:=K9 (l:=s.stack) (n:=k1+r) (by omega)
   rw[q1]at hst
   obtain⟨bb,hex⟩:∃bb,s.adv.exec c x=s.adv.part bb:=by
    rw[Ms.exec,if_neg (by omega),if_neg (by omega),if_neg (by omega),if_neg (by omega),if_neg (by omega),if_neg (by omega),if_neg (by omega),if_neg (by omega),if_neg (by omega),if_neg (by omega),if_neg (by omega)]
    first
     | (rw[if_pos h];exact⟨_,rfl⟩)
     | (rw[if_neg (by omega),if_pos h];exact⟨_,rfl⟩)
   have hq1:s.adv.stack=v::st:=q1
   refine⟨⟨⟨by omega,by omega,by omega⟩,by omega,by omega,by omega,by omega,by omega,λ_=>⟨v,st,q1⟩,by omega,by omega⟩, ?_⟩
   rw[hex]
   have hfr:Hk c Z s.adv.now (k1+1):=nx _ _ (by omega) (by omega) (envS (by omega) (by omega)) (by omega) hve
   cases v with
   | box=>
    have:s.adv.part bb=(s.adv,0):=by rw[Ms.part,hq1]
    rw[this]
    exact⟨yy _ (k1+1) hh rfl hfr (by show s.stack.length=_;omega) rfl (by show kj c Z s.stack;rw[q1];exact hst),rfl,du _,du _⟩
   | pair y z=>
    have:s.adv.part bb=({s.adv with stack:=(if bb then z else y)::st},0):=by rw[Ms.part,hq1]
    rw[this]
    have hv:=hst.hd
    rw[VOK]at hv
    refine⟨yy _ (k1+1) hh rfl hfr (by show st.length+1=_;omega) rfl (kj.cons ?_ hst.tl),rfl,by show st.length+1<=_;omega,du _⟩
    cases bb
    ·exact hv.1
    ·exact hv.2
   | clo n e=>
    have:s.adv.part bb=({s.adv with stack:=st},10):=by rw[Ms.part,hq1]
    rw[this]
    exact⟨bad _ hh (by show (10:Int) ≠ 0;decide),rfl,by show st.length<=_;omega,du _⟩
   | ctor n nm p=>
    have:s.adv.part bb=({s.adv with stack:=st},10):=by rw[Ms.part,hq1]
    rw[this]
    exact⟨bad _ hh (by show (10:Int) ≠ 0;decide),rfl,by show st.length<=_;omega,du _⟩
 ·-- abort
  have hex:s.adv.exec c x=(s.adv,30):=by
   rw[Ms.exec,if_neg (by omega),if_neg (by omega),if_neg (by omega),if_neg (by omega),if_neg (by omega),if_neg (by omega),if_neg (by omega),if_neg (by omega),if_neg (by omega),if_neg (by omega),if_neg (by omega),if_neg (by omega),if_neg (by omega),if_pos h]
  refine⟨⟨⟨by omega,by omega,by omega⟩,by omega,by omega,by omega,by omega,by omega,by omega,by omega,by omega⟩, ?_⟩
  rw[hex]
  exact⟨bad _ hh (by show (30:Int) ≠ 0;decide),rfl,du _,du _⟩
end
end Go.Proofs.Eng
namespace Go.Proofs.Eng
open Go Go.Proofs
set_option maxRecDepth 100000
section
variable {c:Cd} {Z:List Int}
def Ms.step (c:Cd) (s:Ms):Ms:=match (c.blk s.now.bk)[s.now.at']? with
 | some x=>{(s.adv.exec c x).1 with err:=(s.adv.exec c x).2}
 | none=>s
def Ms.go (s:Ms):Bool := !s.halted&&s.err==0
def Ms.run (c:Cd):Nat->Ms->Ms
 | 0,s=>s
 | n+1,s=>if s.go=true then Ms.run c n (s.step c)else s
theorem It {s:Ms} (h:s.go=false):∀n:Nat,s.run c n=s
 | 0=>rfl
 | n+1=>by rw[Ms.run,if_neg (by rw[h];simp)]
theorem Good.go {s:Ms} (h:Good c Z s):s.go=true:=by rw[Ms.go,h.h,h.e];rfl
theorem Safe.yy {s:Ms} (h:Safe c Z s) (hg:s.go=true):Good c Z s:=by
 rcases h with⟨h1,h2⟩|⟨h1,h2,_⟩|h
 ·rw[Ms.go]at hg;simp at hg;exact absurd hg.2 h1
 ·rw[Ms.go,h2]at hg;simp at hg
 ·exact h
theorem a4w {l:List Ins} {n:Nat} (h:c.bl[n]? = some l):c.blk n=l:=by rw[Cd.blk,cc,h];rfl
theorem He (hC:Ei c Z) {s:Ms} (hG:Good c Z s) (hb:s.stack.length<=1000000):∃l x,c.bl[s.now.bk]? = some l/\l[s.now.at']? = some x/\x ∈ l/\Rdy c x s.adv/\s.step c = {(s.adv.exec c x).1 with err:=(s.adv.exec c x).2} /\
  Safe c Z (s.step c)/\(s.step c).steps=s.steps+1/\(s.step c).stack.length<=s.stack.length+1/\(s.step c).gq.length<=s.gq.length+1:=by
 obtain⟨l,x,h1,h2,h3,h4,h5,h6,h7,h8⟩:=Pa hC hG hb
 have e:s.step c = {(s.adv.exec c x).1 with err:=(s.adv.exec c x).2}:=by rw[Ms.step,a4w h1,h2]
 refine⟨l,x,h1,h2,h3,h4,e, ?_⟩
 rw[e]
 exact⟨h5,h6,h7,h8⟩
theorem Jf (hC:Ei c Z):∀(n:Nat) {s:Ms},Safe c Z s->s.stack.length+n<=1000000->Safe c Z (s.run c n)/\(s.run c n).steps<=s.steps+n/\((s.run c n).go=true->(s.run c n).steps=s.steps+n)/\(s.run c n).stack.length<=s.stack.length+n
 | 0,s,h,_=>⟨h,di _,λ_=>rfl,di _⟩
 | n+1,s,h,hb=>by
  rw[Ms.run]
  split
  ·rename_i hg
   obtain⟨_,_,_,_,_,_,_,h1,h2,h3,_⟩:=He hC (h.yy hg) (by omega)
   obtain⟨k1,k2,k3,k4⟩:=Jf hC n h1 (by omega)
   exact⟨k1,by omega,λh=>by have:=k3 h;omega,by omega⟩
  ·rename_i hg
   exact⟨h,by omega,λh=>absurd h hg,by omega⟩
def Ms.start:Ms:=⟨⟨0,0,[]⟩,[],[],0,false,0⟩
theorem Ee (hC:Ei c Z):Safe c Z Ms.start:=
 .inr (.inr ⟨rfl,rfl,⟨0,0,Ai hC hC.pos hC.zero (by rw[kj];trivial),rfl,rfl⟩,by rw[Ms.start,kj];trivial,dk _⟩)
end
end Go.Proofs.Eng
namespace Go.Proofs.Eng
open Go Go.Proofs
set_option maxRecDepth 100000
set_option maxHeartbeats 16000000
section
variable {Z:List Int} {F:Fz} {H:List fq} {V:List Nat} {m:Nat} {sa fa:AV} {c:Cd} {s:Ms} {x:Ins}
theorem a2l (hC:Ei c Z) (hc:∀l ∈ c.bl,l.length<=1000000) (hst:s.stack.length<=1000000) (hfr:s.gq.length<=1000000) (hR:Rdy c x s) (hv:∀n:Nat,x.op=0->x.a=(n:Nat)->n<=1000000):Op (42+x.op.toNat) x s (s.exec c x) F H V m sa fa c:=by
 obtain⟨o1,o2,o3⟩:=hR.op
 have hops:x.op=0\/x.op=1\/x.op=2\/x.op=3\/x.op=4\/x.op=5\/x.op=7\/x.op=8\/x.op=9\/x.op=10\/x.op=11\/x.op=12\/x.op=13\/x.op=14:=by omega
 rcases hops with h|h|h|h|h|h|h|h|h|h|h|h|h|h
 ·obtain⟨n,v,ha,hn⟩:=hR.o0 h
  have e:s.exec c x=(s.push v,0):=by rw[Ms.exec,if_pos h,ha,ew,Ms.variable,hn]
  rw[e,h];exact Js ha hn hst (hv n h ha)
 ·have e:s.exec c x=(s.push (.clo x.a s.now.env),0):=by rw[Ms.exec,if_neg (by omega),if_pos h]
  rw[e,h];exact Mv hst
 ·obtain⟨a,f,st,hs,hcl⟩:=hR.o2 h
  have e:s.exec c x=s.apply:=by rw[Ms.exec,if_neg (by omega),if_neg (by omega),if_pos h]
  rw[e,h];exact S8 hs hst hfr hcl
 ·have e:s.exec c x=s.leave:=by rw[Ms.exec,if_neg (by omega),if_neg (by omega),if_neg (by omega),if_pos h]
  rw[e,h];exact Tx hfr
 ·obtain⟨n,hx,hn⟩:=hR.o4 h
  have e:s.exec c x=({s with stack:=.ctor x.a x.n (s.stack.take n).reverse::s.stack.drop n},0):=by rw[Ms.exec,if_neg (by omega),if_neg (by omega),if_neg (by omega),if_neg (by omega),if_pos h,hx,ew]
  rw[e,h];exact Hx hx hn hst
 ·obtain⟨n,v,st,l,hx,hs,hl,hat,hk,hy⟩:=hR.o5 h
  have e:s.exec c x=s.choose c n:=by rw[Ms.exec,if_neg (by omega),if_neg (by omega),if_neg (by omega),if_neg (by omega),if_neg (by omega),if_pos h,hx,ew]
  rw[e,h];exact Qn hx hs hst hfr hl hat (by have:=hc l (aq hl);omega) hk hy
 ·obtain⟨n,b,hx,hs⟩:=hR.o7 h
  have e:s.exec c x=s.enter b []:=by
   rw[Ms.exec,if_neg (by omega),if_neg (by omega),if_neg (by omega),if_neg (by omega),if_neg (by omega),if_neg (by omega),if_pos h,hx,ew,cc,hs,Option.getD_some,ew]
  rw[e,h];exact Pc hx hs hfr
 ·have e:s.exec c x=(s.push .box,0):=by rw[Ms.exec,if_neg (by omega),if_neg (by omega),if_neg (by omega),if_neg (by omega),if_neg (by omega),if_neg (by omega),if_neg (by omega),if_pos h]
  rw[e,h];exact a3q hst
 ·obtain⟨v,st,hs⟩:=hR.o9 (.inl h)
  have e:s.exec c x=s.bind:=by rw[Ms.exec,if_neg (by omega),if_neg (by omega),if_neg (by omega),if_neg (by omega),if_neg (by omega),if_neg (by omega),if_neg (by omega),if_neg (by omega),if_pos h]
  rw[e,h];exact a01 hs hst
 ·obtain⟨v,st,hs⟩:=hR.o10 h
  have e:s.exec c x=({s with now:={s.now with env:=st}},0):=by rw[Ms.exec,if_neg (by omega),if_neg (by omega),if_neg (by omega),if_neg (by omega),if_neg (by omega),if_neg (by omega),if_neg (by omega),if_neg (by omega),if_neg (by omega),if_pos h,hs];rfl
  rw[e,h];exact Qi hs
 ·obtain⟨b,a,st,hs⟩:=hR.o11 h
  have e:s.exec c x=s.pair:=by rw[Ms.exec,if_neg (by omega),if_neg (by omega),if_neg (by omega),if_neg (by omega),if_neg (by omega),if_neg (by omega),if_neg (by omega),if_neg (by omega),if_neg (by omega),if_neg (by omega),if_pos h]
  rw[e,h];exact Zy hs hst
 ·obtain⟨v,st,hs⟩:=hR.o9 (.inr (.inl h))
  have e:s.exec c x=s.part false:=by rw[Ms.exec,if_neg (by omega),if_neg (by omega),if_neg (by omega),if_neg (by omega),if_neg (by omega),if_neg (by omega),if_neg (by omega),if_neg (by omega),if_neg (by omega),if_neg (by omega),if_neg (by omega),if_pos h]
  rw[e,h];exact Tz hs hst
 ·obtain⟨v,st,hs⟩:=hR.o9 (.inr (.inr h))
  have e:s.exec c x=s.part true:=by rw[Ms.exec,if_neg (by omega),if_neg (by omega),if_neg (by omega),if_neg (by omega),if_neg (by omega),if_neg (by omega),if_neg (by omega),if_neg (by omega),if_neg (by omega),if_neg (by omega),if_neg (by omega),if_neg (by omega),if_pos h]
  rw[e,h];exact Ot hs hst
 ·have e:s.exec c x=(s,30):=by rw[Ms.exec,if_neg (by omega),if_neg (by omega),if_neg (by omega),if_neg (by omega),if_neg (by omega),if_neg (by omega),if_neg (by omega),if_neg (by omega),if_neg (by omega),if_neg (by omega),if_neg (by omega),if_neg (by omega),if_neg (by omega),if_pos h]
  rw[e,h];exact Ut
theorem Tw (hC:Ei c Z) (hsz:c.bd c.bl.length<=400000) (hG:Good c Z s):s.now.env.length<=1000000:=by
 obtain⟨k,r,⟨t,⟨l,h1,h2,_⟩,_,he,_,_,_,hz,_⟩,_⟩:=hG.fr
 have hlt:=(List.getElem?_eq_some_iff.1 h1).1
 have h3:Z.getD s.now.bk 0<=c.bd c.bl.length:=by
  rcases Int.lt_or_le (Z.getD s.now.bk 0) 0 with h|h
  ·have:0<=c.bd c.bl.length:=fc _
   omega
  ·exact Int.le_trans (hC.bd _ h) (yi c (by omega))
 have h4:(l.length:Int)<=c.bd c.bl.length:=by
  have h5:=Hj h1
  have h6:0<=c.bd s.now.bk:=fc _
  have h7:=yi c (show s.now.bk+1<=c.bl.length by omega)
  omega
 omega
theorem De (hsz:c.bd c.bl.length<=400000) {l:List Ins} (h:l ∈ c.bl):l.length<=400000:=by
 obtain⟨i,hi⟩:=c8 h
 have hlt:=(List.getElem?_eq_some_iff.1 hi).1
 have h5:=Hj hi
 have h6:0<=c.bd i:=fc _
 have h7:=yi c (show i+1<=c.bl.length by omega)
 omega
theorem X7 (hC:Ei c Z) (hsz:c.bd c.bl.length<=400000) (k:Nat) (hM:MR F H m sa fa c s) (hF:Fro F H) (hS:Safe c Z s) (hk:s.stack.length+k<=900000) (hst:s.steps+k<=1000000000) :
  Mw 15 [.ptr m 0,.int (k:Nat)] F H V m sa fa c λv _ s'=>s'=s.run c k/\v = .tup [.bool (s'.halted&&s'.err==0),.int s'.err]:=by
 refine ju pf15_is (dh rfl) ?_
 have hd0:decide (((k:Nat):Int)<0)=false:=by simp
 simp only[pf15,↓fm,wall,simprocAttr,wH,fw,fj,hd0]
 refine j7 (λj=>j) (λj E H' V'=>∃F' s' sa' fa',E 0 = .ptr m 0/\E 1 = .int (j:Nat)/\MR F' H' m sa' fa' c s'/\Fro F' H'/\Nx F H (Own m sa fa) F' H' (Own m sa' fa')/\Safe c Z s'/\s'.run c j=s.run c k/\s'.stack.length+j<=900000/\s'.steps+j<=1000000000) ?_ k
  ⟨F,s,sa,fa,rfl,rfl,hM,hF,.refl _ _ _,hS,rfl,hk,hst⟩
 rintro j E H' V' ⟨F',s',sa',fa',e0,e1,hM',hF',hN,hS',hr,hk',hst'⟩
 obtain⟨Bl,tb,t2,t3,ea,b1,b2,b3⟩:=hM'.m6
 have hml:=fu b1
 have b1':=b1
 simp only[mcs]at b1
 have done:∀{v:AV},s'=s.run c k->v = .tup [.bool (s'.halted&&s'.err==0),.int s'.err]->MQ F H m sa fa c (λv _ s'=>s'=s.run c k/\v = .tup [.bool (s'.halted&&s'.err==0),.int s'.err]) v ⟨H',V'⟩:=λe ev=>⟨F',sa',fa',s',⟨e,ev⟩,hM',hF',hN⟩
 cases hd:decide (((j:Nat):Int)>0)
 ·have h0:j=0:=by simp at hd;omega
  subst h0
  have hr':s'=s.run c k:=by rw[<- hr,Ms.run]
  cases hh:s'.halted<;>cases he:(s'.err==0)
  all_goals
   rw[hh]at b1
   simp only[↓fm,wall,simprocAttr,wH,e0,e1,hd,fw,fj,b1,he]
   exact done hr' (by rw[hh,he];rfl)
 have hj:0<j:=by simp at hd;omega
 cases hg:s'.go
 ·have hr':s'=s.run c k:=by rw[<- hr,It hg]
  cases hh:s'.halted
  ·have he:(s'.err==0)=false:=by rw[Ms.go,hh]at hg;simpa using hg
   rw[hh]at b1
   simp only[↓fm,wall,simprocAttr,wH,e0,e1,hd,fw,fj,b1,he]
   exact done hr' (by rw[hh,he];rfl)
  ·cases he:(s'.err==0)
   all_goals
    rw[hh]at b1
    simp only[↓fm,wall,simprocAttr,wH,e0,e1,hd,fw,fj,b1,he]
    exact done hr' (by rw[hh,he];rfl)
 have hh:s'.halted=false:=by rw[Ms.go]at hg;simp at hg;exact hg.1
 have he:(s'.err==0)=true:=by rw[Ms.go]at hg;simp at hg;simp[hg.2]
 obtain⟨l,x,x1,x2,x3,hR,hst1,hS1,st1,st2,st3⟩:=He hC (hS'.yy hg) (by omega)
 have hll:=De hsz (aq x1)
 obtain⟨_,ab,bl1,_,_,bl2,⟨tl,rfl⟩⟩:=b2.at (i:=s'.now.bk) (by rw[b2.len];exact(List.getElem?_eq_some_iff.1 x1).1)
 rw[x1]at bl1;cases bl1
 have hBa:(Bl.all λx=>x.cells.length==1)=true:=aw.2 λy hy=>by
  obtain⟨q,hq⟩:=List.mem_iff_getElem?.1 hy
  obtain⟨b,a,_,_,_,e4,⟨t,rfl⟩⟩:=b2.at (i:=q) (List.getElem?_eq_some_iff.1 hq).1
  rw[hq]at e4;cases e4;rfl
 have hxl:=(List.getElem?_eq_some_iff.1 x2).1
 have hxa:=Az x2
 have hi1:((s'.now.at':Nat):Int)<((jf l).length:Nat):=by rw[gj];omega
 have h4:=v7 l
 have hgx:=λG:List fq=>(gal (G:=G) hml).trans b1'
 simp only[mcs]at hgx
 rw[hh]at b1 hgx
 simp only[Ins.av]at hxa
 obtain⟨X,hX⟩:∃X,X=fq.cells false [.int x.op,.int x.a,.int x.b,.str x.n]:=⟨_,rfl⟩
 obtain⟨n1,n2,n3⟩:=hM'.more hF' [X]
 have hml2:m<(H'++[X]).length:=by simp;omega
 have hw1:IntKind.i64.wrap ((s'.now.at':Int)+1)=((s'.now.at'+1:Nat):Int):=(gw (by unfold jn;omega)).trans (by omega)
 have hw2:IntKind.i64.wrap ((s'.steps:Int)+1)=((s'.steps+1:Nat):Int):=(gw (by unfold jn;omega)).trans (by omega)
 have hw3:IntKind.i64.wrap ((j:Int)-1)=((j-1:Nat):Int):=(gw (by unfold jn;omega)).trans (by omega)
 obtain⟨k1,k2,k3⟩:=n1.upd n2 (s':=s'.adv) ⟨Bl,tb,t2,t3,ea,gse hml2,b2,b3⟩ (n1.st.jb λb e=>gsn (n1.d1 b e).1) (n1.fr.jb λb e=>gsn (n1.d2 b e)) (λk _ hn=>gsn λe=>hn (.inl e)) (by simp) (λk h=>.inl h) n1.d1 n1.d2
 have kh:s'.gq.length<=1000000:=by have:=(hS'.yy hg).cap;omega
 have henv:=Tw hC hsz (hS'.yy hg)
 have hop:=a2l (V:=V') hC (λl hl=>by have:=De hsz hl;omega) (s:=s'.adv) (by show s'.stack.length<=_;omega) kh hR (λn ho hn=>by
  obtain⟨n',v,h1,h2⟩:=hR.o0 ho
  have h3:=(List.getElem?_eq_some_iff.1 h2).1
  have h4:s'.adv.now.env.length=s'.now.env.length:=rfl
  omega) k1 k2
 obtain⟨R,hRe⟩:∃R,R=s'.adv.exec c x:=⟨_,rfl⟩
 rw[<- hRe]at hop hst1
 obtain⟨o1,o2,o3⟩:=hR.op
 have hmd:md (42+x.op.toNat) = .raw:=by
  have hops:x.op=0\/x.op=1\/x.op=2\/x.op=3\/x.op=4\/x.op=5\/x.op=7\/x.op=8\/x.op=9\/x.op=10\/x.op=11\/x.op=12\/x.op=13\/x.op=14:=by omega
  rcases hops with h|h|h|h|h|h|h|h|h|h|h|h|h|h<;>rw[h]<;>rfl
 have hlk:((mcs Bl tb t2 t3 c (s'.now.bk:Nat) ((s'.now.at'+1:Nat):Int) ea sa' fa' ((s'.steps+1:Nat):Int) false s'.err m).drop (11+x.op.toNat*1)).head? = some (.bm (42+x.op.toNat) [.ptr m 0]):=by
  have hops:x.op=0\/x.op=1\/x.op=2\/x.op=3\/x.op=4\/x.op=5\/x.op=7\/x.op=8\/x.op=9\/x.op=10\/x.op=11\/x.op=12\/x.op=13\/x.op=14:=by omega
  rcases hops with h|h|h|h|h|h|h|h|h|h|h|h|h|h<;>rw[h]<;>rfl
 obtain⟨r,⟨H3,V3⟩,⟨F3,sa3,fa3,s3,⟨hs3,rfl⟩,p1,p2,p3⟩,cp⟩:=hop.call hmd
 obtain⟨Bl3,tb3,t23,t33,ea3,c1,c2,c3⟩:=p1.m6
 have hml3:=fu c1
 have hxm:H'.length ≠ m:=by omega
 have gx:=λ(L:List fq) (y:fq)=>gsn (H:=L) (x:=y) hxm
 have hxg:(H'++[X])[H'.length]? = some X:=gae
 have ho:0<=x.op/\x.op<15:=by omega
 simp only[mcs]at hlk c1
 subst hX
 simp only[mcs,Ms.adv,hh,Ins.av]at cp
 simp only[↓fm,wall,simprocAttr,wH,e0,e1,hd,fw,fj,b1,he,bl2,hBa,hi1,h4,hxa,hgx,hw1,hw2,hw3,gse hml2,List.set_set,gx,hxg,ho,hlk,cp,c1]
 obtain⟨w1,w2,w3⟩:=p1.upd p2 (s':={s3 with err:=R.2}) ⟨Bl3,tb3,t23,t33,ea3,gse hml3,c2,c3⟩ (p1.st.jb λb e=>gsn (p1.d1 b e).1) (p1.fr.jb λb e=>gsn (p1.d2 b e)) (λk _ hn=>gsn λe=>hn (.inl e)) (by simp) (λk h=>.inl h) p1.d1 p1.d2
 have hs4 : {s3 with err:=R.2}=s'.step c:=by rw[hst1,hs3]
 refine jg ⟨j-1,by omega,F3,s'.step c,sa3,fa3,e0,rfl,by rw[<- hs4];exact w1,w2,hN.trans (n3.trans (k3.trans (p3.trans w3))),hS1, ?_,by omega,by omega⟩
 rw[<- hr]
 obtain⟨j',rfl⟩:∃j',j=j'+1:=⟨j-1,by omega⟩
 rw[Nat.add_sub_cancel,Ms.run,if_pos hg]
end
end Go.Proofs.Eng
namespace Go.Proofs.Eng
open Go Go.Proofs
set_option maxRecDepth 100000
mutual
theorem a3r:∀e:Ex,e.dep<=e.sz
 | .mk k i n s kids=>by rw[Ex.dep,Ex.sz];have:=Nj kids;omega
theorem Nj:∀l:List Ex,a0w l<=szL l
 | []=>di _
 | x::l=>by rw[a0w,szL];have:=a3r x;have:=Nj l;omega
end
theorem a1b:∀l:List (List Ins),(l.map λx=>x.length+64).sum=(l.map List.length).sum+64*l.length
 | []=>rfl
 | x::l=>by rw[bq,bq,List.sum_cons,List.sum_cons,a1b l,ak];omega
theorem a4t (c:Cd):c.bd c.bl.length=(((c.bl.map List.length).sum+64*c.bl.length:Nat):Int):=by
 unfold Cd.bd
 rw[List.take_length,a1b]
end Go.Proofs.Eng
