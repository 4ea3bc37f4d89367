/- The law of runs beside the reference. No conditions beyond those in the theorems. -/
import Derived.Test.YtflfmkkcnphdcaaGreatHD
import Derived.Test.YtflfmkkcnphdcaaGreatKN
set_option linter.all false
set_option linter.deprecated false
set_option linter.unnecessarySimpa false
set_option linter.unusedVariables false
set_option linter.unusedSimpArgs false
set_option linter.defProp false
namespace Go.Proofs.Eng
open Go Go.Proofs
set_option maxRecDepth 100000
set_option maxHeartbeats 16000000
theorem MR.frame {F F':Fz} {H H':List fq} {U U':Nat->Prop} {n:Nat} {sb fb:AV} {c:Cd} {t:Ms} (hN:MR F H n sb fb c t) (hx:Nx F H U F' H' U') (hd:∀k,Own n sb fb k -> ¬U k) :
  MR F' H' n sb fb c t /\ ∀k,Own n sb fb k -> ¬U' k:=by
 obtain⟨Bl,tb,t2,t3,ea,b1,b2,b3⟩:=hN.m6
 have hk:∀k:Nat,Own n sb fb k->H'[k]? = H[k]? := λk h=>hx.jb k (hN.lt h) (hd k h)
 refine⟨⟨⟨Bl,tb,t2,t3,ea,(hk n (.inl rfl)).trans b1,b2,ER.mono hx.le _ _ b3⟩,(hN.st.jb λb e=>hk b (.inr (.inl e))).mono hx.le,(hN.fr.jb λb e=>hk b (.inr (.inr e))).mono hx.le,λk h => ?_,hN.d1,hN.d2⟩,λk h hu => ?_⟩
 ·have h1:=hN.fz k h
  have h2:=hN.lt h
  cases hf:F' k with
  | none=>rfl
  | some l=>
   rcases hx.new k (by rw[hf];simp)with h3|h3
   ·exact absurd h1 h3
   ·omega
 ·rcases hx.own k hu with h1|h1
  ·exact hd k h h1
  ·have:=hN.lt h;omega
end Go.Proofs.Eng
namespace Go.Proofs.Eng
open Go Go.Proofs
set_option maxRecDepth 100000
set_option maxHeartbeats 16000000
structure RR (H:List fq) (r rm:Nat) (fa:AV) (c:Cd) (s:Ms):Prop where
 b:H[r]? = some (.cells false [.ptr rm 0,.int s.err])
 m:RI H rm fa c s
 d:¬OwR rm fa r
def OwQ (r rm:Nat) (fa:AV) (k:Nat):Prop:=k=r\/OwR rm fa k
theorem NxR.q {H H':List fq} {r rm rm':Nat} {fa fa':AV} (h:NxR H (OwR rm fa) H' (OwR rm' fa')):NxR H (OwQ r rm fa) H' (OwQ r rm' fa') where
 jb k hk hu:=h.jb k hk λe=>hu (.inr e)
 len:=h.len
 own k hk:=by
  rcases hk with rfl|hk
  ·exact .inl (.inl rfl)
  ·rcases h.own k hk with h1|h1
   ·exact .inl (.inr h1)
   ·exact .inr h1
section
variable {Z:List Int} {H:List fq} {V:List Nat} {r rm:Nat} {fa:AV} {c:Cd} {s:Ms}
theorem RR.lt (h:RR H r rm fa c s) {k:Nat} (hk:OwQ r rm fa k):k<H.length:=by
 rcases hk with rfl|hk
 ·exact fu h.b
 ·exact h.m.lt hk
theorem Xl (hC:Ei c Z) (hsz:c.bd c.bl.length<=400000) {n:Int} {e:List Vl} (h:VOK c Z (.clo n e)):e.length<=1000000:=by
 rw[VOK]at h
 obtain⟨h1,h2,h3,_⟩:=h
 have h4:Z.getD n.toNat 0<=c.bd c.bl.length:=Int.le_trans (hC.bd _ (by omega)) (yi c (by omega))
 omega
theorem T9 {i:Int} (hi:i<0) (H:List fq) (V:List Nat) (m:Nat):Rw 16 [.ptr m 0,.int i] ⟨H,V⟩ λv s1=>s1=⟨H,V⟩/\v = .tup [.bool false,.int 2]:=by
 refine ju pf16_is (dh rfl) ?_
 have hd0:decide (i<0)=true:=by simpa using hi
 simp only[pf16,↓fm,wall,simprocAttr,wH,fw,fj,hd0]
theorem Tr (hC:Ei c Z) (hsz:c.bd c.bl.length<=400000) (k:Nat) (hM:RR H r rm fa c s) (hS:Safe c Z s) (hk:s.stack.length+k<=60000) (hfk:s.gq.length+k<=60000) (hst:s.steps+k<=1000000) :
  Rw 16 [.ptr r 0,.int (k:Nat)] ⟨H,V⟩ λv s1=>v = .tup [.bool ((s.run c k).err==0&&(s.run c k).halted),.int (s.run c k).err]/\(s.run c k).gq.length<=s.gq.length+k /\ ∃fa',RR s1.H r rm fa' c (s.run c k)/\NxR H (OwQ r rm fa) s1.H (OwQ r rm fa'):=by
 refine ju pf16_is (dh rfl) ?_
 have hd0:decide (((k:Nat):Int)<0)=false:=by simp
 have hlb:jj=9223372036854775807:=rfl
 simp only[pf16,↓fm,wall,simprocAttr,wH,fw,fj,hd0]
 refine j7 (λj=>k-j) (λj E H' V'=>∃s' fa',j<=k/\E 0 = .ptr r 0/\E 1 = .int (k:Nat)/\E 6 = .int (j:Nat)/\RR H' r rm fa' c s'/\NxR H (OwQ r rm fa) H' (OwQ r rm fa')/\Safe c Z s'/\s'.run c (k-j)=s.run c k/\s'.stack.length<=s.stack.length+j/\s'.gq.length<=s.gq.length+j/\s'.steps<=s.steps+j) ?_ 0
  ⟨s,fa,dk _,rfl,rfl,rfl,hM,.refl _ _,hS,rfl,di _,di _,di _⟩
 rintro j E H' V' ⟨s',fa',hj,e0,e1,e6,hM',hN,hS',hr,b1,b2,b3⟩
 obtain⟨Bs,t1,t2,t3,el,et,sl,ts,q1,q2,q3,q4,q5⟩:=hM'.m.m6
 have hb:=hM'.b
 simp only[rcs]at q1
 have done:∀{v:AV},s'=s.run c k->v = .tup [.bool (s'.err==0&&s'.halted),.int s'.err]->v = .tup [.bool ((s.run c k).err==0&&(s.run c k).halted),.int (s.run c k).err]/\(s.run c k).gq.length<=s.gq.length+k /\ ∃fa',RR H' r rm fa' c (s.run c k)/\NxR H (OwQ r rm fa) H' (OwQ r rm fa'):=λe ev=>by
  rw[<- e];exact⟨ev,by omega,fa',hM',hN⟩
 rcases dj j k with hlt|hge
 ·have hd:decide ((j:Int)<(k:Nat))=true:=by simpa using hlt
  cases hg:s'.go
  ·have hr':s'=s.run c k:=by rw[<- hr,It hg]
   cases he:(s'.err==0)
   ·simp only[↓fm,wall,simprocAttr,wH,e0,e1,e6,hd,fw,fj,hb,q1,he]
    exact done hr' (by rw[he];rfl)
   ·have hh:s'.halted=true:=by rw[Ms.go,he]at hg;simpa using hg
    rw[hh]at q1
    simp only[↓fm,wall,simprocAttr,wH,e0,e1,e6,hd,fw,fj,hb,q1,he]
    exact done hr' (by rw[hh,he];rfl)
  have hh:s'.halted=false:=by rw[Ms.go]at hg;simp at hg;exact hg.1
  have he:(s'.err==0)=true:=by rw[Ms.go]at hg;simp at hg;simp[hg.2]
  have hG:=hS'.yy hg
  obtain⟨l,x,x1,x2,x3,hR,hst1,hS1,st1,st2,st3⟩:=He hC hG (by omega)
  have hll:=De hsz (aq x1)
  have henv:s'.now.env.length<=900000:=by
   obtain⟨k,r,⟨t,⟨l,h1,h2,_⟩,_,he,_,_,_,hz,_⟩,_⟩:=hG.fr
   have hlt:=(List.getElem?_eq_some_iff.1 h1).1
   have h3:Z.getD s'.now.bk 0<=c.bd c.bl.length:=by
    rcases Int.lt_or_le (Z.getD s'.now.bk 0) 0 with h|h
    ·have:0<=c.bd c.bl.length:=fc _
     omega
    ·exact Int.le_trans (hC.bd _ h) (yi c (by omega))
   have h4:=De hsz (aq h1)
   omega
  obtain⟨v,⟨H3,V3⟩,⟨fa3,s3,⟨rfl,rfl⟩,p1,p2⟩,cp⟩:=(R2 (V:=V') hM'.m x1 x2 (by omega) hR (by omega) (by omega) (by omega) henv λa n e st hs=>by
   have:=hG.st
   rw[hs,kj,kj]at this
   exact Xl hC hsz this.2.1).call rfl
  simp only at p1 p2 cp
  have hbr:H3[r]? = some (.cells false [.ptr rm 0,.int s'.err]):=by rw[p2.jb r (fu hb) hM'.d];exact hb
  have hrl:=fu hbr
  have hdr:¬OwR rm fa3 r:=λh=>by
   rcases p2.own r h with h|h
   ·exact hM'.d h
   ·have:=fu hb;omega
  have hrm:r ≠ rm:=λe=>hdr (.inl e)
  have hrb:∀b,ql fa3=some b->b ≠ r:=λb h e=>hdr (.inr (by rw[h,e]))
  obtain⟨Cs,u1,u2,u3,fl,ft,tl,us,w1,w2,w3,w4,w5⟩:=p1.m6
  obtain⟨Y,hY⟩:∃Y,Y=fq.cells false [.ptr rm 0,.int (s'.adv.exec c x).2]:=⟨_,rfl⟩
  have hI:RI (H3.set r Y) rm fa3 c (s'.step c):=by
   rw[hst1]
   exact⟨⟨Cs,u1,u2,u3,fl,ft,tl,us,(gsn hrm.symm).trans w1,w2,w3,w4,w5⟩,p1.fr.jb λb e=>gsn (hrb b e),p1.d⟩
  have hQ:NxR H3 (OwQ r rm fa3) (H3.set r Y) (OwQ r rm fa3):=⟨λk _ hu=>gsn λe=>hu (.inl e),by simp,λk h=>.inl h⟩
  have hRR:RR (H3.set r Y) r rm fa3 c (s'.step c):=⟨by rw[gse hrl,hY,hst1],hI,hdr⟩
  have hNx:=hN.trans (p2.q.trans hQ)
  have hwm:((H3.set r Y)[rm]?)=some (.cells false (rcs Cs u1 u2 u3 c ((s'.adv.exec c x).1.now.bk:Nat) ((s'.adv.exec c x).1.now.at':Nat) (.sl fl.reverse ft) (.sl tl.reverse us) fa3 ((s'.adv.exec c x).1.steps:Nat) (s'.adv.exec c x).1.halted)):=(gsn hrm.symm).trans w1
  have hrun:(s'.step c).run c (k-(j+1))=s.run c k:=by
   rw[<- hr,show k-j=k-(j+1)+1 from by omega,Ms.run,if_pos hg]
  have fin:∃s'' fa'',j+1<=k/\RR (H3.set r Y) r rm fa'' c s''/\NxR H (OwQ r rm fa) (H3.set r Y) (OwQ r rm fa'')/\Safe c Z s''/\s''.run c (k-(j+1))=s.run c k/\s''.stack.length<=s.stack.length+(j+1)/\s''.gq.length<=s.gq.length+(j+1)/\s''.steps<=s.steps+(j+1):=
   ⟨s'.step c,fa3,by omega,hRR,hNx,hS1,hrun,by omega,by omega,by omega⟩
  subst hY
  simp only[rcs]at hwm
  rw[hh]at q1
  cases hz:((s'.adv.exec c x).2==0)
  ·simp only[↓fm,wall,simprocAttr,wH,e0,e1,e6,hd,fw,fj,hb,q1,he,cp,hbr,gse hrl,hz]
   obtain⟨s4,fa4,g1,g2,g3,g4⟩:=fin
   exact jg ⟨j+1,by omega,s4,fa4,g1,e0,e1,ij (by omega),g2,g3,g4⟩
  ·have hfe:(s'.adv.exec c x).1.gq=(s'.step c).gq:=by rw[hst1]
   obtain⟨s4,fa4,g1,g2,g3,g4⟩:=fin
   rcases p1.fr with⟨rfl,_⟩|⟨bf,cf,rfl,_⟩
   ·simp only[↓fm,wall,simprocAttr,wH,e0,e1,e6,hd,fw,fj,hb,q1,he,cp,hbr,gse hrl,hz,hwm]
    exact jg ⟨j+1,by omega,s4,fa4,g1,e0,e1,ij (by omega),g2,g3,g4⟩
   ·have hnt:decide ((((s'.adv.exec c x).1.gq.length:Nat):Int)>65536)=false:=by rw[hfe];simp;omega
    simp only[↓fm,wall,simprocAttr,wH,e0,e1,e6,hd,fw,fj,hb,q1,he,cp,hbr,gse hrl,hz,hwm,hnt]
    exact jg ⟨j+1,by omega,s4,fa4,g1,e0,e1,ij (by omega),g2,g3,g4⟩
 ·have hd:decide ((j:Int)<(k:Nat))=false:=by simpa using hge
  obtain rfl:j=k:=by omega
  have hr':s'=s.run c j:=by rw[<- hr,Nat.sub_self,Ms.run]
  cases he:(s'.err==0)
  ·simp only[↓fm,wall,simprocAttr,wH,e0,e1,e6,hd,fw,fj,hb,q1,he]
   exact done hr' (by rw[he];rfl)
  ·simp only[↓fm,wall,simprocAttr,wH,e0,e1,e6,hd,fw,fj,hb,q1,he]
   exact done hr' (by rw[he];rfl)
theorem E4 (hM:RR H r rm fa c s):Rw 59 [.ptr r 0] ⟨H,V⟩ λv s1=>s1=⟨H,V⟩/\v = .int (s.steps:Nat):=by
 obtain⟨Bs,t1,t2,t3,el,et,sl,ts,q1,q2,q3,q4,q5⟩:=hM.m.m6
 have hb:=hM.b
 simp only[rcs]at q1
 refine ju pf59_is (dh rfl) ?_
 simp only[pf59,↓fm,wall,simprocAttr,wH,fw,fj,hb,q1]
theorem F0 (hM:RR H r rm fa c s):Rw 60 [.ptr r 0] ⟨H,V⟩ λv s1=>s1=⟨H,V⟩/\v = .int (s.gq.length:Nat):=by
 obtain⟨Bs,t1,t2,t3,el,et,sl,ts,q1,q2,q3,q4,q5⟩:=hM.m.m6
 have hb:=hM.b
 simp only[rcs]at q1
 refine ju pf60_is (dh rfl) ?_
 rcases hM.m.fr with⟨rfl,hn⟩|⟨b,cs,rfl,h1,h2,h3⟩
 ·simp only[pf60,↓fm,wall,simprocAttr,wH,fw,fj,hb,q1]
  rw[hn];rfl
 ·simp only[pf60,↓fm,wall,simprocAttr,wH,fw,fj,hb,q1]
end
end Go.Proofs.Eng
namespace Go.Proofs.Eng
open Go Go.Proofs
set_option maxRecDepth 100000
set_option maxHeartbeats 16000000
mutual
def Vl.vis:Vl->Int->Int
 | .ctor _ _ p,n=>Vl.uv p (n-1)
 | .box,n=>n-1
 | .clo _ _,n=>n-1
 | .pair x y,n=>if 0<=n-1 then(if 0<=x.vis (n-1)then y.vis (x.vis (n-1))else x.vis (n-1))else n-1
def Vl.uv:List Vl->Int->Int
 | [],n=>n
 | v::p,n=>if 0<=n then Vl.uv p (v.vis n)else n
end
mutual
def Vl.dat:Vl->Int × Bool
 | .ctor _ _ p=>Vl.u0 p 1
 | .box=>(1,false)
 | .clo _ _=>(1,false)
 | .pair _ _=>(1,false)
def Vl.u0:List Vl->Int->Int × Bool
 | [],n=>(n,true)
 | v::p,n=>if v.dat.2=true then Vl.u0 p (if 4097<n+v.dat.1 then 4097 else n+v.dat.1)else(n,false)
end
def Vl.kids:Vl->List Vl
 | .ctor _ _ p=>p
 | .pair x y=>[x,y]
 | _=>[]
theorem Vl.a1u {P:Vl->Prop} (h:∀v,(∀w ∈ v.kids,P w)->P v) (v:Vl):P v:=by
 have key:∀n v,SizeOf.sizeOf v<=n->P v:=by
  intro n
  induction n with
  | zero=>intro v hv;cases v<;>simp at hv
  | succ n ih=>
   intro v hv
   refine h v λw hw=>ih w ?_
   cases v with
   | ctor k nm p=>
    have:=List.sizeOf_lt_of_mem (show w ∈ p from hw)
    simp at hv
    omega
   | pair x y=>
    simp at hv
    rcases List.mem_cons.1 hw with rfl|hw
    ·omega
    ·rcases List.mem_cons.1 hw with rfl|hw
     ·omega
     ·cases hw
   | _=>cases hw
 exact key _ v (di _)
mutual
theorem E8:∀(v:Vl) {n:Int},0<=n -> -1<=v.vis n/\v.vis n<=n-1
 | .ctor _ _ p,n,h=>by rw[Vl.vis];have:=Ob p (n:=n-1) (by omega);omega
 | .box,n,h=>by rw[Vl.vis];omega
 | .clo _ _,n,h=>by rw[Vl.vis];omega
 | .pair x y,n,h=>by
  rw[Vl.vis]
  split
  ·rename_i h1
   have:=E8 x h1
   split
   ·rename_i h2
    have:=E8 y h2
    omega
   ·omega
  ·omega
theorem Ob:∀(p:List Vl) {n:Int}, -1<=n -> -1<=Vl.uv p n/\Vl.uv p n<=n
 | [],n,h=>by rw[Vl.uv];omega
 | v::p,n,h=>by
  rw[Vl.uv]
  split
  ·rename_i h1
   have h2:=E8 v h1
   have:=Ob p h2.1
   omega
  ·omega
end
mutual
theorem C2:∀v:Vl,1<=v.dat.1/\v.dat.1<=4097
 | .ctor _ _ p=>by rw[Vl.dat];exact Aj p (by decide) (by decide)
 | .box=>by rw[Vl.dat];decide
 | .clo _ _=>by rw[Vl.dat];decide
 | .pair _ _=>by rw[Vl.dat];decide
theorem Aj:∀(p:List Vl) {n:Int},1<=n->n<=4097->n<=(Vl.u0 p n).1/\(Vl.u0 p n).1<=4097
 | [],n,h,h2=>by rw[Vl.u0];exact⟨Int.le_refl _,h2⟩
 | v::p,n,h,h2=>by
  rw[Vl.u0]
  have:=C2 v
  split
  ·split
   ·have:=Aj p (n:=4097) (by omega) (by omega);omega
   ·have:=Aj p (n:=n+v.dat.1) (by omega) (by omega);omega
  ·exact⟨Int.le_refl _,h2⟩
end
mutual
theorem Hu:∀v:Vl,v.cnt=if v.dat.2=true then v.dat.1 else -1
 | .ctor _ _ p=>by rw[Vl.cnt,Vl.dat];exact Dp p (by decide) (by decide)
 | .box=>by rw[Vl.cnt,Vl.dat];rfl
 | .clo _ _=>by rw[Vl.cnt,Vl.dat];rfl
 | .pair _ _=>by rw[Vl.cnt,Vl.dat];rfl
theorem Dp:∀(p:List Vl) {n:Int},1<=n->n<=4097->Vl.nz n p=if (Vl.u0 p n).2=true then(Vl.u0 p n).1 else -1
 | [],n,h,h2=>by rw[Vl.nz,Vl.u0];rfl
 | v::p,n,h,h2=>by
  rw[Vl.nz,Vl.u0,if_pos (by omega),Hu v]
  have:=C2 v
  cases hv:v.dat.2
  ·simp only[dz,if_false];rw[if_pos (by decide),xu (by decide)]
  ·rw[if_pos rfl,if_neg (by omega),if_pos rfl]
   by_cases hc:n+v.dat.1<=4097
   ·rw[if_neg (by omega)];exact Dp p (by omega) hc
   ·rw[if_pos (by omega)];exact Dp p (by omega) (by omega)
end
mutual
theorem Od:∀(v:Vl) {n:Int},v.dat.2=true->v.dat.1<=4096->v.dat.1<=n->v.vis n=n-v.dat.1
 | .ctor _ _ p,n,h,h2,h3=>by
  rw[Vl.dat]at h h2 h3
  rw[Vl.vis,Vl.dat,Jq p (by decide) h h2 (by omega)];omega
 | .box,n,h,_,_=>by rw[Vl.dat]at h;cases h
 | .clo _ _,n,h,_,_=>by rw[Vl.dat]at h;cases h
 | .pair _ _,n,h,_,_=>by rw[Vl.dat]at h;cases h
theorem Jq:∀(p:List Vl) {n a:Int},1<=a->(Vl.u0 p a).2=true->(Vl.u0 p a).1<=4096->(Vl.u0 p a).1-a<=n->Vl.uv p n=n-((Vl.u0 p a).1-a)
 | [],n,a,_,h,h2,h3=>by rw[Vl.uv,Vl.u0];simp
 | v::p,n,a,ha,h,h2,h3=>by
  rw[Vl.u0]at h h2 h3
  have hb:=C2 v
  cases hv:v.dat.2
  ·rw[if_neg (by rw[hv];simp)]at h;cases h
  rw[if_pos hv]at h h2 h3
  by_cases hc:a+v.dat.1<=4097
  ·rw[if_neg (by omega)]at h h2 h3
   have hd:=Aj p (n:=a+v.dat.1) (by omega) hc
   rw[Vl.u0,if_pos hv,if_neg (by omega),Vl.uv,if_pos (by omega),Od v hv (by omega) (by omega),Jq p (by omega) h h2 (by omega)];omega
  ·rw[if_pos (by omega)]at h h2 h3
   have hd:=Aj p (n:=4097) (by omega) (by omega)
   omega
end
theorem Bu {α:Type} {l:List α} {j:Nat} {x:α} (h:l[j]? = some x):l.drop j=x::l.drop (j+1):=by
 obtain⟨h1,rfl⟩:=List.getElem?_eq_some_iff.1 h
 exact bz h1
theorem Qj (v:Vl):∀{a:AV} {n:Nat},RV v a->n<=16384->Out md pfs 96 [a,.int (n:Nat)] (· = .int (v.vis n)) λ_=>False:=by
 induction v using Vl.a1u with
 | h v ih=>
 intro a n hv hn
 have hlb:jj=9223372036854775807:=rfl
 have hw1:IntKind.i64.wrap (((n:Nat):Int)-1)=(n:Nat)-1:=gw (by unfold jn;omega)
 refine jt pf96_is (dh rfl) ?_
 cases v with
 | box=>
  rw[RV]at hv;subst hv
  simp only[pf96,↓fm,wall,simprocAttr,wH,hw1]
  refine j7 (λj=>0) (λj E H T=>j=0/\E 1 = .int ((n:Nat)-1)/\E 2 = .ptr 0 0/\E 5 = .int (j:Nat)/\H=[.cells false [.int 0,.int 0,.str ⟨#[]⟩,.sl [] .nil]]) ?_ 0 ⟨rfl,rfl,rfl,rfl,rfl⟩
  rintro j E _ T ⟨rfl,e1,e2,e5,rfl⟩
  simp only[↓fm,wall,simprocAttr,wH,e1,e2,e5]
  rw[Vl.vis]
 | clo k e=>
  rw[RV]at hv
  obtain⟨l,t,rfl,_⟩:=hv
  simp only[pf96,↓fm,wall,simprocAttr,wH,hw1]
  refine j7 (λj=>0) (λj E H T=>j=0/\E 1 = .int ((n:Nat)-1)/\E 2 = .ptr 0 0/\E 5 = .int (j:Nat)/\H=[.cells false [.int 1,.int k,.str ⟨#[]⟩,.sl l.reverse t]]) ?_ 0 ⟨rfl,rfl,rfl,rfl,rfl⟩
  rintro j E _ T ⟨rfl,e1,e2,e5,rfl⟩
  cases d1:decide ((0:Int)<(l.reverse.length:Nat))<;>cases d2:decide ((n:Nat)-1>=(0:Int))
  all_goals
   simp only[↓fm,wall,simprocAttr,wH,e1,e2,e5,d1,d2]
   rw[Vl.vis]
 | ctor k nm p=>
  rw[RV]at hv
  obtain⟨l,t,rfl,ht,hl⟩:=hv
  have hll:=hl.len
  have h4:=hl.wm.1
  simp only[pf96,↓fm,wall,simprocAttr,wH,hw1]
  refine j7 (λj=>l.length-j) (λj E H T=>∃m:Int,j<=l.length /\ -1<=m/\m<=16384/\(j:Int)+m<=(n:Nat)-1/\E 1 = .int m/\E 2 = .ptr 0 0/\E 5 = .int (j:Nat)/\H=[.cells false [.int 2,.int k,.str nm,.sl l t]]/\Vl.uv (p.drop j) m=Vl.uv p ((n:Nat)-1)) ?_ 0 ⟨_,dk _,by omega,by omega,by omega,rfl,rfl,rfl,rfl,rfl⟩
  rintro j E _ T ⟨m,hj,m1,m2,m3,e1,e2,e5,rfl,hm⟩
  rcases dj j l.length with hlt|hge
  ·have hdec:decide ((j:Int)<(l.length:Nat))=true:=by simpa using hlt
   have hjp:j<p.length:=by omega
   obtain⟨av,g1,g2⟩:=hl.at (i:=j) (aa hjp)
   rw[Bu (aa hjp),Vl.uv]at hm
   rcases Int.lt_or_le m 0 with hm0|hm0
   ·have hd0:decide (m>=0)=false:=by simp;omega
    rw[if_neg (by omega)]at hm
    simp only[↓fm,wall,simprocAttr,wH,e1,e2,e5,hdec,hd0]
    rw[Vl.vis,hm]
   ·have hd0:decide (m>=0)=true:=by simpa using hm0
    rw[if_pos hm0]at hm
    obtain⟨q,rfl⟩:=Int.eq_ofNat_of_zero_le hm0
    obtain⟨_,rfl,cv⟩:=(ih p[j] (List.getElem_mem hjp) (n:=q) g2 (by omega)).call rfl (by simp[gp,gz,g2.pure,oj])
    have hb:=E8 p[j] hm0
    obtain⟨k1,n1,s1,l1,t1,rfl⟩:=g2.four
    simp only[↓fm,wall,simprocAttr,wH,e1,e2,e5,hdec,hd0,g1,h4,cv]
    exact jg ⟨j+1,by omega,_,by omega,hb.1,by omega,by omega,rfl,e2,ij (by omega),rfl,hm⟩
  ·have hdec:decide ((j:Int)<(l.length:Nat))=false:=by simpa using hge
   rw[List.drop_of_length_le (by omega),Vl.uv]at hm
   simp only[↓fm,wall,simprocAttr,wH,e1,e2,e5,hdec]
   rw[Vl.vis,hm]
 | pair x y=>
  rw[RV]at hv
  obtain⟨ax,ay,t,rfl,ht,hx,hy⟩:=hv
  obtain⟨k1,n1,s1,l1,t1,rfl⟩:=hx.four
  obtain⟨k2,n2,s2,l2,t2,rfl⟩:=hy.four
  have e:(Vl.pair x y).vis (n:Nat)=Vl.uv [x,y] ((n:Nat)-1):=by
   rw[Vl.vis,Vl.uv]
   split
   ·rw[Vl.uv]
    split
    ·rw[Vl.uv]
    ·rfl
   ·rfl
  simp only[pf96,↓fm,wall,simprocAttr,wH,hw1]
  refine j7 (λj=>2-j) (λj E H T=>∃m:Int,j<=2 /\ -1<=m/\m<=16384/\E 1 = .int m/\E 2 = .ptr 0 0/\E 5 = .int (j:Nat)/\H=[.cells false [.int 3,.int 0,.str ⟨#[]⟩,.sl [.agg [.int k1,.int n1,.str s1,.sl l1 t1],.agg [.int k2,.int n2,.str s2,.sl l2 t2]] t]]/\Vl.uv ([x,y].drop j) m=Vl.uv [x,y] ((n:Nat)-1)) ?_ 0 ⟨_,dk _,by omega,by omega,rfl,rfl,rfl,rfl,rfl⟩
  rintro j E _ T ⟨m,hj,m1,m2,e1,e2,e5,rfl,hm⟩
  have h4:(([.agg [.int k1,.int n1,.str s1,.sl l1 t1],.agg [.int k2,.int n2,.str s2,.sl l2 t2]]:List AV).all λx=>x.cells.length==4)=true:=rfl
  obtain⟨L,hL⟩:∃L:List AV,L=[.agg [.int k1,.int n1,.str s1,.sl l1 t1],.agg [.int k2,.int n2,.str s2,.sl l2 t2]]:=⟨_,rfl⟩
  have hLL:L.length=2:=by rw[hL];rfl
  have hs:RVs [x,y] L:=by rw[hL,RVs];exact⟨_,_,rfl,hx,.one hy⟩
  rw[<- hL]at h4 ⊢
  rcases dj j 2 with hlt|hge
  ·have hdec:decide ((j:Int)<2)=true:=by simp;omega
   have hjp:j<[x,y].length:=hlt
   obtain⟨av,g1,g2⟩:=hs.at (i:=j) (aa hjp)
   rw[Bu (aa hjp),Vl.uv]at hm
   rcases Int.lt_or_le m 0 with hm0|hm0
   ·have hd0:decide (m>=0)=false:=by simp;omega
    rw[if_neg (by omega)]at hm
    simp only[↓fm,wall,simprocAttr,wH,e1,e2,e5,hLL,hdec,hd0]
    rw[e,hm]
   ·have hd0:decide (m>=0)=true:=by simpa using hm0
    rw[if_pos hm0]at hm
    obtain⟨q,rfl⟩:=Int.eq_ofNat_of_zero_le hm0
    obtain⟨_,rfl,cv⟩:=(ih [x,y][j] (List.getElem_mem hjp) (n:=q) g2 (by omega)).call rfl (by simp[gp,gz,g2.pure,oj])
    have hb:=E8 [x,y][j] hm0
    obtain⟨k1,n1,s1,l1,t1,rfl⟩:=g2.four
    simp only[↓fm,wall,simprocAttr,wH,e1,e2,e5,hLL,hdec,hd0,g1,h4,cv]
    exact jg ⟨j+1,by omega,_,by omega,hb.1,by omega,rfl,e2,ij (by omega),by rw[hL],hm⟩
  ·have hdec:decide ((j:Int)<2)=false:=by simp;omega
   rw[List.drop_of_length_le (by simpa using hge),Vl.uv]at hm
   simp only[↓fm,wall,simprocAttr,wH,e1,e2,e5,hLL,hdec]
   rw[e,hm]
theorem S4 {c:Cd} {Z:List Int} (v:Vl):∀{a:AV},RV v a->VOK c Z v->Out md pfs 97 [a,.int 4097] (· = .tup [.int v.dat.1,.bool v.dat.2]) λ_=>False:=by
 induction v using Vl.a1u with
 | h v ih=>
 intro a hv hok
 have hlb:jj=9223372036854775807:=rfl
 refine jt pf97_is (dh rfl) ?_
 cases v with
 | box=>
  rw[RV]at hv;subst hv
  simp only[pf97,↓fm,wall,simprocAttr,wH]
  rw[Vl.dat]
 | clo k e=>
  rw[RV]at hv
  obtain⟨l,t,rfl,_⟩:=hv
  simp only[pf97,↓fm,wall,simprocAttr,wH]
  rw[Vl.dat]
 | pair x y=>
  rw[RV]at hv
  obtain⟨ax,ay,t,rfl,_⟩:=hv
  simp only[pf97,↓fm,wall,simprocAttr,wH]
  rw[Vl.dat]
 | ctor k nm p=>
  rw[RV]at hv
  obtain⟨l,t,rfl,ht,hl⟩:=hv
  have hll:=hl.len
  rw[VOK]at hok
  obtain⟨_,hpl,hoks⟩:=hok
  have h4:=hl.wm.1
  simp only[pf97,↓fm,wall,simprocAttr,wH]
  refine j7 (λj=>l.length-j) (λj E H T=>∃m:Int,j<=l.length/\1<=m/\m<=4097/\E 1 = .int 4097/\E 2 = .ptr 0 0/\E 6 = .int m/\E 7 = .int (j:Nat)/\H=[.cells false [.int 2,.int k,.str nm,.sl l t]]/\Vl.u0 (p.drop j) m=Vl.u0 p 1) ?_ 0 ⟨_,dk _,by decide,by decide,rfl,rfl,rfl,rfl,rfl,rfl⟩
  rintro j E _ T ⟨m,hj,m1,m2,e1,e2,e6,e7,rfl,hm⟩
  rcases dj j l.length with hlt|hge
  ·have hdec:decide ((j:Int)<(l.length:Nat))=true:=by simpa using hlt
   have hjp:j<p.length:=by omega
   obtain⟨av,g1,g2⟩:=hl.at (i:=j) (aa hjp)
   rw[Bu (aa hjp),Vl.u0]at hm
   obtain⟨_,rfl,cv⟩:=(ih p[j] (List.getElem_mem hjp) g2 (lg.1 hoks _ (List.getElem_mem hjp))).call rfl (by simp[gp,gz,g2.pure,oj])
   have hb:=C2 p[j]
   obtain⟨k1,n1,s1,l1,t1,rfl⟩:=g2.four
   cases hd:p[j].dat.2
   ·rw[hd]at cv hm
    rw[if_neg (by simp)]at hm
    simp only[↓fm,wall,simprocAttr,wH,e1,e2,e6,e7,hdec,g1,h4,cv]
    rw[Vl.dat,<- hm]
   ·rw[hd]at cv hm
    rw[if_pos rfl]at hm
    have hw:IntKind.i64.wrap (m+p[j].dat.1)=m+p[j].dat.1:=gw (by unfold jn;omega)
    simp only[↓fm,wall,simprocAttr,wH,e1,e2,e6,e7,hdec,g1,h4,cv,hw]
    exact jg ⟨j+1,by omega,_,by omega,by split<;>omega,by split<;>omega,e1,e2,rfl,ij (by omega),rfl,hm⟩
  ·have hdec:decide ((j:Int)<(l.length:Nat))=false:=by simpa using hge
   rw[List.drop_of_length_le (by omega),Vl.u0]at hm
   simp only[↓fm,wall,simprocAttr,wH,e1,e2,e6,e7,hdec]
   rw[Vl.dat,<- hm]
end Go.Proofs.Eng
namespace Go.Proofs.Eng
open Go Go.Proofs
set_option maxRecDepth 100000
set_option maxHeartbeats 16000000
theorem Ou {c:Cd} {Z:List Int} (v:Vl):∀{a:AV},RV v a->VOK c Z v->v.dat.2=true->Out md pfs 98 [a] (λr=>∃d,r = .tup [d,.bool true]/\v.tree.R d/\im d=true) λ_=>False:=by
 induction v using Vl.a1u with
 | h v ih=>
 intro a hv hok hd
 have hlb:jj=9223372036854775807:=rfl
 have kh:Ev=1073741824:=rfl
 refine jt pf98_is (dh rfl) ?_
 cases v with
 | box=>rw[Vl.dat]at hd;cases hd
 | clo k e=>rw[Vl.dat]at hd;cases hd
 | pair x y=>rw[Vl.dat]at hd;cases hd
 | ctor k nm p=>
  rw[RV]at hv
  obtain⟨l,t,rfl,ht,hl⟩:=hv
  have hll:=hl.len
  rw[VOK]at hok
  obtain⟨_,hpl,hoks⟩:=hok
  have h4:=hl.wm.1
  have hkid:∀w ∈ p,w.dat.2=true:=by
   rw[Vl.dat]at hd
   have key:∀(q:List Vl) (n:Int),(Vl.u0 q n).2=true -> ∀w ∈ q,w.dat.2=true:=by
    intro q
    induction q with
    | nil=>intro n _ w hw;cases hw
    | cons x q ihq=>
     intro n h w hw
     rw[Vl.u0]at h
     cases hx:x.dat.2
     ·rw[if_neg (by rw[hx];simp)]at h;cases h
     ·rw[if_pos hx]at h
      rcases List.mem_cons.1 hw with rfl|hw
      ·exact hx
      ·exact ihq _ h w hw
   exact key p 1 hd
  simp only[pf98,↓fm,wall,simprocAttr,wH]
  refine j7 (λj=>l.length-j) (λj E H T=>∃al tb G,j<=l.length/\E 1 = .ptr 0 0/\E 2 = .ptr 1 0/\E 4 = .ptr 2 0/\E 5 = .int (j:Nat)/\H = .cells false [.int 2,.int k,.str nm,.sl l t] :: .cells false [.str ⟨#[]⟩,.sl [] .nil] :: .cells false [.str nm,.sl al tb]::G/\App T al tb/\Dt.RL (Vl.trees (p.take j)) al/\gi al=true) ?_ 0 ⟨[],.nil,[],dk _,rfl,rfl,rfl,rfl,rfl,.inl ⟨rfl,rfl⟩,by rw[List.take_zero,Vl.trees,Dt.RL],gz⟩
  rintro j E _ T ⟨al,tb,G,hj,e1,e2,e4,e5,rfl,hA,hR,hpu⟩
  rcases dj j l.length with hlt|hge
  ·have hdec:decide ((j:Int)<(l.length:Nat))=true:=by simpa using hlt
   have hjp:j<p.length:=by omega
   obtain⟨av,g1,g2⟩:=hl.at (i:=j) (aa hjp)
   obtain⟨_,⟨d,rfl,hd1,hd2⟩,cv⟩:=(ih p[j] (List.getElem_mem hjp) g2 (lg.1 hoks _ (List.getElem_mem hjp)) (hkid _ (List.getElem_mem hjp))).call rfl (by simp[gp,gz,g2.pure,oj])
   obtain⟨k1,n1,s1,l1,t1,rfl⟩:=g2.four
   obtain⟨c0,das,t0,rfl,_⟩:=id hd1.two
   obtain⟨m1,m2⟩:=RL.Ki hR
   have hal:=RL.len hR
   rw[sw,b7]at hal
   obtain⟨tb',V3,f1,f2,f3⟩:=rn (es:=2) (xs:=[.agg [.str c0,.sl das t0]]) hA (by simp only[ak,ao];omega) m1 rfl
   simp only[↓fm,wall,simprocAttr,wH,e1,e2,e4,e5,hdec,g1,h4,cv,f1]
   refine jg ⟨j+1,by omega,_,tb',_,by omega,e1,e2,e4,ij (by omega),rfl,f2, ?_,Hm hpu (by rw[gp,hd2];exact gz)⟩
   rw[bj,aa hjp,Option.toList_some,E7];exact RL.snoc hR hd1
  ·have hdec:decide ((j:Int)<(l.length:Nat))=false:=by simpa using hge
   simp only[↓fm,wall,simprocAttr,wH,e1,e2,e4,e5,hdec]
   rw[au (by omega)]at hR
   have hal:=RL.len hR
   rw[sw]at hal
   obtain⟨t',h1,h2⟩:=Dz (s:=⟨.cells false [.int 2,.int k,.str nm,.sl l t] :: .cells false [.str nm,.sl al tb] :: .cells false [.str nm,.sl al tb]::G,T⟩) hA hpu (n:=1018) (by decide)
   rw[a52]
   simp only[il,h2,jh (n:=1017) (show im (.str nm)=true from rfl),fh]
   exact⟨_,rfl,_,rfl,by rw[Vl.tree,Dt.R];exact⟨t',al,rfl,hR,by omega⟩,by simp[n6,gp,gz,kl,oj,h1,hpu]⟩
def Ms.small (s:Ms):Bool:=if s.halted=true then(match s.stack with
 | []=>true
 | v::_=>decide (0<=v.vis 16384))else true
theorem Np {a:AV} {l:List AV}:(a::l).reverse[l.length]? = some a:=by
 rw[List.reverse_cons,af (by simp),List.length_reverse,Nat.sub_self];rfl
section
variable {Z:List Int} {H:List fq} {V:List Nat} {r rm:Nat} {fa:AV} {c:Cd} {s:Ms}
theorem M4 (hM:RR H r rm fa c s) (hb:s.stack.length<=1000000):Rw 58 [.ptr r 0] ⟨H,V⟩ λv s1=>s1=⟨H,V⟩/\v = .bool s.small:=by
 obtain⟨Bs,t1,t2,t3,el,et,sl,ts,q1,q2,q3,q4,q5⟩:=hM.m.m6
 have hbr:=hM.b
 simp only[rcs]at q1
 refine ju pf58_is (dh rfl) ?_
 cases hh:s.halted
 ·rw[hh]at q1
  simp only[pf58,↓fm,wall,simprocAttr,wH,fw,fj,hbr,q1]
  rw[Ms.small,if_neg (by rw[hh];simp)]
 rw[hh]at q1
 cases hs:s.stack with
 | nil=>
  rw[hs,RVs]at q5;subst q5
  simp only[List.reverse_nil]at q1
  simp only[pf58,↓fm,wall,simprocAttr,wH,fw,fj,hbr,q1]
  rw[Ms.small,if_pos hh,hs]
 | cons v st=>
  rw[hs,RVs]at q5
  obtain⟨a,l',rfl,hv,h5⟩:=q5
  obtain⟨_,rfl,cv⟩:=(Qj v (n:=16384) hv (di _)).call rfl (by simp[gp,gz,hv.pure,oj])
  obtain⟨k1,n1,s1,l1,v1,rfl⟩:=hv.four
  have hlen:=h5.len
  rw[hs,ak]at hb
  have hL:(AV.agg [.int k1,.int n1,.str s1,.sl l1 v1]::l').reverse.length=l'.length+1:=by simp
  have h4:((AV.agg [.int k1,.int n1,.str s1,.sl l1 v1]::l').reverse.all λx=>x.cells.length==4)=true:=na (by rw[cz,h5.wm.1];rfl)
  have hg:=Np (a:=AV.agg [.int k1,.int n1,.str s1,.sl l1 v1]) (l:=l')
  have hw:IntKind.i64.wrap (((l'.length+1:Nat):Int)-1)=(l'.length:Nat):=(gw (by unfold jn;omega)).trans (by omega)
  have hlt:((l'.length:Nat):Int)<((l'.length+1:Nat):Int):=by omega
  have hz:(((l'.length+1:Nat):Int)==0)=false:=by simp;omega
  have hcast:((16384:Nat):Int)=16384:=rfl
  rw[hcast]at cv
  simp only[pf58,↓fm,wall,simprocAttr,wH,fw,fj,hbr,q1,hL,h4,hg,hw,hlt,hz,cv]
  rw[Ms.small,if_pos hh,hs]
theorem Ko (hM:RR H r rm fa c s) (hS:Safe c Z s) (hb:s.stack.length<=1000000):Rw 61 [.ptr r 0] ⟨H,V⟩ λv s1=>Ap H V s1.H s1.T /\ ∃d,v = .tup [d,.int s.sq]/\s.Cy.R d:=by
 obtain⟨Bs,t1,t2,t3,el,et,sl,ts,q1,q2,q3,q4,q5⟩:=hM.m.m6
 have hbr:=hM.b
 have hrl:=fu hbr
 have hml:=fu q1
 simp only[rcs]at q1
 have hgb:=λG:List fq=>(gal (G:=G) hrl).trans hbr
 have hgm:=λG:List fq=>(gal (G:=G) hml).trans q1
 refine ju pf61_is (dh rfl) ?_
 cases he:(s.err != 0)
 rotate_left
 ·have e1:s.sq=27:=by rw[Ms.sq,if_neg (by simp[bne]at he;simp[he])]
  simp only[pf61,↓fm,wall,simprocAttr,wH,fw,fj,hgb,hgm,he]
  refine⟨.app _ _ _,_,by rw[e1], ?_⟩
  rw[Ms.Cy,if_neg (by rw[e1];decide)];exact ub
 cases hh:s.halted
 ·have e1:s.sq=27:=by rw[Ms.sq,if_neg (by rw[hh];simp)]
  rw[hh]at hgm
  simp only[pf61,↓fm,wall,simprocAttr,wH,fw,fj,hgb,hgm,he]
  refine⟨.app _ _ _,_,by rw[e1], ?_⟩
  rw[Ms.Cy,if_neg (by rw[e1];decide)];exact ub
 rw[hh]at hgm
 have he0:s.err=0:=by simpa[bne]using he
 obtain⟨hne,hvs⟩:s.stack ≠ []/\kj c Z s.stack:=by
  rcases hS with⟨h,_⟩|⟨_,_,h⟩|h
  ·exact absurd he0 h
  ·exact h
  ·rw[h.h]at hh;cases hh
 cases hs:s.stack with
 | nil=>exact absurd hs hne
 | cons v st=>
  have hok:VOK c Z v:=by rw[hs,kj]at hvs;exact hvs.1
  rw[hs,RVs]at q5
  obtain⟨a,l',rfl,hv,h5⟩:=q5
  obtain⟨_,rfl,cd⟩:=(S4 v hv hok).call rfl (by simp[gp,gz,hv.pure,oj])
  have hv':=hv
  obtain⟨k1,n1,s1,l1,v1,rfl⟩:=hv.four
  have hlen:=h5.len
  rw[hs,ak]at hb
  have hL:(AV.agg [.int k1,.int n1,.str s1,.sl l1 v1]::l').reverse.length=l'.length+1:=by simp
  have h4:((AV.agg [.int k1,.int n1,.str s1,.sl l1 v1]::l').reverse.all λx=>x.cells.length==4)=true:=na (by rw[cz,h5.wm.1];rfl)
  have hg:=Np (a:=AV.agg [.int k1,.int n1,.str s1,.sl l1 v1]) (l:=l')
  have hw:IntKind.i64.wrap (((l'.length+1:Nat):Int)-1)=(l'.length:Nat):=(gw (by unfold jn;omega)).trans (by omega)
  have hlt:((l'.length:Nat):Int)<((l'.length+1:Nat):Int):=by omega
  have hz:(((l'.length+1:Nat):Int)==0)=false:=by simp;omega
  have eE:s.sq=if v.cnt<0 then 10 else if 4096<v.cnt then 5 else 0:=by rw[Ms.sq,if_pos ⟨hh,he0⟩,hs]
  have hcnt:=Hu v
  have hbd:=C2 v
  cases h2:v.dat.2
  ·rw[h2]at cd hcnt
   have e1:s.sq=10:=by rw[eE,hcnt];rfl
   simp only[pf61,↓fm,wall,simprocAttr,wH,fw,fj,hgb,hgm,he,hL,h4,hg,hw,hlt,hz,cd]
   refine⟨.app _ _ _,_,by rw[e1], ?_⟩
   rw[Ms.Cy,if_neg (by rw[e1];decide)];exact ub
  rw[h2]at cd hcnt
  rw[if_pos rfl]at hcnt
  cases h3:decide (v.dat.1>4096)
  ·have h3':v.dat.1<=4096:=by simpa using h3
   have e0:s.sq=0:=by rw[eE,if_neg (by omega),if_neg (by omega)]
   obtain⟨_,⟨d,rfl,hd,_⟩,ct⟩:=(Ou v hv' hok h2).call rfl (by simp[gp,gz,hv'.pure])
   have hd':=hd
   obtain⟨c0,das,t0,rfl,_⟩:=hd.two
   simp only[pf61,↓fm,wall,simprocAttr,wH,fw,fj,hgb,hgm,he,hL,h4,hg,hw,hlt,hz,cd,h3,ct]
   refine⟨.app _ _ _,_,by rw[e0], ?_⟩
   rw[Ms.Cy,if_pos e0,hs];exact hd'
  ·have h3':4096<v.dat.1:=by simpa using h3
   have e1:s.sq=5:=by rw[eE,if_neg (by omega),if_pos (by omega)]
   simp only[pf61,↓fm,wall,simprocAttr,wH,fw,fj,hgb,hgm,he,hL,h4,hg,hw,hlt,hz,cd,h3]
   refine⟨.app _ _ _,_,by rw[e1], ?_⟩
   rw[Ms.Cy,if_neg (by rw[e1];decide)];exact ub
theorem Pd (hS:Safe c Z s) (h:s.small=false):s.sq=5\/s.sq=10:=by
 unfold Ms.small at h
 split at h
 ·rename_i hh
  have he0:s.err=0:=by
   rcases hS with⟨_,h1⟩|⟨h1,_⟩|h1
   ·rw[h1]at hh;cases hh
   ·exact h1
   ·exact h1.e
  cases hs:s.stack with
  | nil=>rw[hs]at h;cases h
  | cons v st=>
   rw[hs]at h
   simp only[decide_eq_false_iff_not]at h
   have hb:=C2 v
   rw[Ms.sq,if_pos ⟨hh,he0⟩,hs]
   simp only
   rw[Hu]
   cases hd:v.dat.2
   ·right;rfl
   ·rw[if_pos rfl,if_neg (by omega)]
    by_cases h4:4096<v.dat.1
    ·rw[if_pos h4];exact .inl rfl
    ·exact absurd (Od v (n:=16384) hd (by omega) (by omega)) (by omega)
 ·cases h
end
end Go.Proofs.Eng
namespace Go.Proofs.Eng
open Go Go.Proofs
set_option maxRecDepth 100000
set_option maxHeartbeats 16000000
def Rw3 (f:FuncId) (args:List AV) (s:ASt) (PR:AV->ASt->Prop):Prop:=∃v s1,run md yx f args s=some (.ret v,s1)/\PR v s1
theorem a1n {f:FuncId} {pf:PF} (hp:yx f=some pf) {args:List AV} {s:ASt} {PR:AV->ASt->Prop} (hn:args.length<=pf.nt) (h:W (run md yx) md pf.body ⟨tmE pf.nt (v8 args),[],s⟩ (AQ pf.res PR) ()):Rw3 f args s PR:=by
 unfold Rw3
 rw[run_eq hp (Nr h)]
 unfold Dj
 rw[Dd args pf.nt hn]
 unfold W at h
 cases hx:iy (run md yx) md (sd (run md yx) md) pf.body ⟨tmE pf.nt (v8 args),[],s⟩with
 | none=>rw[hx]at h;exact h.elim
 | some x=>
  obtain⟨r,st⟩:=x
  obtain⟨tm,df,s⟩:=st
  rw[hx]at h
  cases r with
  | exit i=>exact h.elim
  | pan v=>exact h.elim
  | normal=>
   obtain⟨h1,l,h2,h3⟩:=h
   simp only at h1;subst h1
   refine⟨oq l,s, ?_,h3⟩
   simp only at h2
   simp only[List.isEmpty_nil,ed,er,dz,if_false,jw,h2];rfl
  | ret=>
   obtain⟨h1,l,h2,h3⟩:=h
   simp only at h1;subst h1
   refine⟨oq l,s, ?_,h3⟩
   simp only at h2
   simp only[List.isEmpty_nil,ed,er,dz,if_false,jw,h2];rfl
theorem Rw3.call {f:FuncId} {args:List AV} {s:ASt} {PR:AV->ASt->Prop} (h:Rw3 f args s PR) (hm:md f = .raw):∃v s',PR v s' /\ ∀K KP,CW (run md yx) md false s f args K KP ()=K v s':=by
 obtain⟨v,s1,h1,h2⟩:=h
 exact⟨v,s1,h2,λK KP=>by simp[CW,me,my,mg,hm,h1]⟩
theorem Ok:∀{l:List (List Ins)} {al:List AV},LIs Em l al->LIs blX l al
 | [],[],_=>trivial
 | [],_::_,h=>h.elim
 | _::_,[],h=>h.elim
 | _::_,_::_,⟨⟨t,e,_⟩,h2⟩=>⟨⟨t,e⟩,Ok h2⟩
theorem Zq {c:Cd} {Bs:List AV} {t1 t2 t3:Tl} (h:LIs blX c.bl Bs) (H:List fq) (V:List Nat):Rw 57 [.agg [.sl Bs t1,.sl (nmA c.gl) t2,.sl (ints c.st) t3]] ⟨H,V⟩ λv s1=>∃rm,H.length<=rm/\v = .ptr rm 0/\Ap H V s1.H s1.T/\RI s1.H rm (.sl [] .nil) c Ms.start:=by
 refine ju pf57_is (dh rfl) ?_
 simp only[pf57,↓fm,wall,simprocAttr,wH,fw,fj]
 refine⟨H.length+1,by omega,rfl,.app _ _ _,⟨⟨Bs,t1,t2,t3,[],.nil,[],.nil, ?_,h,by rw[Ms.start,RVs],rfl,by rw[Ms.start,RVs]⟩,.inl ⟨rfl,rfl⟩,λk e=>by cases e⟩⟩
 rw[af (by omega)];simp[rcs,Ms.start]
section
variable {Z:List Int} {F F':Fz} {H H':List fq} {V:List Nat} {m r rm:Nat} {sa fa fr:AV} {c:Cd} {s:Ms}
theorem Uw {a:AV} (h:c.Is a) (hok:okR c=true) (H:List fq) (V:List Nat):Rw3 13 [a] ⟨H,V⟩ λv s1=>Ap H V s1.H s1.T/\((c.check ≠ 0/\v = .tup [.v (.pointer none),.int c.check])\/(c.check=0 /\ ∃r rm,H.length<=r/\H.length<=rm/\v = .tup [.ptr r 0,.int 0]/\RR s1.H r rm (.sl [] .nil) c Ms.start)):=by
 obtain⟨Bs,t1,t2,t3,rfl,g1,g2,g3,g4,g5,g6,g7⟩:=id h
 obtain⟨_,rfl,cr⟩:=(Z4 (Yy h) hok).call rfl (by simp[gp,gz,Ca h])
 refine a1n (B3 _ _ pf13_is) (dh rfl) ?_
 cases hz:(c.check==0)
 ·have hz':c.check ≠ 0:=by simpa using hz
  have hne:(c.check != 0)=true:=by simp[bne,hz]
  simp only[pf13,↓fm,wall,simprocAttr,wH,fw,fj,cr,hne]
  exact⟨.app _ _ _,.inl hz'⟩
 have hz':c.check=0:=by simpa using hz
 rw[hz']at cr
 obtain⟨_,⟨H1,V1⟩,⟨rm,hrm,rfl,hA,hI⟩,cm⟩:=(Zq (t1:=t1) (t2:=t2) (t3:=t3) (Ok g1) (H++[.cells false [.sl Bs t1,.sl (nmA c.gl) t2,.sl (ints c.st) t3]]) V).call3 rfl
 simp only[pf13,↓fm,wall,simprocAttr,wH,fw,fj,cr,cm]
 simp only[ah,List.length_singleton]at hrm
 have hml:=hI.lt (.inl rfl)
 have hAll:Ap H V (H1++[.cells false [.ptr rm 0,.int 0]]) V1:=(Ap.app H V _).trans (hA.trans (.app _ _ _))
 refine⟨hAll,.inr ⟨hz',H1.length,rm, ?_,by omega,rfl,⟨gae,(hI.more _).1,λh => ?_⟩⟩⟩
 ·simp only at hml;omega
 ·rcases h with h|h
  ·simp only at hml;omega
  ·cases h
theorem RR.frame (hR:RR H r rm fr c s) {U U':Nat->Prop} (hx:Nx F H U F' H' U') (hd:∀k,OwQ r rm fr k->F k=none /\ ¬U k):RR H' r rm fr c s /\ ∀k,OwQ r rm fr k->F' k=none /\ ¬U' k:=by
 have hk:∀k:Nat,OwQ r rm fr k->H'[k]? = H[k]? := λk h=>hx.jb k (hR.lt h) (hd k h).2
 obtain⟨Bs,t1,t2,t3,el,et,sl,ts,q1,q2,q3,q4,q5⟩:=hR.m.m6
 refine⟨⟨(hk r (.inl rfl)).trans hR.b,⟨⟨Bs,t1,t2,t3,el,et,sl,ts,(hk rm (.inr (.inl rfl))).trans q1,q2,q3,q4,q5⟩,hR.m.fr.jb λb e=>hk b (.inr (.inr e)),hR.m.d⟩,hR.d⟩,λk h => ?_⟩
 have h2:=hR.lt h
 obtain⟨h3,h4⟩:=hd k h
 refine⟨?_,λhu => ?_⟩
 ·cases hf:F' k with
  | none=>rfl
  | some l=>
   rcases hx.new k (by rw[hf];simp)with h5|h5
   ·exact absurd h3 h5
   ·omega
 ·rcases hx.own k hu with h1|h1
  ·exact h4 h1
  ·omega
theorem RR.ap (hR:RR H r rm fr c s) {V':List Nat} (h:Ap H V H' V'):RR H' r rm fr c s:=by
 have hk:∀k:Nat,OwQ r rm fr k->H'[k]? = H[k]? := λk hk=>by
  have:=hR.lt hk
  rw[aa this];exact h.h k _ (aa this)
 obtain⟨Bs,t1,t2,t3,el,et,sl,ts,q1,q2,q3,q4,q5⟩:=hR.m.m6
 exact⟨(hk r (.inl rfl)).trans hR.b,⟨⟨Bs,t1,t2,t3,el,et,sl,ts,(hk rm (.inr (.inl rfl))).trans q1,q2,q3,q4,q5⟩,hR.m.fr.jb λb e=>hk b (.inr (.inr e)),hR.m.d⟩,hR.d⟩
theorem MR.a3e (hM:MR F H m sa fa c s) (hF:Fro F H) {U U':Nat->Prop} (hx:NxR H U H' U') (hd:∀k,U k->F k=none /\ ¬Own m sa fa k):MR F H' m sa fa c s/\Fro F H' /\ ∀k,U' k->F k=none /\ ¬Own m sa fa k:=by
 have hk:∀k:Nat,Own m sa fa k->H'[k]? = H[k]? := λk h=>hx.jb k (hM.lt h) λhu=>(hd k hu).2 h
 obtain⟨Bl,tb,t2,t3,ea,b1,b2,b3⟩:=hM.m6
 have hFl:∀k,F k ≠ none->k<H.length:=λk h=>by
  cases hf:F k with
  | none=>exact absurd hf h
  | some l=>exact fu (hF k l hf)
 refine⟨⟨⟨Bl,tb,t2,t3,ea,(hk m (.inl rfl)).trans b1,b2,b3⟩,hM.st.jb λb e=>hk b (.inr (.inl e)),hM.fr.jb λb e=>hk b (.inr (.inr e)),hM.fz,hM.d1,hM.d2⟩,λk l h => ?_,λk hu => ?_⟩
 ·rw[hx.jb k (hFl k (by rw[h];simp)) λhu=>by rw[(hd k hu).1]at h;cases h];exact hF k l h
 ·rcases hx.own k hu with h|h
  ·exact hd k h
  ·refine⟨?_,λh2=>by have:=hM.lt h2;omega⟩
   cases hf:F k with
   | none=>rfl
   | some l=>have:=hFl k (by rw[hf];simp);omega
theorem Bn (hM:MR F H m sa fa c s) (hF:Fro F H) (hS:Safe c Z s) (hR:RR H r rm fr c s) (hb:s.stack.length<=1000000) :
  Rw 14 [.ptr m 0,.ptr r 0] ⟨H,V⟩ λv s1=>v = .bool true/\Ap H V s1.H s1.T:=by
 obtain⟨_,_,⟨rfl,rfl⟩,csm⟩:=(M4 (V:=V) hR hb).call rfl
 obtain⟨_,⟨H1,V1⟩,⟨hA1,d1,rfl,hd1⟩,c1⟩:=(Mx (V:=V) hM hF hS hb).call rfl
 obtain⟨a1,das1,u1,rfl,_⟩:=hd1.two
 obtain⟨D1,hD1⟩:∃D,D=fq.cells false [.str a1,.sl das1 u1]:=⟨_,rfl⟩
 have hA2:Ap H V (H1++[D1]) V1:=hA1.trans (.app _ _ _)
 obtain⟨hM2,hF2⟩:=hM.ap hF hA2
 have hR2:=hR.ap hA2
 refine ju pf14_is (dh rfl) ?_
 cases hsm:s.small
 ·rw[hsm]at csm
  obtain⟨_,_,⟨rfl,rfl⟩,cs1⟩:=(Ej (V:=V1) hM2).call rfl
  obtain⟨_,_,⟨rfl,rfl⟩,cs2⟩:=(E4 (V:=V1) hR2).call rfl
  obtain⟨_,_,⟨rfl,rfl⟩,cd1⟩:=(Gu (V:=V1) hM2).call rfl
  obtain⟨_,_,⟨rfl,rfl⟩,cd2⟩:=(F0 (V:=V1) hR2).call rfl
  subst hD1
  rcases Pd hS hsm with e|e
  ·rw[e]at c1
   simp only[pf14,↓fm,wall,simprocAttr,wH,fw,fj,csm,c1,cs1,cs2,cd1,cd2]
   exact hA2
  ·rw[e]at c1
   simp only[pf14,↓fm,wall,simprocAttr,wH,fw,fj,csm,c1,cs1,cs2,cd1,cd2]
   exact hA2
 rw[hsm]at csm
 obtain⟨_,⟨H3,V3⟩,⟨hA3,d2,rfl,hd2⟩,c2⟩:=(Ko (V:=V1) hR2 hS hb).call rfl
 obtain⟨a2,das2,u2,rfl,_⟩:=hd2.two
 obtain⟨D2,hD2⟩:∃D,D=fq.cells false [.str a2,.sl das2 u2]:=⟨_,rfl⟩
 have hA4:Ap (H1++[D1]) V1 (H3++[D2]) V3:=hA3.trans (.app _ _ _)
 obtain⟨hM4,hF4⟩:=hM2.ap hF2 hA4
 have hR4:=hR2.ap hA4
 have l1:(H3++[D2])[H1.length]? = some D1:=hA4.h _ _ (by rw[xj];rfl)
 obtain⟨_,_,⟨rfl,rfl⟩,cs1⟩:=(Ej (V:=V3) hM4).call rfl
 obtain⟨_,_,⟨rfl,rfl⟩,cs2⟩:=(E4 (V:=V3) hR4).call rfl
 obtain⟨_,_,⟨rfl,rfl⟩,cd1⟩:=(Gu (V:=V3) hM4).call rfl
 obtain⟨_,_,⟨rfl,rfl⟩,cd2⟩:=(F0 (V:=V3) hR4).call rfl
 obtain⟨_,⟨H5,V5⟩,⟨rfl,hA5⟩,cq⟩:=(I5 _ (H:=H3++[D2]) (V:=V3) hd1 hd2).call rfl
 subst hD1 hD2
 simp only[pf14,↓fm,wall,simprocAttr,wH,fw,fj,csm,c1,c2,cs1,cs2,cd1,cd2,l1,cq]
 exact hA2.trans (hA4.trans hA5)
end
end Go.Proofs.Eng
namespace Go.Proofs.Eng
open Go Go.Proofs
set_option maxRecDepth 100000
set_option maxHeartbeats 16000000
def Hz (l:List Int):List AV:=l.map λi=>.v (.int .i16 i)
theorem Ty {l:List Int} {j:Nat} (h:j<l.length):(Hz l)[j]? = some (.v (.int .i16 l[j])):=by rw[Hz,bh,aa h];rfl
theorem Rt (l:List Int):((Hz l).all λx=>x.cells.length==1)=true:=by
 rw[aw];intro x hx
 obtain⟨b,_,rfl⟩:=List.mem_map.1 hx;rfl
theorem ti (l:List Int):(Hz l).length=l.length:=by simp[Hz]
theorem Sz {c:Cd} {a:AV} (h:c.Is a) (hn:∀g ∈ c.gl,g.size<=jj) (hnm:∀b ∈ c.bl,∀x ∈ b,x.n.size<=jj) {ul:List Int} {t:Tl} (hu:∀x ∈ ul, -32768<=x/\x<=32767) (hul:ul.length<=jj):Out md yx 3 [a,.sl (Hz ul) t] (· = .bool true) λ_=>False:=by
 obtain⟨Bs,t1,t2,t3,rfl,g1,g2,g3,g4,g5,g6,g7⟩:=id h
 have hlb:jj=9223372036854775807:=rfl
 have hpu:gi [.agg [.sl Bs t1,.sl (nmA c.gl) t2,.sl (ints c.st) t3]]=true:=by simp[gp,gz,Ca h]
 refine jt (B3 _ _ pf3_is) (dh rfl) ?_
 obtain⟨_,rfl,cf⟩:=((Qu h).ext B3).call rfl hpu
 obtain⟨_,rfl,ca⟩:=(Qx.ext B3).call rfl rfl
 cases hf:Ce c
 ·rw[hf]at cf
  simp only[pf3,↓fm,wall,simprocAttr,wH,cf,ca]
 rw[hf]at cf
 cases h12:decide (((ul.length:Nat):Int)>12)
 rotate_left
 ·simp only[pf3,↓fm,wall,simprocAttr,wH,cf,ca,ti,h12]
 have hle12:ul.length<=12:=by simp at h12;omega
 obtain⟨o1,o2,o3,o4,o5⟩:=Sa hf hn hnm
 obtain⟨v,⟨H1,V1⟩,⟨_,_,e,hA1,hv1⟩,cN⟩:=(Yj h hn hnm (by omega) (by omega) (by omega) (by omega) [.cells false [.sl Bs t1,.sl (nmA c.gl) t2,.sl (ints c.st) t3]] []).call3 rfl
 cases e
 obtain⟨v2,⟨H2,V2⟩,⟨hA2,hv2⟩,cR⟩:=(Uw h o1 H1 V1).call rfl
 have hb0:H1[0]? = some (.cells false [.sl Bs t1,.sl (nmA c.gl) t2,.sl (ints c.st) t3]):=hA1.h 0 _ rfl
 cases hz:(c.check==0)
 ·have hz':c.check ≠ 0:=by simpa using hz
  have hne:(c.check != 0)=true:=by simp[bne,hz]
  rcases hv1 with⟨_,rfl⟩|⟨h',_⟩
  rotate_left
  ·exact absurd h' hz'
  rcases hv2 with⟨_,rfl⟩|⟨h',_⟩
  rotate_left
  ·exact absurd h' hz'
  simp only[pf3,↓fm,wall,simprocAttr,wH,cf,ca,ti,h12,cN,cR,hb0,hne]
 have hz':c.check=0:=by simpa using hz
 obtain⟨Z,hC⟩:=Sw hz'
 have hsz:c.bd c.bl.length<=400000:=by rw[a4t];omega
 rcases hv1 with⟨h',_⟩|⟨_,m,Bl,tb,u2,u3,hm,rfl,hM,hB⟩
 ·exact absurd hz' h'
 rcases hv2 with⟨h',_⟩|⟨_,r,rm,hr,hrm,rfl,hRR⟩
 ·exact absurd hz' h'
 have hM0:MR (λ_=>none) H1 m (.sl [] .nil) (.sl [] .nil) c Ms.start:=⟨⟨Bl,tb,u2,u3,_,hM,hB,by rw[Ms.start,ER]⟩,.inl ⟨rfl,rfl⟩,.inl ⟨rfl,rfl⟩,λ_ _=>rfl,λ_ h=>(by cases h),λ_ h=>(by cases h)⟩
 have hF0:Fro (λ_=>none) H1:=λ_ _ h=>by cases h
 obtain⟨hM2,hF2⟩:=hM0.ap hF0 hA2
 have hml:=fu hM
 obtain⟨_,⟨H3,V3⟩,⟨rfl,hA3⟩,cA⟩:=(Bn (V:=V2) hM2 hF2 (Ee hC) hRR (by decide)).call3 rfl
 obtain⟨hM3,hF3⟩:=hM2.ap hF2 hA3
 have hR3:=hRR.ap hA3
 simp only[pf3,↓fm,wall,simprocAttr,wH,cf,ca,ti,h12,cN,cR,hb0,cA]
 refine j7 (λj=>ul.length-j) (λj E H' V'=>∃F' sa fa fr s,j<=ul.length/\E 1 = .sl (Hz ul) t/\E 5 = .ptr m 0/\E 7 = .ptr r 0/\E 9 = .int (j:Nat)/\MR F' H' m sa fa c s/\Fro F' H'/\Safe c Z s/\RR H' r rm fr c s/\(∀k,OwQ r rm fr k->F' k=none /\ ¬Own m sa fa k)/\s.steps<=199*j/\s.stack.length<=199*j/\s.gq.length<=199*j) ?_ 0
  ⟨_,_,_,_,_,dk _,rfl,rfl,rfl,rfl,hM3,hF3,Ee hC,hR3,λk h1=>⟨rfl,λh2 => ?_⟩,di _,di _,di _⟩
 rotate_left
 ·rcases h2 with h2|h2|h2
  ·rcases h1 with h1|h1|h1
   ·omega
   ·omega
   ·cases h1
  ·cases h2
  ·cases h2
 rintro j E H' V' ⟨F',sa,fa,fr,s,hj,e1,e5,e7,e9,hM',hF',hS',hR',hd',b1,b2,b3⟩
 rcases dj j ul.length with hlt|hge
 ·have hdec:decide ((j:Int)<ul.length)=true:=by simpa using hlt
  obtain⟨x1,x2⟩:=hu ul[j] (List.getElem_mem hlt)
  have hg:=Ty hlt
  have hone:=Rt ul
  obtain⟨x,hx⟩:∃x,x=ul[j]:=⟨_,rfl⟩
  rw[<- hx]at hg x1 x2
  have hwx:IntKind.i64.wrap x=x:=gw (by unfold jn;omega)
  obtain⟨y,hy⟩:∃y,y=x.tmod 200:=⟨_,rfl⟩
  have hyb : -199<=y/\y<=199:=by
   rw[hy]
   rcases Int.le_total 0 x with h|h
   ·rw[Int.tmod_eq_emod_of_nonneg h];omega
   ·have h2:(-x).tmod 200=(-x) % 200:=Int.tmod_eq_emod_of_nonneg (by omega)
    rw[Int.neg_tmod]at h2;omega
  have hwy:IntKind.i64.wrap y=y:=gw (by unfold jn;omega)
  rcases Int.lt_or_le y 0 with hy0|hy0
  ·obtain⟨_,_,⟨rfl,rfl⟩,c1⟩:=(Mf hy0 H' V' m).call3 rfl
   obtain⟨_,_,⟨rfl,rfl⟩,c2⟩:=(T9 hy0 H' V' r).call3 rfl
   obtain⟨_,⟨H6,V6⟩,⟨rfl,hA6⟩,cA6⟩:=(Bn (V:=V') hM' hF' hS' hR' (by omega)).call3 rfl
   obtain⟨hM6,hF6⟩:=hM'.ap hF' hA6
   simp only[↓fm,wall,simprocAttr,wH,e1,e5,e7,e9,hdec,ti,hg,hone,hwx,<- hy,hwy,c1,c2,cA6]
   exact jg ⟨j+1,by omega,_,_,_,_,s,by omega,e1,e5,e7,ij (by omega),hM6,hF6,hS',hR'.ap hA6,hd',by omega,by omega,by omega⟩
  ·obtain⟨k,rfl⟩:=Int.eq_ofNat_of_zero_le hy0
   obtain⟨_,⟨H4,V4⟩,⟨F4,sa4,fa4,s4,⟨hs4,rfl⟩,hM4,hF4,hx4⟩,c1⟩:=(X7 (V:=V') hC hsz k hM' hF' hS' (by omega) (by omega)).call3 rfl
   obtain⟨q1,q2,_,q4⟩:=Jf hC k hS' (by omega)
   obtain⟨hR4,hd4⟩:=hR'.frame hx4 hd'
   obtain⟨_,⟨H5,V5⟩,⟨rfl,hfr,fr5,hR5,hx5⟩,c2⟩:=(Tr (V:=V4) hC hsz k hR4 hS' (by omega) (by omega) (by omega)).call3 rfl
   rw[<- hs4]at q1 q2 q4 hfr hR5 c2
   obtain⟨hM5,hF5,hd5⟩:=hM4.a3e hF4 hx5 hd4
   obtain⟨_,⟨H6,V6⟩,⟨rfl,hA6⟩,cA6⟩:=(Bn (V:=V5) hM5 hF5 q1 hR5 (by omega)).call3 rfl
   obtain⟨hM6,hF6⟩:=hM5.ap hF5 hA6
   have fin:∃F' sa fa fr s,j+1<=ul.length/\MR F' H6 m sa fa c s/\Fro F' H6/\Safe c Z s/\RR H6 r rm fr c s/\(∀k,OwQ r rm fr k->F' k=none /\ ¬Own m sa fa k)/\s.steps<=199*(j+1)/\s.stack.length<=199*(j+1)/\s.gq.length<=199*(j+1):=⟨F4,sa4,fa4,fr5,s4,by omega,hM6,hF6,q1,hR5.ap hA6,hd5,by omega,by omega,by omega⟩
   obtain⟨z,hzz⟩:∃z,z=(s4.err==0):=⟨_,rfl⟩
   obtain⟨w,hw⟩:∃w,w=s4.halted:=⟨_,rfl⟩
   rw[<- hzz,<- hw]at c1 c2
   obtain⟨F6,sa6,fa6,fr6,s6,w1,w2,w3,w4,w5,w6,w7⟩:=fin
   have hne:(s4.err != s4.err)=false:=by simp
   cases z<;>cases w<;>simp only[Bool.and_true,er,Bool.true_and,ej]at c1 c2<;>simp only[↓fm,wall,simprocAttr,wH,e1,e5,e7,e9,hdec,ti,hg,hone,hwx,<- hy,hwy,c1,c2,cA6,hne]
   all_goals exact jg ⟨j+1,by omega,_,_,_,_,s6,w1,e1,e5,e7,ij (by omega),w2,w3,w4,w5,w6,w7⟩
 ·have hdec:decide ((j:Int)<ul.length)=false:=by simpa using hge
  simp only[↓fm,wall,simprocAttr,wH,e1,e5,e7,e9,hdec,ti,ca]
end Go.Proofs.Eng
