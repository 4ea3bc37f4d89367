/- The tree of data. No conditions beyond those in the theorems. -/
import Derived.Test.YtflfmkkcnphdcaaGreatP1
import Derived.Test.YtflfmkkcnphdcaaGreatNQ
set_option linter.all false
set_option linter.deprecated false
set_option linter.unnecessarySimpa false
set_option linter.unusedVariables false
set_option linter.unusedSimpArgs false
set_option linter.defProp false
namespace Go.Proofs.Eng
open Go Go.Proofs
set_option maxRecDepth 100000
set_option maxHeartbeats 16000000
end Go.Proofs.Eng
namespace Go.Proofs.Eng
open Go Go.Proofs
set_option maxRecDepth 100000
set_option maxHeartbeats 16000000
section
variable {F:Fz} {H:List fq} {V:List Nat} {m:Nat} {sa fa:AV} {c:Cd} {s:Ms}
theorem Gu (hM:MR F H m sa fa c s):Rw 22 [.ptr m 0] ⟨H,V⟩ λv s1=>s1=⟨H,V⟩/\v = .int (s.gq.length:Nat):=by
 obtain⟨Bl,tb,t2,t3,ea,b1,b2,b3⟩:=hM.m6
 simp only[mcs]at b1
 refine ju pf22_is (dh rfl) ?_
 rcases hM.fr with⟨rfl,hn⟩|⟨b,cs,rfl,h1,h2,h3⟩
 ·simp only[pf22,↓fm,wall,simprocAttr,wH,fw,fj,b1]
  rw[hn];rfl
 ·simp only[pf22,↓fm,wall,simprocAttr,wH,fw,fj,b1]
theorem Ej (hM:MR F H m sa fa c s):Rw 21 [.ptr m 0] ⟨H,V⟩ λv s1=>s1=⟨H,V⟩/\v = .int (s.steps:Nat):=by
 obtain⟨Bl,tb,t2,t3,ea,b1,_⟩:=hM.m6
 exact Py b1
theorem Mf {i:Int} (hi:i<0) (H:List fq) (V:List Nat) (m:Nat):Rw 15 [.ptr m 0,.int i] ⟨H,V⟩ λv s1=>s1=⟨H,V⟩/\v = .tup [.bool false,.int 2]:=by
 refine ju pf15_is (dh rfl) ?_
 have hd0:decide (i<0)=true:=by simpa using hi
 simp only[pf15,↓fm,wall,simprocAttr,wH,fw,fj,hd0]
end
end Go.Proofs.Eng
namespace Go.Proofs.Eng
open Go Go.Proofs
set_option maxRecDepth 100000
set_option maxHeartbeats 16000000
mutual
def Vl.cnt:Vl->Int
 | .ctor _ _ p=>Vl.nz 1 p
 | .box => -1
 | .clo _ _ => -1
 | .pair _ _ => -1
def Vl.nz:Int->List Vl->Int
 | n,[]=>n
 | n,v::p=>if 0<n then Vl.nz (if v.cnt<0 then -1 else if 4097<n+v.cnt then 4097 else n+v.cnt) p else n
end
theorem xu {n:Int} (h:¬ 0<n):∀p:List Vl,Vl.nz n p=n
 | []=>by rw[Vl.nz]
 | v::p=>by rw[Vl.nz,if_neg h]
mutual
theorem La:∀v:Vl, -1<=v.cnt/\v.cnt<=4097
 | .ctor _ _ p=>by rw[Vl.cnt];exact Nc p (by decide) (by decide)
 | .box=>by rw[Vl.cnt];decide
 | .clo _ _=>by rw[Vl.cnt];decide
 | .pair _ _=>by rw[Vl.cnt];decide
theorem Nc:∀(p:List Vl) {n:Int}, -1<=n->n<=4097 -> -1<=Vl.nz n p/\Vl.nz n p<=4097
 | [],n,h1,h2=>by rw[Vl.nz];exact⟨h1,h2⟩
 | v::p,n,h1,h2=>by
  rw[Vl.nz]
  have:=La v
  split
  ·exact Nc p (by split<;>(try split)<;>omega) (by split<;>(try split)<;>omega)
  ·exact⟨h1,h2⟩
end
theorem PA.uniq {F:Fz} {l m:List AV} {pa:AV} (h:PA F l pa) (k:PA F m pa):l=m:=by
 rcases h with⟨t,rfl⟩|⟨b,rfl,h⟩
 ·rcases k with⟨t',k⟩|⟨b,k,_⟩
  ·cases k;rfl
  ·cases k
 ·rcases k with⟨t',k⟩|⟨b',k,k2⟩
  ·cases k
  ·injection k with e1
   subst e1
   rw[h]at k2;cases k2;rfl
mutual
theorem VR.uniq {F:Fz}:∀{v w:Vl} {a:AV},VR F v a->VR F w a->v=w
 | .box,w,a,h,k=>by
  rw[VR]at h
  obtain⟨b,rfl,h⟩:=h
  cases w with
  | box=>rfl
  | clo n e=>rw[VR]at k;obtain⟨_,_,e,k,_⟩:=k;cases e;rw[h]at k;cases k
  | ctor n m q=>rw[VR]at k;obtain⟨_,_,_,e,k,_⟩:=k;cases e;rw[h]at k;cases k
  | pair x y=>rw[VR]at k;obtain⟨_,_,_,_,e,k,_⟩:=k;cases e;rw[h]at k;cases k
 | .clo n e,w,a,h,k=>by
  rw[VR]at h
  obtain⟨b,ea,rfl,h,h2⟩:=h
  cases w with
  | box=>rw[VR]at k;obtain⟨_,e,k⟩:=k;cases e;rw[h]at k;cases k
  | clo n' e'=>
   rw[VR]at k
   obtain⟨_,ea',e,k,k2⟩:=k
   cases e;rw[h]at k;cases k
   rw[ER.uniq h2 k2]
  | ctor n m q=>rw[VR]at k;obtain⟨_,_,_,e,k,_⟩:=k;cases e;rw[h]at k;cases k
  | pair x y=>rw[VR]at k;obtain⟨_,_,_,_,e,k,_⟩:=k;cases e;rw[h]at k;cases k
 | .ctor n nm p,w,a,h,k=>by
  rw[VR]at h
  obtain⟨b,pa,l,rfl,h,h2,h3⟩:=h
  cases w with
  | box=>rw[VR]at k;obtain⟨_,e,k⟩:=k;cases e;rw[h]at k;cases k
  | clo n' e'=>rw[VR]at k;obtain⟨_,ea',e,k,k2⟩:=k;cases e;rw[h]at k;cases k
  | ctor n' m q=>
   rw[VR]at k
   obtain⟨_,_,_,e,k,k2,k3⟩:=k
   cases e;rw[h]at k;cases k
   have:=h2.uniq k2
   subst this
   rw[VRs.uniq h3 k3]
  | pair x y=>rw[VR]at k;obtain⟨_,_,_,_,e,k,_⟩:=k;cases e;rw[h]at k;cases k
 | .pair x y,w,a,h,k=>by
  rw[VR]at h
  obtain⟨b,ax,ay,t,rfl,h,h2,h3⟩:=h
  cases w with
  | box=>rw[VR]at k;obtain⟨_,e,k⟩:=k;cases e;rw[h]at k;cases k
  | clo n' e'=>rw[VR]at k;obtain⟨_,ea',e,k,k2⟩:=k;cases e;rw[h]at k;cases k
  | ctor n m q=>rw[VR]at k;obtain⟨_,_,_,e,k,_⟩:=k;cases e;rw[h]at k;cases k
  | pair x' y'=>
   rw[VR]at k
   obtain⟨_,_,_,_,e,k,k2,k3⟩:=k
   cases e;rw[h]at k;cases k
   rw[VR.uniq h2 k2,VR.uniq h3 k3]
theorem ER.uniq {F:Fz}:∀{e f:List Vl} {a:AV},ER F e a->ER F f a->e=f
 | [],f,a,h,k=>by
  rw[ER]at h;subst h
  cases f with
  | nil=>rfl
  | cons v f=>rw[ER]at k;obtain⟨_,_,_,e,_⟩:=k;cases e
 | v::e,f,a,h,k=>by
  rw[ER]at h
  obtain⟨b,av,ea,rfl,h,h2,h3⟩:=h
  cases f with
  | nil=>rw[ER]at k;cases k
  | cons w f=>
   rw[ER]at k
   obtain⟨_,av',ea',e1,k,k2,k3⟩:=k
   cases e1;rw[h]at k;cases k
   rw[VR.uniq h2 k2,ER.uniq h3 k3]
theorem VRs.uniq {F:Fz}:∀{p q:List Vl} {l:List AV},VRs F p l->VRs F q l->p=q
 | [],q,l,h,k=>by
  rw[VRs]at h;subst h
  cases q with
  | nil=>rfl
  | cons v q=>rw[VRs]at k;obtain⟨_,_,e,_⟩:=k;cases e
 | v::p,q,l,h,k=>by
  rw[VRs]at h
  obtain⟨a,l',rfl,h1,h2⟩:=h
  cases q with
  | nil=>rw[VRs]at k;cases k
  | cons w q=>
   rw[VRs]at k
   obtain⟨a',l'',e,k1,k2⟩:=k
   cases e
   rw[VR.uniq h1 k1,VRs.uniq h2 k2]
end
def C7 (F:Fz) (es:List (AV × AV)):Prop:=∀e ∈ es,∃(k:Nat) (v:Vl),e=(.ptr k 0,.int v.cnt)/\VR F v (.ptr k 0)
theorem Iu {k j:Nat}:n7 .pt (.ptr k 0) (.ptr j 0)=some (k==j):=by simp[n7]
theorem On {F:Fz} {v:Vl} {k:Nat} (hv:VR F v (.ptr k 0)):∀{es:List (AV × AV)},C7 F es->n9 .pt (.ptr k 0) es=some none\/n9 .pt (.ptr k 0) es=some (some (.int v.cnt))
 | [],_=>.inl rfl
 | e::es,h=>by
  obtain⟨j,w,rfl,hw⟩:=h e (by simp)
  have ih:=On hv (es:=es) λx hx=>h x (by simp[hx])
  rw[n9,Iu]
  by_cases hj:k=j
  ·subst hj
   rw[VR.uniq hv hw]
   simp
  ·have:(k==j)=false:=by simpa using hj
   rw[this];exact ih
theorem Jl {F:Fz} {v:Vl} {k:Nat} (hv:VR F v (.ptr k 0)):∀{es:List (AV × AV)},C7 F es -> ∃es',upA .pt (.ptr k 0) (.int v.cnt) es=some es'/\C7 F es'
 | [],_=>⟨[(.ptr k 0,.int v.cnt)],rfl,λe he=>by rw[List.mem_singleton.1 he];exact⟨k,v,rfl,hv⟩⟩
 | e::es,h=>by
  obtain⟨j,w,rfl,hw⟩:=h e (by simp)
  obtain⟨es',e1,e2⟩:=Jl hv (es:=es) λx hx=>h x (by simp[hx])
  rw[upA,Iu]
  by_cases hj:k=j
  ·subst hj
   rw[beq_self_eq_true]
   refine⟨(.ptr k 0,.int v.cnt)::es,rfl,λx hx => ?_⟩
   rcases List.mem_cons.1 hx with rfl|hx
   ·exact⟨k,v,rfl,hv⟩
   ·exact h x (by simp[hx])
  ·have:(k==j)=false:=by simpa using hj
   rw[this]
   simp only[e1,fh]
   refine⟨_,rfl,λx hx => ?_⟩
   rcases List.mem_cons.1 hx with rfl|hx
   ·exact⟨j,w,rfl,hw⟩
   ·exact e2 x hx
theorem Oh {F:Fz} {H:List fq} (hF:Fro F H) {v:Vl} {k:Nat} (hv:VR F v (.ptr k 0)) {es:List (AV × AV)} (h:C7 F es):ri H .pt (.ptr k 0) es=true:=by
 have one:∀{w:Vl} {j:Nat},VR F w (.ptr j 0)->qj H (.ptr j 0)=true:=λ{w j} hw=>by
  have:=VR.cells hF hw
  cases w
  ·simp only at this;simp[qj,this]
  ·obtain⟨_,this,_⟩:=this;simp[qj,this]
  ·obtain⟨_,_,this,_⟩:=this;simp[qj,this]
  ·obtain⟨_,_,_,this,_⟩:=this;simp[qj,this]
 rw[ri,dy]
 refine⟨one hv,aw.2 λe he => ?_⟩
 obtain⟨j,w,rfl,hw⟩:=h e he
 exact one hw
def Vl.parts:Vl->List Vl
 | .ctor _ _ p=>p
 | _=>[]
theorem Vl.ind {P:Vl->Prop} (h:∀v,(∀w ∈ v.parts,P w)->P v) (v:Vl):P v:=by
 have key:∀n v,SizeOf.sizeOf v<=n->P v:=by
  intro n
  induction n with
  | zero=>intro v hv;cases v<;>simp at hv
  | succ n ih=>
   intro v hv
   refine h v λw hw=>ih w ?_
   cases v with
   | ctor k nm p=>
    have:=List.sizeOf_lt_of_mem (show w ∈ p from hw)
    simp at hv
    omega
   | _=>cases hw
 exact key _ v (di _)
theorem Fro.a0j {F:Fz} {H:List fq} (h:Fro F H) {mi:Nat} {es es':List (AV × AV)} (hm:H[mi]? = some (.map es)):Fro F (H.set mi (.map es')):=λk c hk=>by
 have h1:=h k c hk
 rw[gsn λe=>by subst e;rw[hm]at h1;cases h1];exact h1
theorem Eo {H:List fq} {i:Nat} {x:fq} (h:H[i]? = some x):H.set i x=H:=by
 refine List.ext_getElem? λk => ?_
 rw[b9]
 split
 ·rename_i e
  subst e
  rw[if_pos (fu h),h]
 ·rfl
theorem Oq {c:Cd} {Z:List Int} {F:Fz} (v:Vl):∀{H:List fq} {V:List Nat} {mi k:Nat} {es:List (AV × AV)},VOK c Z v->Fro F H->VR F v (.ptr k 0)->H[mi]? = some (.map es)->C7 F es ->
  Rw 71 [.ptr k 0,.mp mi] ⟨H,V⟩ λr s1=>r = .int v.cnt /\ ∃es',s1=⟨H.set mi (.map es'),V⟩/\C7 F es':=by
 induction v using Vl.ind with
 | h v ih=>
 intro H V mi k es hok hF hv hm hS
 have hlv:=Oh hF hv hS
 have hml:=fu hm
 have hc:=VR.cells hF hv
 refine ju pf71_is (dh rfl) ?_
 rcases On hv hS with hk|hk
 ·cases v with
  | ctor kk nm p=>
   obtain⟨pa,l,hc,hpa,hps⟩:=hc
   rw[VOK]at hok
   obtain⟨_,hok1,hok2⟩:=hok
   have hkm:k ≠ mi:=λe=>by subst e;rw[hm]at hc;cases hc
   have gk:=λ(y:fq)=>(gsn (H:=H) (x:=y) hkm).trans hc
   have hone:=hps.Zt
   have hlen:=hps.len
   have hlb:jj=9223372036854775807:=rfl
   have hF':=λes'=>hF.a0j (es':=es') hm
   simp only[Vl.cnt]at ih ⊢
   have fin:∀{es1:List (AV × AV)} {acc:Int},acc=Vl.nz 1 p->C7 F es1 -> ∃es2,upA .pt (.ptr k 0) (.int acc) es1=some es2/\C7 F es2:=λ{es1 acc} e h=>by
    have:=Jl hv h
    rw[Vl.cnt]at this
    rw[e];exact this
   have hl1:∀es1,C7 F es1->ri (H.set mi (.map es1)) .pt (.ptr k 0) es1=true:=λes1 h=>Oh (hF' es1) hv h
   have hg:∀x:fq,(H.set mi x)[mi]? = some x:=λx=>gse hml
   rcases id hpa with⟨t,rfl⟩|⟨b,rfl,hb⟩
   ·simp only[pf71,↓fm,wall,simprocAttr,wH,fw,fj,hm,hlv,hk,hc]
    refine j7 (λj=>l.length-j) (λj E H' V'=>∃acc es1,j<=l.length/\E 0 = .ptr k 0/\E 1 = .mp mi/\E 7 = .int acc/\E 8 = .int (j:Nat)/\H'=H.set mi (.map es1)/\V'=V/\C7 F es1/\Vl.nz acc (p.drop j)=Vl.nz 1 p /\ -1<=acc/\acc<=4097) ?_ 0
     ⟨1,es,dk _,rfl,rfl,rfl,rfl,(Eo hm).symm,rfl,hS,rfl,by decide,by decide⟩
    rintro j E _ V1 ⟨acc,es1,hj,e0,e1,e7,e8,rfl,rfl,hS1,hacc,ha1,ha2⟩
    have ends:acc=Vl.nz 1 p -> ∃es2,upA .pt (.ptr k 0) (.int acc) es1=some es2/\C7 F es2:=λhx=>fin hx hS1
    cases hd:decide (acc>0)
    ·have hx:acc=Vl.nz 1 p:=by rw[<- hacc,xu (by simpa using hd)]
     obtain⟨es2,hu,hS2⟩:=ends hx
     simp only[↓fm,wall,simprocAttr,wH,fw,fj,e0,e1,e7,e8,hd,hg,hl1 es1 hS1,hu,List.set_set]
     exact⟨by rw[hx],es2,rfl,hS2⟩
    rcases dj j l.length with hlt|hge
    ·have hdec:decide ((j:Int)<l.length)=true:=by simpa using hlt
     have hjp:j<p.length:=by omega
     obtain⟨a,g1,g2⟩:=hps.at (i:=j) (aa hjp)
     obtain⟨kc,rfl⟩:=g2.ptr
     obtain⟨_,_,⟨rfl,es2,rfl,hS2⟩,cr⟩:=(ih p[j] (V:=V1) (List.getElem_mem hjp) (lg.1 hok2 _ (List.getElem_mem hjp)) (hF' es1) g2 (hg _) hS1).call rfl
     rw[bz hjp,Vl.nz,if_pos (by simpa using hd)]at hacc
     obtain⟨c1,c2⟩:=La p[j]
     cases hn:decide (p[j].cnt<0)
     ·have hw:IntKind.i64.wrap (acc+p[j].cnt)=acc+p[j].cnt:=gw (by unfold jn;omega)
      have hacc':acc>0:=by simpa using hd
      have hn':¬p[j].cnt<0:=by simpa using hn
      rw[if_neg hn']at hacc
      simp only[↓fm,wall,simprocAttr,wH,e0,e1,e7,e8,hd,hdec,gk,g1,hone,cr,hn,hw,List.set_set]
      exact jg ⟨j+1,by omega,_,es2,by omega,e0,e1,rfl,ij (by omega),rfl,rfl,hS2,hacc,by split<;>omega,by split<;>omega⟩
     ·rw[if_pos (by simpa using hn)]at hacc
      simp only[↓fm,wall,simprocAttr,wH,e0,e1,e7,e8,hd,hdec,gk,g1,hone,cr,hn,List.set_set]
      exact jg ⟨j+1,by omega,_,es2,by omega,e0,e1,rfl,ij (by omega),rfl,rfl,hS2,hacc,by decide,by decide⟩
    ·have hdec:decide ((j:Int)<l.length)=false:=by simpa using hge
     have hx:acc=Vl.nz 1 p:=by rw[<- hacc,bt (by omega),Vl.nz]
     obtain⟨es2,hu,hS2⟩:=ends hx
     simp only[↓fm,wall,simprocAttr,wH,fw,fj,e0,e1,e7,e8,hd,hdec,gk,hg,hl1 es1 hS1,hu,List.set_set]
     exact⟨by rw[hx],es2,rfl,hS2⟩
   ·have hBb:∀es1,(H.set mi (.map es1))[b]? = some (.cells false l):=λes1=>hF' es1 b l hb
    simp only[pf71,↓fm,wall,simprocAttr,wH,fw,fj,hm,hlv,hk,hc]
    refine j7 (λj=>l.length-j) (λj E H' V'=>∃acc es1,j<=l.length/\E 0 = .ptr k 0/\E 1 = .mp mi/\E 7 = .int acc/\E 8 = .int (j:Nat)/\H'=H.set mi (.map es1)/\V'=V/\C7 F es1/\Vl.nz acc (p.drop j)=Vl.nz 1 p /\ -1<=acc/\acc<=4097) ?_ 0
     ⟨1,es,dk _,rfl,rfl,rfl,rfl,(Eo hm).symm,rfl,hS,rfl,by decide,by decide⟩
    rintro j E _ V1 ⟨acc,es1,hj,e0,e1,e7,e8,rfl,rfl,hS1,hacc,ha1,ha2⟩
    have ends:acc=Vl.nz 1 p -> ∃es2,upA .pt (.ptr k 0) (.int acc) es1=some es2/\C7 F es2:=λhx=>fin hx hS1
    cases hd:decide (acc>0)
    ·have hx:acc=Vl.nz 1 p:=by rw[<- hacc,xu (by simpa using hd)]
     obtain⟨es2,hu,hS2⟩:=ends hx
     simp only[↓fm,wall,simprocAttr,wH,fw,fj,e0,e1,e7,e8,hd,hg,hl1 es1 hS1,hu,List.set_set]
     exact⟨by rw[hx],es2,rfl,hS2⟩
    rcases dj j l.length with hlt|hge
    ·have hdec:decide ((j:Int)<l.length)=true:=by simpa using hlt
     have hjp:j<p.length:=by omega
     obtain⟨a,g1,g2⟩:=hps.at (i:=j) (aa hjp)
     obtain⟨kc,rfl⟩:=g2.ptr
     have hlt1:((j:Nat):Int)<(l.length:Nat):=by omega
     have hhd:(l.drop (j*1)).head? = some (.ptr kc 0):=by rw[Nat.mul_one,List.head?_drop];exact g1
     have hHb:=hBb es1
     obtain⟨_,_,⟨rfl,es2,rfl,hS2⟩,cr⟩:=(ih p[j] (V:=V1) (List.getElem_mem hjp) (lg.1 hok2 _ (List.getElem_mem hjp)) (hF' es1) g2 (hg _) hS1).call rfl
     rw[bz hjp,Vl.nz,if_pos (by simpa using hd)]at hacc
     obtain⟨c1,c2⟩:=La p[j]
     cases hn:decide (p[j].cnt<0)
     ·have hw:IntKind.i64.wrap (acc+p[j].cnt)=acc+p[j].cnt:=gw (by unfold jn;omega)
      have hacc':acc>0:=by simpa using hd
      have hn':¬p[j].cnt<0:=by simpa using hn
      rw[if_neg hn']at hacc
      simp only[↓fm,wall,simprocAttr,wH,e0,e1,e7,e8,hd,hdec,gk,g1,hHb,hlt1,hhd,cr,hn,hw,List.set_set]
      exact jg ⟨j+1,by omega,_,es2,by omega,e0,e1,rfl,ij (by omega),rfl,rfl,hS2,hacc,by split<;>omega,by split<;>omega⟩
     ·rw[if_pos (by simpa using hn)]at hacc
      simp only[↓fm,wall,simprocAttr,wH,e0,e1,e7,e8,hd,hdec,gk,g1,hHb,hlt1,hhd,cr,hn,List.set_set]
      exact jg ⟨j+1,by omega,_,es2,by omega,e0,e1,rfl,ij (by omega),rfl,rfl,hS2,hacc,by decide,by decide⟩
    ·have hdec:decide ((j:Int)<l.length)=false:=by simpa using hge
     have hx:acc=Vl.nz 1 p:=by rw[<- hacc,bt (by omega),Vl.nz]
     obtain⟨es2,hu,hS2⟩:=ends hx
     simp only[↓fm,wall,simprocAttr,wH,fw,fj,e0,e1,e7,e8,hd,hdec,gk,hg,hl1 es1 hS1,hu,List.set_set]
     exact⟨by rw[hx],es2,rfl,hS2⟩
  | box=>
   obtain⟨es',hu,hS'⟩:=Jl hv hS
   simp only[Vl.cnt]at hu
   simp only[pf71,↓fm,wall,simprocAttr,wH,fw,fj,hm,hlv,hk,hc]
   refine j7 (λ_=>0) (λ(_:Nat) E H' V'=>E 0 = .ptr k 0/\E 1 = .mp mi/\E 7 = .int (-1)/\H'=H/\V'=V) ?_ 0 ⟨rfl,rfl,rfl,rfl,rfl⟩
   rintro _ E _ _ ⟨e0,e1,e7,rfl,rfl⟩
   have hd:decide ((-1:Int)>0)=false:=rfl
   simp only[↓fm,wall,simprocAttr,wH,fw,fj,e0,e1,e7,hd,hm,hlv,hu]
   exact⟨by rw[Vl.cnt],es',rfl,hS'⟩
  | clo n e=>
   obtain⟨ea,hc,_⟩:=hc
   obtain⟨es',hu,hS'⟩:=Jl hv hS
   simp only[Vl.cnt]at hu
   simp only[pf71,↓fm,wall,simprocAttr,wH,fw,fj,hm,hlv,hk,hc]
   refine j7 (λ_=>0) (λ(_:Nat) E H' V'=>E 0 = .ptr k 0/\E 1 = .mp mi/\E 7 = .int (-1)/\H'=H/\V'=V) ?_ 0 ⟨rfl,rfl,rfl,rfl,rfl⟩
   rintro _ E _ _ ⟨e0,e1,e7,rfl,rfl⟩
   have hd:decide ((-1:Int)>0)=false:=rfl
   simp only[↓fm,wall,simprocAttr,wH,fw,fj,e0,e1,e7,hd,hm,hlv,hu]
   exact⟨by rw[Vl.cnt],es',rfl,hS'⟩
  | pair x y=>
   obtain⟨ax,ay,t,hc,_⟩:=hc
   obtain⟨es',hu,hS'⟩:=Jl hv hS
   simp only[Vl.cnt]at hu
   simp only[pf71,↓fm,wall,simprocAttr,wH,fw,fj,hm,hlv,hk,hc]
   refine j7 (λ_=>0) (λ(_:Nat) E H' V'=>E 0 = .ptr k 0/\E 1 = .mp mi/\E 7 = .int (-1)/\H'=H/\V'=V) ?_ 0 ⟨rfl,rfl,rfl,rfl,rfl⟩
   rintro _ E _ _ ⟨e0,e1,e7,rfl,rfl⟩
   have hd:decide ((-1:Int)>0)=false:=rfl
   simp only[↓fm,wall,simprocAttr,wH,fw,fj,e0,e1,e7,hd,hm,hlv,hu]
   exact⟨by rw[Vl.cnt],es',rfl,hS'⟩
 ·simp only[pf71,↓fm,wall,simprocAttr,wH,fw,fj,hm,hlv,hk]
  exact⟨es,by rw[Eo hm],hS⟩
end Go.Proofs.Eng
namespace Go.Proofs.Eng
open Go Go.Proofs
set_option maxRecDepth 100000
set_option maxHeartbeats 16000000
inductive Dt where
 | mk (c:ByteArray) (l:List Dt)
mutual
def Dt.R:Dt->AV->Prop
 | .mk c l,a=>∃t das,a = .agg [.str c,.sl das t]/\Dt.RL l das/\das.length<=1000000
def Dt.RL:List Dt->List AV->Prop
 | [],l=>l=[]
 | d::ds,l=>∃a l',l=a::l'/\d.R a/\Dt.RL ds l'
end
theorem RL.len:∀{p:List Dt} {l:List AV},Dt.RL p l->l.length=p.length
 | [],l,k=>by rw[Dt.RL]at k;rw[k];rfl
 | v::p,l,k=>by
  rw[Dt.RL]at k
  obtain⟨a,l',rfl,_,h⟩:=k
  rw[ak,ak,RL.len h]
theorem RL.snoc:∀{p:List Dt} {l:List AV} {d:Dt} {a:AV},Dt.RL p l->d.R a->Dt.RL (p++[d]) (l++[a])
 | [],l,d,a,h,k=>by rw[Dt.RL]at h;subst h;rw[bo,Dt.RL];exact⟨a,[],rfl,k,by rw[Dt.RL]⟩
 | x::p,l,d,a,h,k=>by
  rw[Dt.RL]at h
  obtain⟨b,l',rfl,h1,h2⟩:=h
  rw[bn,bn,Dt.RL]
  exact⟨b,l'++[a],rfl,h1,RL.snoc h2 k⟩
theorem RL.at:∀{p:List Dt} {l:List AV} {i:Nat} {d:Dt},Dt.RL p l->p[i]? = some d -> ∃a,l[i]? = some a/\d.R a
 | [],_,_,_,_,h=>by simp at h
 | v::p,l,0,_,h,e=>by
  rw[Dt.RL]at h
  obtain⟨a,l',rfl,h1,_⟩:=h
  simp at e;subst e;exact⟨a,rfl,h1⟩
 | v::p,l,i+1,_,h,e=>by
  rw[Dt.RL]at h
  obtain⟨a,l',rfl,_,h2⟩:=h
  obtain⟨b,h3,h4⟩:=RL.at h2 (by simpa using e)
  exact⟨b,by simpa using h3,h4⟩
theorem Dt.R.two {d:Dt} {a:AV} (h:d.R a):∃c das t,a = .agg [.str c,.sl das t] /\ ∃l,d = .mk c l/\Dt.RL l das/\das.length<=1000000:=by
 cases d with
 | mk c l=>rw[Dt.R]at h;obtain⟨t,das,rfl,h1,h2⟩:=h;exact⟨c,das,t,rfl,l,rfl,h1,h2⟩
theorem Dt.ind {P:Dt->Prop} (h:∀c l,(∀x ∈ l,P x)->P (.mk c l)) (e:Dt):P e:=by
 have key:∀n e,SizeOf.sizeOf e<=n->P e:=by
  intro n
  induction n with
  | zero=>intro e he;cases e;simp at he
  | succ n ih=>
   intro e he
   cases e with
   | mk c l=>
    refine h c l λx hx=>ih x ?_
    have:=List.sizeOf_lt_of_mem hx
    simp at he
    omega
 exact key _ e (di _)
theorem RL.Ki:∀{p:List Dt} {l:List AV},Dt.RL p l->(l.all λx=>x.cells.length==2)=true/\(l.all λx=>x.cells.length==2&&x.cells.all ic)=true
 | [],l,h=>by rw[Dt.RL]at h;subst h;exact⟨rfl,rfl⟩
 | d::p,l,h=>by
  rw[Dt.RL]at h
  obtain⟨a,l',rfl,h1,h2⟩:=h
  obtain⟨c,das,t,rfl,_⟩:=h1.two
  obtain⟨h3,h4⟩:=RL.Ki h2
  rw[cz,cz,h3,h4];exact⟨rfl,rfl⟩
theorem a0x (d:Dt):∀{a:AV},d.R a->ml a a=true:=by
 induction d using Dt.ind with
 | h c l ih=>
  intro a h
  rw[Dt.R]at h
  obtain⟨t,das,rfl,h1,_⟩:=h
  have key:∀(l':List Dt) (al:List AV),(∀x ∈ l',x ∈ l)->Dt.RL l' al->k9 al al=true:=by
   intro l'
   induction l' with
   | nil=>intro al _ h;rw[Dt.RL]at h;subst h;rw[k9]
   | cons x l' ih'=>
    intro al hx h
    rw[Dt.RL]at h
    obtain⟨a,al',rfl,h3,h4⟩:=h
    rw[k9,ih x (hx x (by simp)) h3,ih' al' (λy hy=>hx y (by simp[hy])) h4];rfl
  rw[ml,k9,k9,k9,An,eqT _ _ (key l das (λ_ h=>h) h1)];rfl
mutual
def Vl.tree:Vl->Dt
 | .ctor _ nm p=>.mk nm (Vl.trees p)
 | .box=>.mk ⟨#[]⟩ []
 | .clo _ _=>.mk ⟨#[]⟩ []
 | .pair _ _=>.mk ⟨#[]⟩ []
def Vl.trees:List Vl->List Dt
 | []=>[]
 | v::p=>v.tree::Vl.trees p
end
theorem sw:∀p:List Vl,(Vl.trees p).length=p.length
 | []=>rfl
 | x::p=>by rw[Vl.trees,ak,ak,sw p]
theorem A6:∀(p:List Vl) {n:Int},0<n->n<=4097->Vl.nz n p = -1\/n<=Vl.nz n p
 | [],n,_,_=>by rw[Vl.nz];exact .inr (Int.le_refl _)
 | v::p,n,h,h2=>by
  rw[Vl.nz,if_pos h]
  split
  ·exact .inl (xu (by decide) _)
  ·split
   ·rcases A6 p (n:=4097) (by decide) (by decide)with h1|h1
    ·exact .inl h1
    ·exact .inr (by omega)
   ·rcases A6 p (n:=n+v.cnt) (by omega) (by omega)with h1|h1
    ·exact .inl h1
    ·exact .inr (by omega)
theorem Xi (v:Vl):v.cnt = -1\/1<=v.cnt:=by
 cases v with
 | ctor k nm p=>
  rw[Vl.cnt]
  exact A6 p (by decide) (by decide)
 | _=>left;rw[Vl.cnt]
theorem Jd:∀(p:List Vl) {n:Int},0<n->n<=4096->0<=Vl.nz n p->Vl.nz n p<=4096->(∀w ∈ p,1<=w.cnt/\w.cnt<=4096)/\n+(p.length:Nat)<=4096
 | [],n,_,h,_,_=>⟨λw hw=>(by cases hw),by simpa using h⟩
 | v::p,n,h1,h2,h3,h4=>by
  rw[Vl.nz,if_pos h1]at h3 h4
  rcases Xi v with hv|hv
  ·rw[if_pos (by omega),xu (by decide)]at h3;omega
  ·rw[if_neg (by omega)]at h3 h4
   split at h3
   ·rename_i hc
    rw[if_pos hc]at h4
    rcases A6 p (n:=4097) (by decide) (by decide)with h5|h5
    ·omega
    ·omega
   ·rename_i hc
    rw[if_neg hc]at h4
    have hle:n+v.cnt<=4096:=by
     rcases A6 p (n:=n+v.cnt) (by omega) (by omega)with h5|h5<;>omega
    obtain⟨k1,k2⟩:=Jd p (n:=n+v.cnt) (by omega) hle h3 h4
    refine⟨λw hw => ?_,by rw[ak];omega⟩
    rcases List.mem_cons.1 hw with rfl|hw
    ·exact⟨hv,by omega⟩
    ·exact k1 w hw
theorem App.ap {V V':List Nat} {H H':List fq} (h:Ap H V H' V') {l:List AV} {t:Tl} (k:App V l t):App V' l t:=by
 rcases k with k|⟨h1,id,ver,e,h2⟩
 ·exact .inl k
 ·exact .inr ⟨h1,id,ver,e,h.v id ver h2⟩
theorem Fro.ap {F:Fz} {V V':List Nat} {H H':List fq} (h:Ap H V H' V') (k:Fro F H):Fro F H':=λi c e=>h.h i _ (k i c e)
theorem Ef:∀{l:List Dt} {al:List AV},Dt.RL l al->k9 al al=true
 | [],al,h=>by rw[Dt.RL]at h;subst h;rw[k9]
 | x::l,al,h=>by
  rw[Dt.RL]at h
  obtain⟨a,al',rfl,h3,h4⟩:=h
  rw[k9,a0x x h3,Ef h4];rfl
structure TrI (H:List fq) (V:List Nat) (H':List fq) (V':List Nat) (p:List Vl) (nm:ByteArray) (j:Nat) (al:List AV) (tb:Tl):Prop where
 rl:Dt.RL (Vl.trees (p.take j)) al
 b:H'[H.length+1]? = some (.cells false [.str nm,.sl al tb])
 ap:Ap H V H' V'
 app:App V' al tb
 own:∀i ver,tb = .tl i ver->V.length<=i
 a:H'[H.length]? = some (.cells false [.str ⟨#[]⟩,.sl [] .nil])
 len:V.length<=V'.length
theorem E7 (p:List Vl) (v:Vl):Vl.trees (p++[v])=Vl.trees p++[v.tree]:=by
 induction p with
 | nil=>rfl
 | cons x p ih=>rw[bn,Vl.trees,ih,Vl.trees,bn]
theorem Jt {H H' H2:List fq} {V V' V2 V3:List Nat} {p:List Vl} {nm:ByteArray} {j:Nat} {al:List AV} {tb tb':Tl} {r:AV} (hj:j<p.length) (h:TrI H V H' V' p nm j al tb) (hr:p[j].tree.R r) (hA:Ap H' V' H2 V2) (f2:App V3 (al++[r]) tb') (f3:Oth V2 tb V3 tb') :
  TrI H V (H2.set (H.length+1) (.cells false [.str nm,.sl (al++[r]) tb'])) V3 p nm (j+1) (al++[r]) tb' where
 rl:=by rw[bj,aa hj,Option.toList_some,E7];exact RL.snoc h.rl hr
 b:=gse (fu (hA.h _ _ h.b))
 ap:=⟨λk o hk=>by
  have:=fu hk
  rw[gsn (by omega)];exact hA.h _ _ (h.ap.h k o hk),λi v hv=>by
  have hlt:=(List.getElem?_eq_some_iff.1 hv).1
  exact f3.2.1 i v (hA.v i v (h.ap.v i v hv)) λver e=>by have:=h.own i ver e;omega⟩
 app:=f2
 own i ver e:=by
  rcases f3.2.2 i ver e with⟨v0,h1⟩|h1
  ·exact h.own i v0 h1
  ·have h2:=h.len
   have h3:V'.length<=V2.length:=by
    rcases Nat.eq_zero_or_pos V'.length with h0|h0
    ·omega
    ·have:=hA.v (V'.length-1) _ (aa (by omega))
     have:=(List.getElem?_eq_some_iff.1 this).1
     omega
   omega
 a:=by rw[gsn (by omega)];exact hA.h _ _ h.a
 len:=by
  have h2:=h.len
  have h3:V'.length<=V2.length:=by
   rcases Nat.eq_zero_or_pos V'.length with h0|h0
   ·omega
   ·have:=hA.v (V'.length-1) _ (aa (by omega))
    have:=(List.getElem?_eq_some_iff.1 this).1
    omega
  have:=f3.1
  omega
theorem O3 {H H':List fq} {V V':List Nat} {p:List Vl} {nm:ByteArray} {j:Nat} {al:List AV} {tb:Tl} {kk:Int} (hj:p.length<=j) (h:TrI H V H' V' p nm j al tb) (hp:p.length<=4096) :
  (Vl.ctor kk nm p).tree.R (.agg [.str nm,.sl al tb])/\Ap H V (H'.set H.length (.cells false [.str nm,.sl al tb])) V':=by
 have h1:=h.rl
 rw[au hj]at h1
 have h2:=RL.len h1
 rw[sw]at h2
 refine⟨by rw[Vl.tree,Dt.R];exact⟨tb,al,rfl,h1,by omega⟩,λk o hk => ?_,h.ap.v⟩
 have:=fu hk
 rw[gsn (by omega)];exact h.ap.h k o hk
theorem Wh {F:Fz} (v:Vl):∀{H:List fq} {V:List Nat} {k:Nat},Fro F H->VR F v (.ptr k 0)->0<=v.cnt->v.cnt<=4096 ->
  Rw 72 [.ptr k 0] ⟨H,V⟩ λr s1=>v.tree.R r/\Ap H V s1.H s1.T:=by
 induction v using Vl.ind with
 | h v ih=>
 intro H V k hF hv h0 h1
 cases v with
 | ctor kk nm p=>
  have hc:=VR.cells hF hv
  obtain⟨pa,l,hc,hpa,hps⟩:=hc
  rw[Vl.cnt]at h0 h1
  obtain⟨hkid,hpl⟩:=Jd p (n:=1) (by decide) (by decide) h0 h1
  have hpl:p.length<=4096:=by omega
  have hcg:=λG:List fq=>jc hc G
  have hone:=hps.Zt
  have hlen:=hps.len
  have hlb:jj=9223372036854775807:=rfl
  have kh:Ev=1073741824:=rfl
  have start:TrI H V (H++[.cells false [.str ⟨#[]⟩,.sl [] .nil],.cells false [.str nm,.sl [] .nil]]) V p nm 0 [] .nil:=⟨by rw[List.take_zero,Vl.trees,Dt.RL],by rw[af (by omega)];simp,.app _ _ _,.inl ⟨rfl,rfl⟩,λ_ _ e=>(by cases e),by rw[af (by omega)];simp,di _⟩
  refine ju pf72_is (dh rfl) ?_
  rcases id hpa with⟨t,rfl⟩|⟨b,rfl,hb⟩
  ·simp only[pf72,↓fm,wall,simprocAttr,wH,fw,fj,hcg]
   refine j7 (λj=>l.length-j) (λj E H' V'=>∃al tb,j<=l.length/\E 2 = .ptr H.length 0/\E 3 = .ptr (H.length+1) 0/\E 14 = .sl l t/\E 15 = .int (l.length:Nat)/\E 16 = .int (j:Nat)/\TrI H V H' V' p nm j al tb) ?_ 0 ⟨[],.nil,dk _,rfl,rfl,rfl,rfl,rfl,start⟩
   rintro j E H' V' ⟨al,tb,hj,e2,e3,e14,e15,e16,⟨i1,i2,i3,i4,i5,i6,i7⟩⟩
   have hBl:=fu i2
   rcases dj j l.length with hlt|hge
   ·have hdec:decide ((j:Int)<l.length)=true:=by simpa using hlt
    have hjp:j<p.length:=by omega
    obtain⟨a,g1,g2⟩:=hps.at (i:=j) (aa hjp)
    obtain⟨kc,rfl⟩:=g2.ptr
    obtain⟨k1,k2⟩:=hkid p[j] (List.getElem_mem hjp)
    obtain⟨r,⟨H2,V2⟩,⟨hr,hAp⟩,cr⟩:=(ih p[j] (List.getElem_mem hjp) (V:=V') (hF.ap i3) g2 (by omega) k2).call rfl
    obtain⟨c0,das,t0,rfl,_,_,_,_⟩:=hr.two
    have hst:=hAp.h _ _ i2
    have heq:ml (.sl al tb) (.sl al tb)=true:=eqT _ _ (Ef i1)
    obtain⟨m1,m2⟩:=RL.Ki i1
    have hal:=RL.len i1
    rw[sw,b7]at hal
    obtain⟨tb',V3,f1,f2,f3⟩:=rn (es:=2) (xs:=[.agg [.str c0,.sl das t0]]) (i4.ap hAp) (by simp only[ak,ao];omega) m1 rfl
    simp only[↓fm,wall,simprocAttr,wH,e2,e3,e14,e15,e16,hdec,g1,hone,i2,hst,cr,f1,heq]
    exact jg ⟨j+1,by omega,_,tb',by omega,e2,e3,e14,e15,ij (by omega),Jt hjp ⟨i1,i2,i3,i4,i5,i6,i7⟩ hr hAp f2 f3⟩
   ·have hdec:decide ((j:Int)<l.length)=false:=by simpa using hge
    have hA2:=λx:fq=>gse (x:=x) (fu i6)
    simp only[↓fm,wall,simprocAttr,wH,fw,fj,e2,e3,e14,e15,e16,hdec,i2,i6,hA2]
    exact O3 (by omega) ⟨i1,i2,i3,i4,i5,i6,i7⟩ hpl
  ·simp only[pf72,↓fm,wall,simprocAttr,wH,fw,fj,hcg]
   refine j7 (λj=>l.length-j) (λj E H' V'=>∃al tb,j<=l.length/\E 2 = .ptr H.length 0/\E 3 = .ptr (H.length+1) 0/\E 14 = .bs b 0 l.length 1 false/\E 15 = .int (l.length:Nat)/\E 16 = .int (j:Nat)/\TrI H V H' V' p nm j al tb) ?_ 0 ⟨[],.nil,dk _,rfl,rfl,rfl,rfl,rfl,start⟩
   rintro j E H' V' ⟨al,tb,hj,e2,e3,e14,e15,e16,⟨i1,i2,i3,i4,i5,i6,i7⟩⟩
   have hBl:=fu i2
   rcases dj j l.length with hlt|hge
   ·have hdec:decide ((j:Int)<l.length)=true:=by simpa using hlt
    have hjp:j<p.length:=by omega
    obtain⟨a,g1,g2⟩:=hps.at (i:=j) (aa hjp)
    obtain⟨kc,rfl⟩:=g2.ptr
    have hlt1:((j:Nat):Int)<(l.length:Nat):=by omega
    have hhd:(l.drop (j*1)).head? = some (.ptr kc 0):=by rw[Nat.mul_one,List.head?_drop];exact g1
    have hHb:=i3.h b _ (hF b l hb)
    obtain⟨k1,k2⟩:=hkid p[j] (List.getElem_mem hjp)
    obtain⟨r,⟨H2,V2⟩,⟨hr,hAp⟩,cr⟩:=(ih p[j] (List.getElem_mem hjp) (V:=V') (hF.ap i3) g2 (by omega) k2).call rfl
    obtain⟨c0,das,t0,rfl,_,_,_,_⟩:=hr.two
    have hst:=hAp.h _ _ i2
    have heq:ml (.sl al tb) (.sl al tb)=true:=eqT _ _ (Ef i1)
    obtain⟨m1,m2⟩:=RL.Ki i1
    have hal:=RL.len i1
    rw[sw,b7]at hal
    obtain⟨tb',V3,f1,f2,f3⟩:=rn (es:=2) (xs:=[.agg [.str c0,.sl das t0]]) (i4.ap hAp) (by simp only[ak,ao];omega) m1 rfl
    simp only[↓fm,wall,simprocAttr,wH,e2,e3,e14,e15,e16,hdec,g1,hHb,hlt1,hhd,i2,hst,cr,f1,heq]
    exact jg ⟨j+1,by omega,_,tb',by omega,e2,e3,e14,e15,ij (by omega),Jt hjp ⟨i1,i2,i3,i4,i5,i6,i7⟩ hr hAp f2 f3⟩
   ·have hdec:decide ((j:Int)<l.length)=false:=by simpa using hge
    have hA2:=λx:fq=>gse (x:=x) (fu i6)
    simp only[↓fm,wall,simprocAttr,wH,fw,fj,e2,e3,e14,e15,e16,hdec,i2,i6,hA2]
    exact O3 (by omega) ⟨i1,i2,i3,i4,i5,i6,i7⟩ hpl
 | box=>rw[Vl.cnt]at h0;exact absurd h0 (by decide)
 | clo _ _=>rw[Vl.cnt]at h0;exact absurd h0 (by decide)
 | pair _ _=>rw[Vl.cnt]at h0;exact absurd h0 (by decide)
end Go.Proofs.Eng
