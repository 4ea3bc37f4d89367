/- The reference's machine: a step. No conditions beyond those in the theorems. -/
import Derived.Test.YtflfmkkcnphdcaaGreatNY
set_option linter.all false
set_option linter.deprecated false
set_option linter.unnecessarySimpa false
set_option linter.unusedVariables false
set_option linter.unusedSimpArgs false
set_option linter.defProp false
namespace Go.Proofs.Eng
open Go Go.Proofs
set_option maxRecDepth 100000
set_option maxHeartbeats 16000000
def Ms.sq (s:Ms):Int:=if s.halted=true/\s.err=0 then(match s.stack with
 | []=>27
 | v::_=>if v.cnt<0 then 10 else if 4096<v.cnt then 5 else 0)else 27
def Ms.Cy (s:Ms):Dt:=if s.sq=0 then(match s.stack with
 | []=>.mk ⟨#[]⟩ []
 | v::_=>v.tree)else .mk ⟨#[]⟩ []
theorem ub:(Dt.mk ⟨#[]⟩ []).R (.agg [.str ⟨#[]⟩,.sl [] .nil]):=by rw[Dt.R];exact⟨.nil,[],rfl,by rw[Dt.RL],by simp⟩
section
variable {Z:List Int} {F:Fz} {H:List fq} {V:List Nat} {m:Nat} {sa fa:AV} {c:Cd} {s:Ms}
theorem MR.ap (hM:MR F H m sa fa c s) (hF:Fro F H) {H':List fq} {V':List Nat} (h:Ap H V H' V'):MR F H' m sa fa c s/\Fro F H':=by
 obtain⟨Bl,tb,t2,t3,ea,b1,b2,b3⟩:=hM.m6
 have hk:∀k:Nat,k<H.length->H'[k]? = H[k]? := λk hk=>by
  rw[aa hk];exact h.h k _ (aa hk)
 exact⟨⟨⟨Bl,tb,t2,t3,ea,h.h _ _ b1,b2,b3⟩,hM.st.jb λb e=>hk b (hM.st.lt e),hM.fr.jb λb e=>hk b (hM.fr.lt e),hM.fz,hM.d1,hM.d2⟩,hF.ap h⟩
theorem Mx (hM:MR F H m sa fa c s) (hF:Fro F H) (hS:Safe c Z s) (hb:s.stack.length<=1000000):Rw 28 [.ptr m 0] ⟨H,V⟩ λv s1=>Ap H V s1.H s1.T /\ ∃d,v = .tup [d,.int s.sq]/\s.Cy.R d:=by
 obtain⟨Bl,tb,t2,t3,ea,b1,b2,b3⟩:=hM.m6
 have hml:=fu b1
 simp only[mcs]at b1
 refine ju pf28_is (dh rfl) ?_
 have hgm:=λG:List fq=>(gal (G:=G) hml).trans b1
 cases hh:s.halted
 ·have e1:s.sq=27:=by rw[Ms.sq,if_neg (by rw[hh];simp)]
  rw[hh]at hgm
  simp only[pf28,↓fm,wall,simprocAttr,wH,fw,fj,hgm]
  refine⟨.app _ _ _,_,by rw[e1], ?_⟩
  rw[Ms.Cy,if_neg (by rw[e1];decide)];exact ub
 rw[hh]at hgm
 cases he:(s.err != 0)
 ·have he0:s.err=0:=by simpa[bne]using he
  obtain⟨hne,hvs⟩:s.stack ≠ []/\kj c Z s.stack:=by
   rcases hS with⟨h,_⟩|⟨_,_,h⟩|h
   ·exact absurd he0 h
   ·exact h
   ·rw[h.h]at hh;cases hh
  rcases hM.st with⟨rfl,hn⟩|⟨b,cs,rfl,h1,h2,h3⟩
  ·exact absurd hn hne
  obtain⟨v,st,hs⟩:∃v st,s.stack=v::st:=by
   cases h:s.stack with
   | nil=>exact absurd h hne
   | cons v st=>exact⟨v,st,rfl⟩
  have hok:VOK c Z v:=by rw[hs,kj]at hvs;exact hvs.1
  have hL:s.stack.length=st.length+1:=by rw[hs];rfl
  rw[hL]at hgm h2 h3 hb
  rw[hs,List.reverse_cons]at h3
  obtain⟨_,k2⟩:=VRs.split h3
  rw[List.length_reverse,VRs]at k2
  obtain⟨a,l',e,hv,_⟩:=k2
  obtain⟨ka,rfl⟩:=hv.ptr
  have hget:cs[st.length]? = some (.ptr ka 0):=by
   have:=congrArg (λl=>l[0]?) e
   simp only[ba,bc,Nat.add_zero,bw]at this
   rw[if_pos (by omega)]at this;exact this
  have hw:IntKind.i64.wrap (((st.length+1:Nat):Int)-1)=(st.length:Nat):=(gw (by unfold jn;omega)).trans (by omega)
  have hlt1:((st.length:Nat):Int)<(st.length+1:Nat):=by omega
  have hhd:(cs.drop (st.length*1)).head? = some (.ptr ka 0):=by rw[Nat.mul_one,List.head?_drop];exact hget
  have hz:(((st.length+1:Nat):Int)==0)=false:=by simp;omega
  have hgb:=λG:List fq=>(gal (G:=G) (fu h1)).trans h1
  obtain⟨A,hA⟩:∃A,A=fq.cells false [.str ⟨#[]⟩,.sl [] .nil]:=⟨_,rfl⟩
  have hap:Ap H V (H++[A,.map []]) V:=.app _ _ _
  have hmi:(H++[A,.map []])[H.length+1]? = some (.map []):=by rw[af (by omega)];simp
  obtain⟨_,_,⟨rfl,es',rfl,hS'⟩,cr⟩:=(Oq (V:=V) v hok (hF.ap hap) hv hmi (λe he=>by cases he)).call rfl
  have hset:(H++[A,.map []]).set (H.length+1) (.map es')=H++[A,.map es']:=by rw[Ck];rfl
  rw[hset]at cr
  have eE:s.sq=if v.cnt<0 then 10 else if 4096<v.cnt then 5 else 0:=by rw[Ms.sq,if_pos ⟨hh,he0⟩,hs]
  subst hA
  cases c1:decide (v.cnt<0)
  ·cases c2:decide (v.cnt>4096)
   ·have h0:0<=v.cnt:=by simpa using c1
    have h4:v.cnt<=4096:=by simpa using c2
    obtain⟨r,⟨H3,V3⟩,⟨hr,hAp⟩,ct⟩:=(Wh (V:=V) v (hF.ap (.app H V [.cells false [.str ⟨#[]⟩,.sl [] .nil],.map es'])) hv h0 h4).call rfl
    obtain⟨c0,das,t0,rfl,_,_,_,_⟩:=hr.two
    have hA3:=hAp.h H.length (.cells false [.str ⟨#[]⟩,.sl [] .nil]) (by rw[af (by omega)];simp)
    have hA4:=λx:fq=>gse (x:=x) (fu hA3)
    have e0:s.sq=0:=by rw[eE,if_neg (by omega),if_neg (by omega)]
    simp only[pf28,↓fm,wall,simprocAttr,wH,fw,fj,hgm,he,hz,hw,hlt1,hgb,hhd,cr,c1,c2,ct,hA3,hA4]
    refine⟨⟨λk o hk => ?_,λi v hv=>hAp.v i v hv⟩,_,by rw[e0], ?_⟩
    ·have:=fu hk
     rw[gsn (by omega)];exact hAp.h _ _ (jc hk _)
    ·rw[Ms.Cy,if_pos e0,hs];exact hr
   ·have e1:s.sq=5:=by rw[eE,if_neg (by simpa using c1),if_pos (by simpa using c2)]
    simp only[pf28,↓fm,wall,simprocAttr,wH,fw,fj,hgm,he,hz,hw,hlt1,hgb,hhd,cr,c1,c2]
    refine⟨.app _ _ _,_,by rw[e1], ?_⟩
    rw[Ms.Cy,if_neg (by rw[e1];decide)];exact ub
  ·have e1:s.sq=10:=by rw[eE,if_pos (by simpa using c1)]
   simp only[pf28,↓fm,wall,simprocAttr,wH,fw,fj,hgm,he,hz,hw,hlt1,hgb,hhd,cr,c1]
   refine⟨.app _ _ _,_,by rw[e1], ?_⟩
   rw[Ms.Cy,if_neg (by rw[e1];decide)];exact ub
 ·have e1:s.sq=27:=by rw[Ms.sq,if_neg (by simp[bne]at he;simp[he])]
  simp only[pf28,↓fm,wall,simprocAttr,wH,fw,fj,hgm,he]
  refine⟨.app _ _ _,_,by rw[e1], ?_⟩
  rw[Ms.Cy,if_neg (by rw[e1];decide)];exact ub
end
theorem I5 (e:Dt):∀{a b:AV} {H:List fq} {V:List Nat},e.R a->e.R b->Rw 34 [a,b] ⟨H,V⟩ λr s1=>r = .bool true/\Ap H V s1.H s1.T:=by
 induction e using Dt.ind with
 | h n kids ih=>
 intro a b H V h h'
 rw[Dt.R]at h h'
 obtain⟨t2,kas,rfl,g6,g5⟩:=h
 obtain⟨u2,kbs,rfl,q6,q5⟩:=h'
 have hl1:=RL.len g6
 have hl2:=RL.len q6
 have hlen:kbs.length=kas.length:=by omega
 have hlb:jj=9223372036854775807:=rfl
 have hall:=(RL.Ki g6).1
 have hall2:=(RL.Ki q6).1
 refine ju pf34_is (dh rfl) ?_
 simp only[pf34,↓fm,wall,simprocAttr,wH,fw,fj,hlen]
 refine j7 (λj=>kas.length-j) (λj E H' V'=>E 2 = .ptr H.length 0/\E 3 = .ptr (H.length+1) 0/\E 5 = .int (j:Nat)/\j<=kas.length/\Ap (H++[.cells false [.str n,.sl kas t2],.cells false [.str n,.sl kbs u2]]) V H' V') ?_ 0 ⟨rfl,rfl,rfl,dk _,.refl _ _⟩
 rintro j E H' V' ⟨e2,e3,e5,hj,hA⟩
 have b1:=hA.h H.length _ (by rw[xj];rfl)
 have b2:=hA.h (H.length+1) _ (by rw[Co];rfl)
 rcases dj j kas.length with hlt|hge
 ·have hjk:j<kids.length:=by omega
  obtain⟨x,d1,d2⟩:=RL.at g6 (i:=j) (aa hjk)
  obtain⟨y,f1,f2⟩:=RL.at q6 (i:=j) (aa hjk)
  have hdec:decide ((j:Int)<kas.length)=true:=by simpa using hlt
  obtain⟨_,⟨H2,V2⟩,⟨rfl,hA2⟩,cr⟩:=(ih kids[j] (List.getElem_mem hjk) (H:=H') (V:=V') d2 f2).call rfl
  obtain⟨c0,das,t0,rfl,_,_,_,_⟩:=d2.two
  obtain⟨c0',das',t0',rfl,_,_,_,_⟩:=f2.two
  simp only[↓fm,wall,simprocAttr,wH,e2,e3,e5,hdec,b1,b2,d1,f1,hall,hall2,cr]
  exact jg ⟨j+1,by omega,e2,e3,ij (by omega),by omega,hA.trans hA2⟩
 ·have hdec:decide ((j:Int)<kas.length)=false:=by simpa using hge
  simp only[↓fm,wall,simprocAttr,wH,fw,fj,e2,e3,e5,hdec,b1,b2]
  exact(Ap.app H V _).trans hA
end Go.Proofs.Eng
namespace Go.Proofs.Eng
open Go Go.Proofs
set_option maxRecDepth 100000
set_option maxHeartbeats 16000000
mutual
def RV:Vl->AV->Prop
 | .box,a=>a = .agg [.int 0,.int 0,.str ⟨#[]⟩,.sl [] .nil]
 | .clo n e,a=>∃l t,a = .agg [.int 1,.int n,.str ⟨#[]⟩,.sl (l.reverse) t]/\t.pure=true/\RVs e l
 | .ctor n nm p,a=>∃l t,a = .agg [.int 2,.int n,.str nm,.sl l t]/\t.pure=true/\RVs p l
 | .pair x y,a=>∃ax ay t,a = .agg [.int 3,.int 0,.str ⟨#[]⟩,.sl [ax,ay] t]/\t.pure=true/\RV x ax/\RV y ay
def RVs:List Vl->List AV->Prop
 | [],l=>l=[]
 | v::p,l=>∃a l',l=a::l'/\RV v a/\RVs p l'
end
theorem Ay (l:List AV) (h:gi l=true):gi l.reverse=true:=by
 rw[ln]at h ⊢
 intro x hx;exact h x (List.mem_reverse.1 hx)
mutual
theorem RV.pure:∀{v:Vl} {a:AV},RV v a->im a=true
 | .box,a,h=>by rw[RV]at h;subst h;rfl
 | .clo n e,a,h=>by
  rw[RV]at h
  obtain⟨l,t,rfl,h1,h2⟩:=h
  simp[n6,gp,gz,oj,kl,h1,Ay _ (RVs.pure h2)]
 | .ctor n nm p,a,h=>by
  rw[RV]at h
  obtain⟨l,t,rfl,h1,h2⟩:=h
  simp[n6,gp,gz,oj,kl,h1,RVs.pure h2]
 | .pair x y,a,h=>by
  rw[RV]at h
  obtain⟨ax,ay,t,rfl,h1,h2,h3⟩:=h
  simp[n6,gp,gz,oj,kl,h1,RV.pure h2,RV.pure h3]
theorem RVs.pure:∀{p:List Vl} {l:List AV},RVs p l->gi l=true
 | [],l,h=>by rw[RVs]at h;subst h;exact gz
 | v::p,l,h=>by
  rw[RVs]at h
  obtain⟨a,l',rfl,h1,h2⟩:=h
  rw[gp,RV.pure h1,RVs.pure h2];rfl
end
theorem RV.four {v:Vl} {a:AV} (h:RV v a):∃(k n:Int) (nm:ByteArray) (l:List AV) (t:Tl),a = .agg [.int k,.int n,.str nm,.sl l t]:=by
 cases v<;>rw[RV]at h
 ·exact⟨_,_,_,_,_,h⟩
 ·obtain⟨l,t,h,_⟩:=h;exact⟨_,_,_,_,_,h⟩
 ·obtain⟨l,t,h,_⟩:=h;exact⟨_,_,_,_,_,h⟩
 ·obtain⟨ax,ay,t,h,_⟩:=h;exact⟨_,_,_,_,_,h⟩
theorem RVs.len:∀{p:List Vl} {l:List AV},RVs p l->l.length=p.length
 | [],l,k=>by rw[RVs]at k;rw[k];rfl
 | v::p,l,k=>by
  rw[RVs]at k
  obtain⟨a,l',rfl,_,h⟩:=k
  rw[ak,ak,RVs.len h]
theorem RVs.app:∀{p q:List Vl} {l m:List AV},RVs p l->RVs q m->RVs (p++q) (l++m)
 | [],q,l,m,h,k=>by rw[RVs]at h;subst h;exact k
 | v::p,q,l,m,h,k=>by
  rw[RVs]at h
  obtain⟨a,l',rfl,h1,h2⟩:=h
  rw[bn,bn,RVs]
  exact⟨a,l'++m,rfl,h1,RVs.app h2 k⟩
theorem RVs.one {v:Vl} {a:AV} (h:RV v a):RVs [v] [a]:=by rw[RVs];exact⟨a,[],rfl,h,by rw[RVs]⟩
theorem RVs.rev:∀{p:List Vl} {l:List AV},RVs p l->RVs p.reverse l.reverse
 | [],l,h=>by rw[RVs]at h;subst h;rw[List.reverse_nil,List.reverse_nil,RVs]
 | v::p,l,h=>by
  rw[RVs]at h
  obtain⟨a,l',rfl,h1,h2⟩:=h
  rw[List.reverse_cons,List.reverse_cons]
  exact(RVs.rev h2).app (.one h1)
theorem RVs.split:∀{p q:List Vl} {l:List AV},RVs (p++q) l->RVs p (l.take p.length)/\RVs q (l.drop p.length)
 | [],q,l,h=>⟨by rw[RVs];rfl,h⟩
 | v::p,q,l,h=>by
  rw[bn,RVs]at h
  obtain⟨a,l',rfl,h1,h2⟩:=h
  obtain⟨h3,h4⟩:=RVs.split h2
  rw[RVs]
  exact⟨⟨a,_,rfl,h1,h3⟩,h4⟩
theorem RVs.at:∀{p:List Vl} {l:List AV} {i:Nat} {v:Vl},RVs p l->p[i]? = some v -> ∃a,l[i]? = some a/\RV v a
 | [],_,_,_,_,h=>by simp at h
 | v::p,l,0,_,h,e=>by
  rw[RVs]at h
  obtain⟨a,l',rfl,h1,_⟩:=h
  simp at e;subst e;exact⟨a,rfl,h1⟩
 | v::p,l,i+1,_,h,e=>by
  rw[RVs]at h
  obtain⟨a,l',rfl,_,h2⟩:=h
  obtain⟨b,h3,h4⟩:=RVs.at h2 (by simpa using e)
  exact⟨b,by simpa using h3,h4⟩
theorem RVs.wm:∀{p:List Vl} {l:List AV},RVs p l->(l.all λx=>x.cells.length==4)=true/\(l.all λx=>x.cells.length==4&&x.cells.all ic)=true
 | [],l,h=>by rw[RVs]at h;subst h;exact⟨rfl,rfl⟩
 | v::p,l,h=>by
  rw[RVs]at h
  obtain⟨a,l',rfl,h1,h2⟩:=h
  obtain⟨k,n,nm,l2,t,rfl⟩:=h1.four
  obtain⟨h3,h4⟩:=RVs.wm h2
  rw[cz,cz,h3,h4];exact⟨rfl,rfl⟩
theorem na {α:Type} {f:α->Bool} {l:List α} (h:l.all f=true):l.reverse.all f=true:=by rw[List.all_reverse];exact h
def rcs (Bs:List AV) (t1 t2 t3:Tl) (c:Cd) (bk at':Int) (ea sa fa:AV) (steps:Int) (hlt:Bool):List AV:=[.sl Bs t1,.sl (nmA c.gl) t2,.sl (ints c.st) t3,.int bk,.int at',ea,sa,fa,.int steps,.bool hlt]
def FAr:List Fr->List AV->Prop
 | [],l=>l=[]
 | f::fs,l=>∃el et l',l = .int (f.bk:Nat) :: .int (f.at':Nat) :: .sl (el.reverse) et::l'/\RVs f.env el/\et.pure=true/\FAr fs l'
theorem FAr.len:∀{p:List Fr} {l:List AV},FAr p l->l.length=3*p.length
 | [],l,k=>by rw[FAr]at k;rw[k];rfl
 | v::p,l,⟨el,et,l',h1,_,_,h⟩=>by
  have:=FAr.len h
  subst h1
  simp only[ak];omega
theorem FAr.app:∀{p q:List Fr} {l m:List AV},FAr p l->FAr q m->FAr (p++q) (l++m)
 | [],q,l,m,h,k=>by rw[FAr]at h;subst h;exact k
 | v::p,q,l,m,⟨el,et,l',h1,h2,h3,h4⟩,k=>by subst h1;exact⟨el,et,l'++m,rfl,h2,h3,FAr.app h4 k⟩
theorem FAr.split:∀{p q:List Fr} {l:List AV},FAr (p++q) l->FAr p (l.take (3*p.length))/\FAr q (l.drop (3*p.length))
 | [],q,l,h=>⟨rfl,h⟩
 | v::p,q,l,⟨el,et,l',h1,h2,h3,h4⟩=>by
  subst h1
  obtain⟨h5,h6⟩:=FAr.split h4
  rw[ak,show 3*(p.length+1)=3*p.length+1+1+1 from by omega]
  exact⟨⟨el,et,_,rfl,h2,h3,h5⟩,h6⟩
def FRr (H:List fq) (fs:List Fr) (a:AV):Prop:=(a = .sl [] .nil/\fs=[]) \/ ∃b c,a = .bs b 0 fs.length 3 true/\H[b]? = some (.cells false c)/\3*fs.length<=c.length/\FAr fs.reverse (c.take (3*fs.length))
theorem FRr.jb {H H':List fq} {st:List Fr} {a:AV} (h:FRr H st a) (k:∀b,ql a=some b->H'[b]? = H[b]?):FRr H' st a:=by
 rcases h with h|⟨b,c,e,h1,h2⟩
 ·exact .inl h
 ·exact .inr ⟨b,c,e,by rw[k b (by rw[e];rfl)];exact h1,h2⟩
theorem FRr.lt {H:List fq} {st:List Fr} {a:AV} (h:FRr H st a) {b:Nat} (e:ql a=some b):b<H.length:=by
 rcases h with⟨h,_⟩|⟨b',c,h,h1,_⟩
 ·rw[h]at e;cases e
 ·rw[h]at e;cases e;exact fu h1
def OwR (rm:Nat) (fa:AV) (k:Nat):Prop:=k=rm\/ql fa=some k
structure RI (H:List fq) (rm:Nat) (fa:AV) (c:Cd) (s:Ms):Prop where
 m6:∃Bs t1 t2 t3 el et sl ts,H[rm]? = some (.cells false (rcs Bs t1 t2 t3 c (s.now.bk:Nat) (s.now.at':Nat) (.sl (el.reverse) et) (.sl (sl.reverse) ts) fa (s.steps:Nat) s.halted))/\LIs blX c.bl Bs/\RVs s.now.env el/\et.pure=true/\RVs s.stack sl
 fr:FRr H s.gq fa
 d:∀k,ql fa=some k->k ≠ rm
structure NxR (H:List fq) (U:Nat->Prop) (H':List fq) (U':Nat->Prop):Prop where
 jb:∀k:Nat,k<H.length -> ¬U k->H'[k]? = H[k]?
 len:H.length<=H'.length
 own:∀k:Nat,U' k->U k\/H.length<=k
theorem NxR.refl (H:List fq) (U:Nat->Prop):NxR H U H U:=⟨λ_ _ _=>rfl,di _,λ_ h=>.inl h⟩
theorem NxR.trans {H H' H'':List fq} {U U' U'':Nat->Prop} (h:NxR H U H' U') (k:NxR H' U' H'' U''):NxR H U H'' U'' where
 jb i hi hu:=by
  rw[k.jb i (dq hi h.len) (λh'=>by rcases h.own i h' with h1|h1;exact hu h1;omega)]
  exact h.jb i hi hu
 len:=dt h.len k.len
 own i hi:=by
  rcases k.own i hi with h1|h1
  ·exact h.own i h1
  ·exact .inr (dt h.len h1)
def RQm (H:List fq) (rm:Nat) (fa:AV) (c:Cd) (P:AV->Ms->Prop) (v:AV) (s1:ASt):Prop:=∃fa' s',P v s'/\RI s1.H rm fa' c s'/\NxR H (OwR rm fa) s1.H (OwR rm fa')
section
variable {H:List fq} {V:List Nat} {rm:Nat} {fa:AV} {c:Cd} {s:Ms}
theorem RI.lt (h:RI H rm fa c s) {k:Nat} (hk:OwR rm fa k):k<H.length:=by
 obtain⟨_,_,_,_,_,_,_,_,b1,_⟩:=h.m6
 rcases hk with rfl|hk
 ·exact fu b1
 ·exact h.fr.lt hk
theorem RI.upd (hM:RI H rm fa c s) {G:List fq} {s':Ms} {x:fq} (hf:s'.gq=s.gq)
  (hmach:∃Bs t1 t2 t3 el et sl ts,x=(.cells false (rcs Bs t1 t2 t3 c (s'.now.bk:Nat) (s'.now.at':Nat) (.sl (el.reverse) et) (.sl (sl.reverse) ts) fa (s'.steps:Nat) s'.halted))/\LIs blX c.bl Bs/\RVs s'.now.env el/\et.pure=true/\RVs s'.stack sl) :
  RI ((H++G).set rm x) rm fa c s'/\NxR H (OwR rm fa) ((H++G).set rm x) (OwR rm fa):=by
 have hml:=hM.lt (.inl rfl)
 obtain⟨Bs,t1,t2,t3,el,et,sl,ts,rfl,h⟩:=hmach
 refine⟨⟨⟨Bs,t1,t2,t3,el,et,sl,ts,gse (by simp;omega),h⟩,by rw[hf];exact hM.fr.jb λb e=>by rw[gsn (hM.d b e),gal (hM.fr.lt e)],hM.d⟩,⟨λk hk hu=>by rw[gsn λe=>hu (.inl e),gal hk],by simp,λk h=>.inl h⟩⟩
theorem RI.more (hM:RI H rm fa c s) (G:List fq):RI (H++G) rm fa c s/\NxR H (OwR rm fa) (H++G) (OwR rm fa):=by
 obtain⟨Bs,t1,t2,t3,el,et,sl,ts,b1,h⟩:=hM.m6
 exact⟨⟨⟨Bs,t1,t2,t3,el,et,sl,ts,jc b1 _,h⟩,hM.fr.jb λb e=>gal (hM.fr.lt e),hM.d⟩,⟨λk hk _=>gal hk,by simp,λk h=>.inl h⟩⟩
theorem zx {es:Nat} {l:List AV} {t:Tl} {a b:Nat} (h1:a<=b) (h2:b<=l.length):∃t',nh es l t a b none=some (.sl ((l.take b).drop a) t'):=by
 unfold nh
 rw[if_pos ⟨h1,h2⟩]
 dsimp only
 split
 ·rename_i h
  refine⟨t, ?_⟩
  rw[h.1,h.2,au (di _),List.drop_zero]
 ·exact⟨_,rfl⟩
theorem tz {v:Vl} {st:List Vl} (hM:RI H rm fa c s) (hs:s.stack=v::st) (hb:s.stack.length<=1000000) :
  Rw 104 [.ptr rm 0] ⟨H,V⟩ (RQm H rm fa c λr s'=>RV v r/\s' = {s with stack:=st}):=by
 obtain⟨Bs,t1,t2,t3,el,et,sl,ts,b1,b2,b3,b4,b5⟩:=hM.m6
 have hml:=fu b1
 rw[hs,RVs]at b5
 obtain⟨a,sl',rfl,hv,b6⟩:=b5
 obtain⟨k,n,nm,l0,t0,rfl⟩:=hv.four
 have hl:=b6.len
 rw[hs,ak]at hb
 simp only[rcs]at b1
 have hga:=λG:List fq=>(gal (G:=G) hml).trans b1
 have hL:((AV.agg [.int k,.int n,.str nm,.sl l0 t0])::sl').reverse.length=sl'.length+1:=by simp
 have hall:(((AV.agg [.int k,.int n,.str nm,.sl l0 t0])::sl').reverse.all λx=>x.cells.length==4)=true:=na (by rw[cz,(b6.wm).1];rfl)
 have hget:((AV.agg [.int k,.int n,.str nm,.sl l0 t0])::sl').reverse[sl'.length]? = some (.agg [.int k,.int n,.str nm,.sl l0 t0]):=by
  rw[List.reverse_cons,af (by simp),List.length_reverse,Nat.sub_self];rfl
 have hw:IntKind.i64.wrap (((sl'.length+1:Nat):Int)-1)=(sl'.length:Nat):=(gw (by unfold jn;omega)).trans (by omega)
 obtain⟨t',hcut⟩:=zx (es:=4) (l:=((AV.agg [.int k,.int n,.str nm,.sl l0 t0])::sl').reverse) (t:=ts) (a:=0) (b:=sl'.length) (dk _) (by rw[hL];omega)
 have htk:(((AV.agg [.int k,.int n,.str nm,.sl l0 t0])::sl').reverse.take sl'.length).drop 0=sl'.reverse:=by
  rw[List.drop_zero,List.reverse_cons,List.take_append_of_le_length (by simp),au (by simp)]
 rw[htk]at hcut
 have hle:((sl'.length:Nat):Int)<=((sl'.length+1:Nat):Int):=by omega
 generalize hsr:((AV.agg [.int k,.int n,.str nm,.sl l0 t0])::sl').reverse=sr at *
 refine ju pf104_is (dh rfl) ?_
 have x0:H.length ≠ rm:=by omega
 have x1:H.length+1 ≠ rm:=by omega
 have g0:=λ(L:List fq) (y:fq)=>gsn (H:=L) (x:=y) x0
 have g1:=λ(L:List fq) (y:fq)=>gsn (H:=L) (x:=y) x1
 have g2:=λ(X Y M B:fq)=>gse (H:=(H++[X,Y]).set rm M) (b:=H.length) (x:=B) (by simp)
 simp only[pf104,↓fm,wall,simprocAttr,wH,fw,fj,hga,hL,hall,hget,hw,hcut,hle,g0,g1,g2]
 rw[List.set_comm _ _ (by omega),Cc]
 obtain⟨h1,h2⟩:=hM.upd (G:=[.cells false [.int k,.int n,.str nm,.sl l0 t0],.cells false [.int k,.int n,.str nm,.sl l0 t0]]) (s':={s with stack:=st}) rfl ⟨Bs,t1,t2,t3,el,et,sl',t',rfl,b2,b3,b4,b6⟩
 exact⟨fa,_,⟨hv,rfl⟩,h1,h2⟩
end
end Go.Proofs.Eng
namespace Go.Proofs.Eng
open Go Go.Proofs
set_option maxRecDepth 100000
set_option maxHeartbeats 16000000
section
variable {H:List fq} {V:List Nat} {rm:Nat} {fa:AV} {c:Cd} {s:Ms}
theorem od {v:Vl} {a:AV} (hM:RI H rm fa c s) (hv:RV v a) (hb:s.stack.length<=1000000) :
  Rw 99 [.ptr rm 0,a] ⟨H,V⟩ (RQm H rm fa c λ_ s'=>s' = {s with stack:=v::s.stack}):=by
 obtain⟨Bs,t1,t2,t3,el,et,sl,ts,b1,b2,b3,b4,b5⟩:=hM.m6
 have hml:=fu b1
 obtain⟨k,n,nm,l0,t0,rfl⟩:=hv.four
 have hl:=b5.len
 have kh:Ev=1073741824:=rfl
 simp only[rcs]at b1
 have hga:=λG:List fq=>(gal (G:=G) hml).trans b1
 have h4:=na (b5.wm).2
 have h4':=na (b5.wm).1
 obtain⟨u1,V1,f1,f2,_⟩:=rn (T:=V) (es:=4) (l:=[]) (t:=.nil) (xs:=sl.reverse) (.inl ⟨rfl,rfl⟩) (by simp;omega) rfl h4
 rw[bo]at f1 f2
 obtain⟨u2,V2,e1,_,_⟩:=rn (es:=4) (xs:=[.agg [.int k,.int n,.str nm,.sl l0 t0]]) f2 (by simp;omega) h4' rfl
 obtain⟨h1,h2⟩:=hM.upd (G:=[.cells false [.int k,.int n,.str nm,.sl l0 t0]]) (s':={s with stack:=v::s.stack}) rfl ⟨Bs,t1,t2,t3,el,et,.agg [.int k,.int n,.str nm,.sl l0 t0]::sl,u2,rfl,b2,b3,b4,by rw[RVs];exact⟨_,_,rfl,hv,b5⟩⟩
 simp only[List.reverse_cons,rcs]at h1 h2
 refine ju pf99_is (dh rfl) ?_
 simp only[pf99,↓fm,wall,simprocAttr,wH,fw,fj,hga,f1,e1]
 exact⟨fa,_,rfl,h1,h2⟩
theorem Hm:∀{a b:List AV},gi a=true->gi b=true->gi (a++b)=true
 | [],b,_,h=>h
 | x::a,b,h,k=>by
  rw[gp,dy]at h
  rw[bn,gp,h.1,Hm h.2 k];rfl
theorem B4 {xs ys:List AV} (tx ty:Tl) (hx:gi xs=true) (hy:gi ys=true) (hx4:(xs.all λx=>x.cells.length==4&&x.cells.all ic)=true) (hx4':(xs.all λx=>x.cells.length==4)=true) (hy4:(ys.all λx=>x.cells.length==4&&x.cells.all ic)=true) (hl:xs.length+ys.length<=10000000) :
  Out md pfs 101 [.sl xs tx,.sl ys ty] (λv=>∃t,v = .sl (xs++ys) t/\t.pure=true) λ_=>False:=by
 have kh:Ev=1073741824:=rfl
 obtain⟨u1,V1,f1,f2,_⟩:=rn (T:=[]) (es:=4) (l:=[]) (t:=.nil) (xs:=xs) (.inl ⟨rfl,rfl⟩) (by simp only[ao];omega) rfl hx4
 rw[bo]at f1 f2
 obtain⟨u2,V2,e1,e2,_⟩:=rn (es:=4) (xs:=ys) f2 (by omega) hx4' hy4
 refine jt pf101_is (dh rfl) ?_
 simp only[pf101,↓fm,wall,simprocAttr,wH,f1,e1]
 obtain⟨t',h1,h2⟩:=Dz (s:=⟨[],V2⟩) e2 (Hm hx hy) (n:=1020) (by decide)
 exact⟨_,h2,t',rfl,h1⟩
theorem A4 {e:List Vl} {l:List AV} {t:Tl} (b:Nat) (hM:RI H rm fa c s) (he:RVs e l) (ht:t.pure=true) (hb:s.gq.length<=1000000) :
  Rw 103 [.ptr rm 0,.int (b:Nat),.sl l.reverse t] ⟨H,V⟩ (RQm H rm fa c λ_ s'=>s' = {s with now:=⟨b,0,e⟩,gq:=s.now::s.gq}):=by
 obtain⟨Bs,t1,t2,t3,el,et,sl,ts,b1,b2,b3,b4,b5⟩:=hM.m6
 have hml:=fu b1
 simp only[rcs]at b1
 have hone:(([.int (s.now.bk:Nat),.int (s.now.at':Nat),.sl el.reverse et]:List AV).length==3&&([.int (s.now.bk:Nat),.int (s.now.at':Nat),.sl el.reverse et]:List AV).all ic)=true:=rfl
 refine ju pf103_is (dh rfl) ?_
 rcases hM.fr with⟨rfl,hn⟩|⟨b',cs,rfl,h1,h2,h3⟩
 ·have hA:=Ir (H:=H) (V:=V) (.agg [.int (s.now.bk:Nat),.int (s.now.at':Nat),.sl el.reverse et]) rfl hone
  have b1':(H++[fq.cells false [.int (s.now.bk:Nat),.int (s.now.at':Nat),.sl el.reverse et]])[rm]? = _:=(gal hml).trans b1
  have hmA:rm<(H++[fq.cells false [.int (s.now.bk:Nat),.int (s.now.at':Nat),.sl el.reverse et]]).length:=by simp;omega
  simp only[pf103,↓fm,wall,simprocAttr,wH,fw,fj,b1,hA,b1',gse hmA,List.set_set]
  refine⟨.bs H.length 0 1 3 true,_,rfl,⟨⟨Bs,t1,t2,t3,l,t,sl,ts,gse hmA,b2,he,ht,b5⟩,.inr ⟨H.length,[.int (s.now.bk:Nat),.int (s.now.at':Nat),.sl el.reverse et],by simp[hn],(gsn (by omega)).trans gae,by simp[hn], ?_⟩,λk e => ?_⟩,⟨λk hk hu => ?_,by simp,λk hk => ?_⟩⟩
  ·rw[hn];exact⟨el,et,[],rfl,b3,b4,rfl⟩
  ·cases e;omega
  ·rw[gsn λe=>hu (.inl e),gal hk]
  ·rcases hk with hk|hk
   ·exact .inl (.inl hk)
   ·cases hk;exact .inr (di _)
 ·have d2:b' ≠ rm:=hM.d b' rfl
  have hA:=Ln (V:=V) (es:=3) (ag:=true) h1 (Nat.mul_comm _ _) h2 hb (.agg [.int (s.now.bk:Nat),.int (s.now.at':Nat),.sl el.reverse et]) rfl hone
  have b1':(H.set b' .dead++[fq.cells false (cs.take (3*s.gq.length)++[.int (s.now.bk:Nat),.int (s.now.at':Nat),.sl el.reverse et])])[rm]? = _:=(gal (by simpa using hml)).trans ((gsn λe=>d2 e.symm).trans b1)
  have hmA:rm<(H.set b' .dead++[fq.cells false (cs.take (3*s.gq.length)++[.int (s.now.bk:Nat),.int (s.now.at':Nat),.sl el.reverse et])]).length:=by simp;omega
  have hle:(cs.take (3*s.gq.length)++[.int (s.now.bk:Nat),.int (s.now.at':Nat),.sl el.reverse et]:List AV).length=3*(s.gq.length+1):=by simp;omega
  simp only[pf103,↓fm,wall,simprocAttr,wH,fw,fj,b1,hA,b1',gse hmA,List.set_set]
  refine⟨.bs H.length 0 (s.gq.length+1) 3 true,_,rfl,⟨⟨Bs,t1,t2,t3,l,t,sl,ts,gse hmA,b2,he,ht,b5⟩,.inr ⟨H.length,_,rfl,(gsn (by omega)).trans a3w,by rw[hle];exact di _, ?_⟩,λk e => ?_⟩,⟨λk hk hu => ?_,by simp,λk hk => ?_⟩⟩
  ·rw[au (by rw[hle];exact di _)]
   exact(by rw[List.reverse_cons];exact h3.app ⟨el,et,[],rfl,b3,b4,rfl⟩)
  ·cases e;omega
  ·rw[gsn λe=>hu (.inl e),gal (by simpa using hk),gsn λe=>hu (.inr (by rw[e];rfl))]
  ·rcases hk with hk|hk
   ·exact .inl (.inl hk)
   ·cases hk;exact .inr (di _)
end
end Go.Proofs.Eng
namespace Go.Proofs.Eng
open Go Go.Proofs
set_option maxRecDepth 100000
set_option maxHeartbeats 16000000
theorem RQm.of {H H1:List fq} {rm:Nat} {fa fa1 fa':AV} {c:Cd} {P:AV->Ms->Prop} {v:AV} {s1:ASt} {s':Ms} (hp:P v s') (hn:NxR H (OwR rm fa) H1 (OwR rm fa1)) (h1:RI s1.H rm fa' c s') (h2:NxR H1 (OwR rm fa1) s1.H (OwR rm fa')):RQm H rm fa c P v s1:=⟨fa',s',hp,h1,hn.trans h2⟩
section
variable {H:List fq} {V:List Nat} {rm:Nat} {fa:AV} {c:Cd} {s:Ms}
theorem Ft {v:Vl} {st:List Vl} (b:Bool) (hM:RI H rm fa c s) (hs:s.stack=v::st) (hb:s.stack.length<=1000000) :
  Rw 105 [.ptr rm 0,.int (if b then 1 else 0)] ⟨H,V⟩ (RQm H rm fa c λr s'=>s'=(s.part b).1/\r = .int (s.part b).2):=by
 obtain⟨a,⟨H1,V1⟩,⟨fa1,s1,⟨hv,rfl⟩,p1,p2⟩,cp⟩:=(tz (V:=V) hM hs hb).call rfl
 have hv':=hv
 rw[hs]at hb
 simp only[ak]at hb
 refine ju pf105_is (dh rfl) ?_
 cases v with
 | box=>
  rw[RV]at hv;subst hv
  obtain⟨q1,q2⟩:=p1.more [.cells false [.int 0,.int 0,.str ⟨#[]⟩,.sl [] .nil]]
  obtain⟨r,⟨H3,V3⟩,⟨fa3,s3,rfl,u1,u2⟩,cu⟩:=(od (V:=V1) q1 hv' (by show st.length<=_;omega)).call rfl
  simp only[pf105,↓fm,wall,simprocAttr,wH,fw,fj,cp,cu]
  refine .of ⟨?_,by rw[Ms.part,hs]⟩ (p2.trans q2) u1 u2
  rw[Ms.part,hs]
  cases s;simp only at hs;subst hs;rfl
 | clo n e=>
  rw[RV]at hv
  obtain⟨l,t,rfl,_⟩:=hv
  obtain⟨q1,q2⟩:=p1.more [.cells false [.int 1,.int n,.str ⟨#[]⟩,.sl l.reverse t]]
  simp only[pf105,↓fm,wall,simprocAttr,wH,fw,fj,cp]
  exact .of ⟨by rw[Ms.part,hs],by rw[Ms.part,hs]⟩ p2 q1 q2
 | ctor n nm p=>
  rw[RV]at hv
  obtain⟨l,t,rfl,_⟩:=hv
  obtain⟨q1,q2⟩:=p1.more [.cells false [.int 2,.int n,.str nm,.sl l t]]
  simp only[pf105,↓fm,wall,simprocAttr,wH,fw,fj,cp]
  exact .of ⟨by rw[Ms.part,hs],by rw[Ms.part,hs]⟩ p2 q1 q2
 | pair x y=>
  rw[RV]at hv
  obtain⟨ax,ay,t,rfl,_,hx,hy⟩:=hv
  obtain⟨k1,n1,m1,l1,u1,rfl⟩:=hx.four
  obtain⟨k2,n2,m2,l2,u2,rfl⟩:=hy.four
  obtain⟨q1,q2⟩:=p1.more [.cells false [.int 3,.int 0,.str ⟨#[]⟩,.sl [.agg [.int k1,.int n1,.str m1,.sl l1 u1],.agg [.int k2,.int n2,.str m2,.sl l2 u2]] t]]
  cases b
  ·obtain⟨r,⟨H3,V3⟩,⟨fa3,s3,rfl,w1,w2⟩,cu⟩:=(od (V:=V1) q1 hx (by show st.length<=_;omega)).call rfl
   simp only[pf105,↓fm,wall,simprocAttr,wH,fw,fj,cp,cu]
   exact .of ⟨by rw[Ms.part,hs];rfl,by rw[Ms.part,hs]⟩ (p2.trans q2) w1 w2
  ·obtain⟨r,⟨H3,V3⟩,⟨fa3,s3,rfl,w1,w2⟩,cu⟩:=(od (V:=V1) q1 hy (by show st.length<=_;omega)).call rfl
   simp only[pf105,↓fm,wall,simprocAttr,wH,fw,fj,cp,cu]
   exact .of ⟨by rw[Ms.part,hs];rfl,by rw[Ms.part,hs]⟩ (p2.trans q2) w1 w2
theorem Mt {a f:Vl} {st:List Vl} (hM:RI H rm fa c s) (hs:s.stack=a::f::st) (hb:s.stack.length<=1000000) (hfr:s.gq.length<65536) (hcl:∀n e,f = .clo n e->0<=n/\e.length<=1000000) :
  Rw 100 [.ptr rm 0] ⟨H,V⟩ (RQm H rm fa c λr s'=>s'=s.apply.1/\r = .int s.apply.2):=by
 obtain⟨va,⟨H1,V1⟩,⟨fa1,s1,⟨hva,rfl⟩,p1,p2⟩,cp⟩:=(tz (V:=V) hM hs hb).call rfl
 obtain⟨k1,n1,m1,l1,u1,rfl⟩:=hva.four
 rw[hs]at hb
 simp only[ak]at hb
 obtain⟨q1,q2⟩:=p1.more [.cells false [.int k1,.int n1,.str m1,.sl l1 u1]]
 obtain⟨vf,⟨H2,V2⟩,⟨fa2,s2,⟨hvf,rfl⟩,r1,r2⟩,cq⟩:=(tz (V:=V1) q1 (v:=f) (st:=st) rfl (by simp only[ak];omega)).call rfl
 have hvf':=hvf
 have hN:=p2.trans (q2.trans r2)
 refine ju pf100_is (dh rfl) ?_
 have hx:H2[H1.length]? = some (.cells false [.int k1,.int n1,.str m1,.sl l1 u1]):=by
  rw[r2.jb H1.length (by simp) λh=>Nat.lt_irrefl _ (p1.lt h)];exact gae
 have hxg:=λG:List fq=>(gal (G:=G) (fu hx)).trans hx
 cases f with
 | box=>
  rw[RV]at hvf;subst hvf
  obtain⟨w1,w2⟩:=r1.more [.cells false [.int 0,.int 0,.str ⟨#[]⟩,.sl [] .nil]]
  obtain⟨r,⟨H3,V3⟩,⟨fa3,s3,rfl,y1,y2⟩,cu⟩:=(od (V:=V2) w1 hvf' (by show st.length<=_;omega)).call rfl
  simp only[pf100,↓fm,wall,simprocAttr,wH,fw,fj,cp,cq,cu]
  exact .of ⟨by rw[Ms.apply,hs],by rw[Ms.apply,hs]⟩ (hN.trans w2) y1 y2
 | clo n e=>
  rw[RV]at hvf
  obtain⟨l,t,rfl,ht,hl⟩:=hvf
  obtain⟨hn0,hel⟩:=hcl n e rfl
  obtain⟨k,rfl⟩:∃k:Nat,n=(k:Nat):=⟨n.toNat,by omega⟩
  obtain⟨w1,w2⟩:=r1.more [.cells false [.int 1,.int (k:Nat),.str ⟨#[]⟩,.sl l.reverse t]]
  have hll:=hl.len
  have hpl:=Ay _ hl.pure
  obtain⟨_,⟨u2,rfl,hu2⟩,cw⟩:=(B4 (xs:=l.reverse) (ys:=[.agg [.int k1,.int n1,.str m1,.sl l1 u1]]) t (.cap 1) hpl (by rw[gp,hva.pure];exact gz) (na hl.wm.2) (na hl.wm.1) rfl (by simp;omega)).call rfl (by simp[gp,gz,kl,ht,hpl,hva.pure];rfl)
  obtain⟨r,⟨H3,V3⟩,⟨fa3,s3,rfl,y1,y2⟩,cy⟩:=(A4 (V:=V2) (e:=a::e) (l:=.agg [.int k1,.int n1,.str m1,.sl l1 u1]::l) (t:=u2) k w1 (by rw[RVs];exact⟨_,_,rfl,hva,hl⟩) hu2 (by show s.gq.length<=_;omega)).call rfl
  simp only[List.reverse_cons]at cy
  simp only[pf100,↓fm,wall,simprocAttr,wH,fw,fj,cp,cq,hxg,cw,cy]
  refine .of ?_ (hN.trans w2) y1 y2
  rw[Ms.apply,hs]
  simp only[ew]
  rw[Ms.enter,if_neg (by show ¬ 65536<=s.gq.length;omega)];exact⟨rfl,rfl⟩
 | ctor n nm p=>
  rw[RV]at hvf
  obtain⟨l,t,rfl,_⟩:=hvf
  obtain⟨w1,w2⟩:=r1.more [.cells false [.int 2,.int n,.str nm,.sl l t]]
  simp only[pf100,↓fm,wall,simprocAttr,wH,fw,fj,cp,cq]
  exact .of ⟨by rw[Ms.apply,hs],by rw[Ms.apply,hs]⟩ hN w1 w2
 | pair x y=>
  rw[RV]at hvf
  obtain⟨ax,ay,t,rfl,_⟩:=hvf
  obtain⟨w1,w2⟩:=r1.more [.cells false [.int 3,.int 0,.str ⟨#[]⟩,.sl [ax,ay] t]]
  simp only[pf100,↓fm,wall,simprocAttr,wH,fw,fj,cp,cq]
  exact .of ⟨by rw[Ms.apply,hs],by rw[Ms.apply,hs]⟩ hN w1 w2
theorem K0 {n:Nat} {v:Vl} {st:List Vl} {Br:List Ins} (tb:Tl) (hM:RI H rm fa c s) (hs:s.stack=v::st) (hb:s.stack.length<=1000000) (hfr:s.gq.length<65536) (hat:s.now.at'+n<=1000000000) (hbrs:c.brs s.now n=Br) (hlen:Br.length=n) (henv:s.now.env.length<=1000000)
  (hk:∀k nm p,v = .ctor k nm p->0<=k/\p.length<=1000000) (hy:∀y ∈ Br,0<=y.a) :
  Rw 102 [.ptr rm 0,.sl (jf Br) tb] ⟨H,V⟩ (RQm H rm fa c λr s'=>s'=(s.choose c n).1/\r = .int (s.choose c n).2):=by
 obtain⟨a,⟨H1,V1⟩,⟨fa1,s1,⟨hv,rfl⟩,p1,p2⟩,cp⟩:=(tz (V:=V) hM hs hb).call rfl
 have hv':=hv
 have h4:=v7 Br
 rw[hs]at hb
 simp only[ak]at hb
 refine ju pf102_is (dh rfl) ?_
 cases v with
 | box=>
  rw[RV]at hv;subst hv
  obtain⟨q1,q2⟩:=p1.more [.cells false [.int 0,.int 0,.str ⟨#[]⟩,.sl [] .nil]]
  simp only[pf102,↓fm,wall,simprocAttr,wH,fw,fj,cp]
  exact .of ⟨by rw[Ms.choose,hs],by rw[Ms.choose,hs]⟩ p2 q1 q2
 | clo k e=>
  rw[RV]at hv
  obtain⟨l,t,rfl,_⟩:=hv
  obtain⟨q1,q2⟩:=p1.more [.cells false [.int 1,.int k,.str ⟨#[]⟩,.sl l.reverse t]]
  simp only[pf102,↓fm,wall,simprocAttr,wH,fw,fj,cp]
  exact .of ⟨by rw[Ms.choose,hs],by rw[Ms.choose,hs]⟩ p2 q1 q2
 | pair x y=>
  rw[RV]at hv
  obtain⟨ax,ay,t,rfl,_⟩:=hv
  obtain⟨q1,q2⟩:=p1.more [.cells false [.int 3,.int 0,.str ⟨#[]⟩,.sl [ax,ay] t]]
  simp only[pf102,↓fm,wall,simprocAttr,wH,fw,fj,cp]
  exact .of ⟨by rw[Ms.choose,hs],by rw[Ms.choose,hs]⟩ p2 q1 q2
 | ctor k nm p=>
  rw[RV]at hv
  obtain⟨lp,tp,rfl,htp,hps⟩:=hv
  obtain⟨hk0,hpl⟩:=hk k nm p rfl
  obtain⟨kk,rfl⟩:∃kk:Nat,k=(kk:Nat):=⟨k.toNat,by omega⟩
  have hpn:=hps.len
  obtain⟨X,hX⟩:∃X,X=fq.cells false [.int 2,.int (kk:Nat),.str nm,.sl lp tp]:=⟨_,rfl⟩
  obtain⟨q1,q2⟩:=p1.more [X]
  have hout:(kk<Br.length -> ∀y,Br[kk]? = some y->y.b ≠ (lp.length:Nat))->s.choose c n=({s with stack:=st},10):=by
   intro h
   rw[Ms.choose,hs]
   simp only[ew,hbrs]
   cases hq:Br[kk]? with
   | none=>rfl
   | some y=>
    simp only
    rw[if_neg (by rw[<- hpn];exact h (List.getElem?_eq_some_iff.1 hq).1 y hq)]
  rcases dj kk Br.length with hlt|hge
  ·have hdec:decide (((kk:Nat):Int)>=((jf Br).length:Nat))=false:=by rw[gj];simpa using hlt
   have hlt':((kk:Nat):Int)<((jf Br).length:Nat):=by rw[gj];omega
   have hyq:Br[kk]? = some Br[kk]:=aa hlt
   obtain⟨y,hyy⟩:∃y,y=Br[kk]:=⟨_,rfl⟩
   rw[<- hyy]at hyq
   have hyg:=Az hyq
   obtain⟨ya,hya⟩:∃ya:Nat,y.a=(ya:Nat):=⟨y.a.toNat,by have:=hy y (aq hyq);omega⟩
   simp only[Ins.av,hya]at hyg
   cases hne:(y.b != ((lp.length:Nat):Int))
   ·have hyb:y.b=(p.length:Nat):=by rw[<- hpn];simpa using hne
    obtain⟨Bs,t1,t2,t3,el,et,sl,ts,b1,b2,b3,b4,b5⟩:=q1.m6
    have hml:=fu b1
    have hw:IntKind.i64.wrap ((s.now.at':Int)+((jf Br).length:Nat))=((s.now.at'+n:Nat):Int):=(gw (by rw[gj,hlen];unfold jn;omega)).trans (by rw[gj,hlen];omega)
    obtain⟨u1,u2⟩:=q1.upd (G:=[]) (s':={s with stack:=st,now:={s.now with at':=s.now.at'+n}}) rfl ⟨Bs,t1,t2,t3,el,et,sl,ts,rfl,b2,b3,b4,b5⟩
    rw[List.append_nil]at u1 u2
    have hell:=b3.len
    have hpl':=Ay _ b3.pure
    obtain⟨_,⟨ut,rfl,hut⟩,cw⟩:=(B4 (xs:=el.reverse) (ys:=lp) et tp hpl' hps.pure (na b3.wm.2) (na b3.wm.1) hps.wm.2 (by rw[List.length_reverse,hell,hpn];have:({s with stack:=st}:Ms).now.env.length=s.now.env.length:=rfl;omega)).call rfl (by simp[gp,gz,kl,b4,htp,hpl',hps.pure])
    have hrr:el.reverse++lp=(lp.reverse++el).reverse:=by simp
    obtain⟨r,⟨H3,V3⟩,⟨fa3,s3,rfl,y1,y2⟩,cy⟩:=(A4 (V:=V1) (e:=p.reverse++s.now.env) (l:=lp.reverse++el) (t:=ut) ya u1 (hps.rev.app b3) hut (by show s.gq.length<=_;omega)).call rfl
    rw[<- hrr]at cy
    have hxm:H1.length ≠ rm:=by have:=p1.lt (.inl rfl);simp only at this;omega
    have gx:=λ(L:List fq) (y:fq)=>gsn (H:=L) (x:=y) hxm
    have hxg:(H1++[X])[H1.length]? = some X:=gae
    subst hX
    simp only[rcs]at b1 cy
    simp only[pf102,↓fm,wall,simprocAttr,wH,fw,fj,cp,hdec,hlt',hyg,hne,h4,b1,hw,gse hml,gx,hxg,cw,cy]
    refine .of ?_ (p2.trans (q2.trans u2)) y1 y2
    rw[Ms.choose,hs]
    simp only[ew,hbrs,hyq]
    rw[if_pos hyb,hya,ew,Ms.enter,if_neg (by show ¬ 65536<=s.gq.length;omega)];exact⟨rfl,rfl⟩
   ·have:s.choose c n=({s with stack:=st},10):=hout λ_ y' hy' e=>by
     rw[hyq]at hy';cases hy'
     rw[e]at hne;simp at hne
    subst hX
    simp only[pf102,↓fm,wall,simprocAttr,wH,fw,fj,cp,hdec,hlt',hyg,hne,h4]
    exact .of ⟨by rw[this],by rw[this]⟩ p2 q1 q2
  ·have hdec:decide (((kk:Nat):Int)>=((jf Br).length:Nat))=true:=by rw[gj];simpa using hge
   have:s.choose c n=({s with stack:=st},10):=hout λh=>absurd h (by omega)
   subst hX
   simp only[pf102,↓fm,wall,simprocAttr,wH,fw,fj,cp,hdec]
   exact .of ⟨by rw[this],by rw[this]⟩ p2 q1 q2
end
end Go.Proofs.Eng
namespace Go.Proofs.Eng
open Go Go.Proofs
set_option maxRecDepth 100000
set_option maxHeartbeats 16000000
section
variable {H:List fq} {V:List Nat} {rm:Nat} {fa:AV} {c:Cd} {s:Ms}
theorem Jo {es:Nat} {l:List AV} {t:Tl} {a b:Nat} (ht:t.pure=true) (h1:a<=b) (h2:b<=l.length):∃t',nh es l t a b none=some (.sl ((l.take b).drop a) t')/\t'.pure=true:=by
 unfold nh
 rw[if_pos ⟨h1,h2⟩]
 dsimp only
 split
 ·rename_i h
  refine⟨t, ?_,ht⟩
  rw[h.1,h.2,au (di _),List.drop_zero]
 ·refine⟨_,rfl, ?_⟩
  cases t<;>first|rfl|cases ht
theorem RVs.takeN {p:List Vl} {l:List AV} {n:Nat} (h:RVs p l) (hn:n<=p.length):RVs (p.take n) (l.take n)/\RVs (p.drop n) (l.drop n):=by
 rw[<- ck n p]at h
 have:=RVs.split h
 rwa [b7,Nat.min_eq_left hn]at this
theorem R2 {x:Ins} {l:List Ins} (hM:RI H rm fa c s) (hl:c.bl[s.now.bk]? = some l) (hx:l[s.now.at']? = some x) (hll:l.length<=1000000) (hR:Rdy c x s.adv) (hb:s.stack.length<=900000) (hfr:s.gq.length<65536) (hst:s.steps<=1000000000) (henv:s.now.env.length<=900000)
  (hcl:∀a n e st,s.stack=a :: .clo n e::st->e.length<=1000000) :
  Rw 62 [.ptr rm 0] ⟨H,V⟩ (RQm H rm fa c λr s'=>s'=(s.adv.exec c x).1/\r = .int (s.adv.exec c x).2):=by
 obtain⟨Bs,t1,t2,t3,el,et,sl,ts,b1,b2,b3,b4,b5⟩:=hM.m6
 have hml:=fu b1
 obtain⟨_,ab,bl1,_,_,bl2,⟨tl,rfl⟩⟩:=b2.at (i:=s.now.bk) (by rw[b2.len];exact(List.getElem?_eq_some_iff.1 hl).1)
 rw[hl]at bl1;cases bl1
 have hBa:(Bs.all λx=>x.cells.length==1)=true:=aw.2 λy hy=>by
  obtain⟨q,hq⟩:=List.mem_iff_getElem?.1 hy
  obtain⟨b,a,_,_,_,e4,⟨t,rfl⟩⟩:=b2.at (i:=q) (List.getElem?_eq_some_iff.1 hq).1
  rw[hq]at e4;cases e4;rfl
 have hxl:=(List.getElem?_eq_some_iff.1 hx).1
 have hxa:=Az hx
 have hi1:((s.now.at':Nat):Int)<((jf l).length:Nat):=by rw[gj];omega
 have h4:=v7 l
 have hw1:IntKind.i64.wrap ((s.now.at':Int)+1)=((s.now.at'+1:Nat):Int):=(gw (by unfold jn;omega)).trans (by omega)
 have hw2:IntKind.i64.wrap ((s.steps:Int)+1)=((s.steps+1:Nat):Int):=(gw (by unfold jn;omega)).trans (by omega)
 obtain⟨op,xa,xb,xn⟩:=x
 obtain⟨X,hX⟩:∃X,X=fq.cells false [.int op,.int xa,.int xb,.str xn]:=⟨_,rfl⟩
 obtain⟨u1,u2⟩:=hM.upd (G:=[X]) (s':=s.adv) rfl ⟨Bs,t1,t2,t3,el,et,sl,ts,rfl,b2,b3,b4,b5⟩
 have hml2:rm<(H++[X]).length:=by simp;omega
 have hga:=λG:List fq=>(gal (G:=G) hml).trans b1
 have hxm:H.length ≠ rm:=by omega
 have gx:=λ(L:List fq) (y:fq)=>gsn (H:=L) (x:=y) hxm
 have hxg:(H++[X])[H.length]? = some X:=gae
 have hell:=b3.len
 have hsll:=b5.len
 have he4:=na b3.wm.1
 have hs4:=na b5.wm.1
 subst hX
 simp only[rcs,Ms.adv]at hga u1 u2
 simp only[Ins.av]at hxa
 obtain⟨o1,o2,o3⟩:=hR.op
 refine ju pf62_is (dh rfl) ?_
 have hops:op=0\/op=1\/op=2\/op=3\/op=4\/op=5\/op=7\/op=8\/op=9\/op=10\/op=11\/op=12\/op=13\/op=14:=by simp only at o1 o2 o3;omega
 have hb':s.adv.stack.length<=1000000:=by show s.stack.length<=_;omega
 rcases hops with h|h|h|h|h|h|h|h|h|h|h|h|h|h<;>subst h
 ·-- variable
  obtain⟨n,v,ha,hn⟩:=hR.o0 rfl
  simp only at ha;subst ha
  obtain⟨av,hg,hv⟩:=b3.at hn
  have hnl:=(List.getElem?_eq_some_iff.1 hg).1
  obtain⟨k1,n1,m1,l1,v1,rfl⟩:=hv.four
  have hL:el.reverse.length=el.length:=by simp
  have hq1:IntKind.i64.wrap ((el.length:Int)-1)=((el.length-1:Nat):Int):=(gw (by unfold jn;omega)).trans (by omega)
  have hq2:IntKind.i64.wrap (((el.length-1:Nat):Int)-(n:Nat))=((el.length-1-n:Nat):Int):=(gw (by unfold jn;omega)).trans (by omega)
  have hget:el.reverse[el.length-1-n]? = some (.agg [.int k1,.int n1,.str m1,.sl l1 v1]):=by rw[List.getElem?_reverse (by omega),show el.length-1-(el.length-1-n)=n from by omega];exact hg
  have hlt:((el.length-1-n:Nat):Int)<(el.length:Nat):=by omega
  obtain⟨r,⟨H3,V3⟩,⟨fa3,s3,rfl,y1,y2⟩,cy⟩:=(od (V:=V) u1 hv hb').call rfl
  simp only[pf62,↓fm,wall,simprocAttr,wH,fw,fj,hga,bl2,hBa,hi1,hxa,h4,hw1,hw2,gse hml2,List.set_set,gx,hxg,fh,ew,hL,hq1,hq2,hget,hlt,he4,cy]
  exact .of ⟨by rw[Ms.exec,if_pos rfl,ew,Ms.variable,hn];rfl,by rw[Ms.exec,if_pos rfl,ew,Ms.variable,hn]⟩ u2 y1 y2
 ·-- closure
  have hv:RV (.clo xa s.now.env) (.agg [.int 1,.int xa,.str ⟨#[]⟩,.sl el.reverse et]):=by rw[RV];exact⟨el,et,rfl,b4,b3⟩
  obtain⟨r,⟨H3,V3⟩,⟨fa3,s3,rfl,y1,y2⟩,cy⟩:=(od (V:=V) u1 hv hb').call rfl
  simp only[pf62,↓fm,wall,simprocAttr,wH,fw,fj,hga,bl2,hBa,hi1,hxa,h4,hw1,hw2,gse hml2,List.set_set,gx,hxg,fh,ew,cy]
  exact .of ⟨rfl,rfl⟩ u2 y1 y2
 ·-- apply
  obtain⟨a,f,st,hs,hc0⟩:=hR.o2 rfl
  obtain⟨r,⟨H3,V3⟩,⟨fa3,s3,⟨rfl,rfl⟩,y1,y2⟩,cy⟩:=(Mt (V:=V) u1 hs hb' hfr (λn e hf=>⟨hc0 n e hf,hcl a n e st (by rw[<- hf];exact hs)⟩)).call rfl
  simp only[pf62,↓fm,wall,simprocAttr,wH,fw,fj,hga,bl2,hBa,hi1,hxa,h4,hw1,hw2,gse hml2,List.set_set,gx,hxg,fh,ew,cy]
  exact .of ⟨rfl,rfl⟩ u2 y1 y2
 ·-- leave
  have done:∀{V':List Nat},s.gq=[]->RQm H rm fa c (λr s'=>s'=(s.adv.exec c ⟨3,xa,xb,xn⟩).1/\r = .int (s.adv.exec c ⟨3,xa,xb,xn⟩).2) (.int 0) ⟨(H++[fq.cells false [.int 3,.int xa,.int xb,.str xn]]).set rm (.cells false (rcs Bs t1 t2 t3 c (s.now.bk:Nat) ((s.now.at'+1:Nat):Int) (.sl el.reverse et) (.sl sl.reverse ts) fa ((s.steps+1:Nat):Int) true)),V'⟩:=by
   intro V' h0
   obtain⟨w1,w2⟩:=hM.upd (G:=[.cells false [.int 3,.int xa,.int xb,.str xn]]) (s':={s.adv with halted:=true}) rfl ⟨Bs,t1,t2,t3,el,et,sl,ts,rfl,b2,b3,b4,b5⟩
   have e:s.adv.exec c ⟨3,xa,xb,xn⟩=({s.adv with halted:=true},0):=by rw[Ms.exec,if_neg (by simp),if_neg (by simp),if_neg (by simp),if_pos rfl,Ms.leave];have h0':s.adv.gq=[]:=h0;split<;>rename_i hh<;>first|rfl|(rw[h0']at hh;cases hh)
   exact⟨_,_,⟨by rw[e],by rw[e]⟩,w1,w2⟩
  simp only[rcs]at done
  rcases hM.fr with⟨rfl,hn⟩|⟨b,cs,rfl,h1,h2,h3⟩
  ·simp only[pf62,↓fm,wall,simprocAttr,wH,fw,fj,hga,bl2,hBa,hi1,hxa,h4,hw1,hw2,gse hml2,List.set_set,gx,hxg,fh,ew]
   exact done hn
  cases hf:s.gq with
  | nil=>
   rw[hf]at hga done
   have hd0:((([]:List Fr).length:Int)==0)=true:=rfl
   simp only[pf62,↓fm,wall,simprocAttr,wH,fw,fj,hga,bl2,hBa,hi1,hxa,h4,hw1,hw2,gse hml2,List.set_set,gx,hxg,fh,ew,hd0]
   exact done rfl
  | cons f fs=>
   have hlf:s.gq.length=fs.length+1:=by rw[hf];rfl
   have d2:b ≠ rm:=hM.d b rfl
   have hbl:=fu h1
   rw[hlf]at hga h2 h3 hfr
   rw[hf,List.reverse_cons]at h3
   obtain⟨k1,k2⟩:=FAr.split h3
   rw[List.length_reverse]at k1 k2
   obtain⟨ef,eft,l',e,k3,k3',k4⟩:=k2
   rw[FAr]at k4;subst k4
   rw[List.take_take,Nat.min_eq_left (by omega)]at k1
   have hdt:(cs.drop (fs.length*3)).take 3=[.int (f.bk:Nat),.int (f.at':Nat),.sl ef.reverse eft]:=by
    rw[List.drop_take]at e
    rw[<- e,Nat.mul_comm];congr 1;omega
   have hl3:3<=(cs.drop (fs.length*3)).length:=by rw[b8];omega
   have gm:=λ(L:List fq) (y:fq)=>gsn (H:=L) (x:=y) d2
   have gb:=λ(L:List fq) (y:fq)=>gsn (H:=L) (x:=y) (λe=>d2 e.symm:rm ≠ b)
   have hb1:=λG:List fq=>(gal (G:=G) hbl).trans h1
   have hw:IntKind.i64.wrap (((fs.length+1:Nat):Int)-1)=(fs.length:Nat):=(gw (by unfold jn;omega)).trans (by omega)
   have hd:((((fs.length+1:Nat):Int))==0)=false:=by simp;omega
   have hlt1:((fs.length:Nat):Int)<(fs.length+1:Nat):=by omega
   have hl33:fs.length*3+3<=cs.length:=by omega
   have hle1:((fs.length:Nat):Int)<=(fs.length+1:Nat):=by omega
   have hcut:xd b 0 (fs.length+1) 3 3 true 0 fs.length true none=some (.bs b 0 fs.length 3 true):=by simp[xd]
   simp only[pf62,↓fm,wall,simprocAttr,wH,fw,fj,hga,bl2,hBa,hi1,hxa,h4,hw1,hw2,gse hml2,List.set_set,gx,hxg,fh,ew,hw,hd,hlt1,hl33,hle1,hcut,Option.map_none,hb1,hdt,hl3,gm,gb]
   have e:s.adv.exec c ⟨3,xa,xb,xn⟩=({s.adv with now:=f,gq:=fs},0):=by
    rw[Ms.exec,if_neg (by simp),if_neg (by simp),if_neg (by simp),if_pos rfl,Ms.leave]
    have h0':s.adv.gq=f::fs:=hf
    split<;>rename_i hh
    ·rw[h0']at hh;cases hh
    ·rw[h0']at hh;cases hh;rfl
   rw[e]
   refine⟨.bs b 0 fs.length 3 true,_,⟨rfl,rfl⟩,⟨⟨Bs,t1,t2,t3,ef,eft,sl,ts,gse hml2,b2,k3,k3',b5⟩,.inr ⟨b,cs,rfl,(gsn d2).trans (hb1 _),by show 3*fs.length<=_;omega,k1⟩,hM.d⟩,⟨λk hk hu => ?_,by simp,λk h=>.inl h⟩⟩
   rw[gsn λe=>hu (.inl e),gal hk]
 ·-- construct
  obtain⟨n,hxn,hn⟩:=hR.o4 rfl
  simp only at hxn;subst hxn
  have hn':n<=s.stack.length:=hn
  obtain⟨hp1,hp2⟩:=b5.takeN hn'
  have hw:IntKind.i64.wrap (((sl.reverse.length:Nat):Int)-(n:Nat))=((sl.length-n:Nat):Int):=(gw (by rw[List.length_reverse];unfold jn;omega)).trans (by rw[List.length_reverse];omega)
  obtain⟨ta,hc1⟩:=zx (es:=4) (l:=sl.reverse) (t:=ts) (a:=sl.length-n) (b:=sl.reverse.length) (by rw[List.length_reverse];omega) (di _)
  obtain⟨tb,hc2⟩:=zx (es:=4) (l:=sl.reverse) (t:=ts) (a:=0) (b:=sl.length-n) (dk _) (by rw[List.length_reverse];omega)
  have hk1:(sl.reverse.take sl.reverse.length).drop (sl.length-n)=(sl.take n).reverse:=by rw[au (di _),List.drop_reverse,show sl.length-(sl.length-n)=n from by omega]
  have hk2:(sl.reverse.take (sl.length-n)).drop 0=(sl.drop n).reverse:=by rw[List.drop_zero,List.take_reverse,show sl.length-(sl.length-n)=n from by omega]
  rw[hk1]at hc1
  rw[hk2]at hc2
  have hle1:((sl.length-n:Nat):Int)<=((sl.reverse.length:Nat):Int):=by rw[List.length_reverse];omega
  have hle2:(0:Int)<=((sl.length-n:Nat):Int):=by omega
  have hpu:gi (sl.take n).reverse=true:=Ay _ hp1.pure
  have hta:Tl.pure (if ta.pure then ta else .none)=true:=by split;assumption;rfl
  have hOut:Out md pfs 101 (([.sl (sl.take n).reverse ta,.sl [] .nil]:List AV).map zd) (λv=>∃t,v = .sl ((sl.take n).reverse++[]) t/\t.pure=true) λ_=>False:=B4 (xs:=(sl.take n).reverse) (ys:=[]) (if ta.pure then ta else .none) .nil hpu gz (na hp1.wm.2) (na hp1.wm.1) rfl (by simp;omega)
  obtain⟨_,⟨tu,rfl,hu⟩,cw⟩:=hOut.a6c rfl (by show gi [.sl (sl.take n).reverse _,.sl [] .nil]=true;simp[gp,gz,kl,hta,hpu];rfl)
  rw[List.append_nil]at cw
  have hx3:=λ(Y:fq) (G:List fq)=>(gal (G:=G) (by simp:H.length<((H++[fq.cells false [.int 4,.int xa,.int (n:Nat),.str xn]]).set rm Y).length)).trans ((gx _ Y).trans hxg)
  have hg3:=λ(Y:fq) (G:List fq)=>(gal (G:=G) (by simp;omega:rm<((H++[fq.cells false [.int 4,.int xa,.int (n:Nat),.str xn]]).set rm Y).length)).trans (gse hml2)
  have hg5:=λ(Y Z B:fq)=>(gsn (H:=(H++[fq.cells false [.int 4,.int xa,.int (n:Nat),.str xn]]).set rm Y++[B]) (x:=Z) (by simp;omega:((H++[fq.cells false [.int 4,.int xa,.int (n:Nat),.str xn]]).set rm Y).length ≠ rm)).trans gae
  obtain⟨w1,w2⟩:=u1.upd (G:=[.cells false [.int 2,.int xa,.str xn,.sl (sl.take n).reverse tu]]) (s':={s.adv with stack:=s.stack.drop n}) rfl ⟨Bs,t1,t2,t3,el,et,sl.drop n,tb,rfl,b2,b3,b4,hp2⟩
  have hv:RV (.ctor xa xn (s.stack.take n).reverse) (.agg [.int 2,.int xa,.str xn,.sl (sl.take n).reverse tu]):=by rw[RV];exact⟨_,_,rfl,hu,hp1.rev⟩
  have e:s.adv.exec c ⟨4,xa,(n:Nat),xn⟩=({s.adv with stack:=.ctor xa xn (s.stack.take n).reverse::s.stack.drop n},0):=by
   rw[Ms.exec,if_neg (by simp),if_neg (by simp),if_neg (by simp),if_neg (by simp),if_pos rfl];rfl
  obtain⟨r,⟨H3,V3⟩,⟨fa3,s3,rfl,y1,y2⟩,cy⟩:=(od (V:=V) w1 hv (by show (s.stack.drop n).length<=_;rw[b8];omega)).call rfl
  simp only[rcs,Ms.adv]at cy
  simp only[pf62,↓fm,wall,simprocAttr,wH,fw,fj,hga,bl2,hBa,hi1,hxa,h4,hw1,hw2,gse hml2,List.set_set,gx,hxg,fh,ew,hw,hs4,hle1,hle2,Int.le_refl,Option.map_none,hc1,hc2,cw,hx3,hg3,hg5,cy]
  exact .of ⟨by rw[e],by rw[e]⟩ (u2.trans w2) y1 y2
 ·-- choose
  obtain⟨n,v,st,l2,hxn,hs,hl2,hat,hk,hy⟩:=hR.o5 rfl
  have hl2':c.bl[s.now.bk]? = some l2:=hl2
  rw[hl]at hl2';cases hl2'
  simp only at hxn;subst hxn
  have hat':s.now.at'+1+n<=l.length:=hat
  obtain⟨t',hsl⟩:=Ea (l:=l) (t:=tl) (a:=s.now.at'+1) (b:=s.now.at'+1+n) (by omega) hat'
  have hbrs:c.brs s.adv.now n=(l.take (s.now.at'+1+n)).drop (s.now.at'+1):=by
   rw[Cd.brs,Cd.blk,cc,hl2,List.drop_take]
   show List.take n (l.drop (s.now.at'+1))=_
   congr 1;omega
  have hw:IntKind.i64.wrap (((s.now.at'+1:Nat):Int)+(n:Nat))=((s.now.at'+1+n:Nat):Int):=(gw (by unfold jn;omega)).trans (by omega)
  have hi2:(0:Int)<=((s.now.at'+1:Nat):Int)/\((s.now.at'+1:Nat):Int)<=((s.now.at'+1+n:Nat):Int):=by omega
  have hi3:((s.now.at'+1+n:Nat):Int)<=((jf l).length:Nat):=by rw[gj];omega
  have hi4:((s.now.at'+1:Nat):Int)<=((jf l).length:Nat):=by rw[gj];omega
  obtain⟨r,⟨H3,V3⟩,⟨fa3,s3,⟨rfl,rfl⟩,y1,y2⟩,cy⟩:=(K0 (V:=V) (n:=n) t' u1 hs hb' hfr (by show s.now.at'+1+n<=_;omega) hbrs (by rw[b8,b7];omega) (by show s.now.env.length<=_;omega) hk (by rw[<- hbrs];exact hy)).call rfl
  simp only[pf62,↓fm,wall,simprocAttr,wH,fw,fj,hga,bl2,hBa,hi1,hxa,h4,hw1,hw2,gse hml2,List.set_set,gx,hxg,fh,ew,hw,hi2,hi3,hi4,hsl,cy]
  exact .of ⟨rfl,rfl⟩ u2 y1 y2
 ·-- global
  obtain⟨n,b,hxn,hs⟩:=hR.o7 rfl
  simp only at hxn;subst hxn
  have hst':(ints c.st)[n]? = some (.int (b:Nat)):=by rw[ints,bh,hs];rfl
  have hi1':((ints c.st).all λx=>x.cells.length==1)=true:=aw.2 λy hy=>(dy _ _ ▸ (aw.1 (J0 c.st) y hy:(_&&_)=true)).1
  have hlt:((n:Nat):Int)<((ints c.st).length:Nat):=by have:=(List.getElem?_eq_some_iff.1 hst').1;omega
  obtain⟨r,⟨H3,V3⟩,⟨fa3,s3,rfl,y1,y2⟩,cy⟩:=(A4 (V:=V) (e:=[]) (l:=[]) (t:=.nil) b u1 (by rw[RVs]) rfl (by show s.gq.length<=_;omega)).call rfl
  simp only[List.reverse_nil]at cy
  simp only[pf62,↓fm,wall,simprocAttr,wH,fw,fj,hga,bl2,hBa,hi1,hxa,h4,hw1,hw2,gse hml2,List.set_set,gx,hxg,fh,ew,hst',hlt,hi1',cy]
  have e:s.adv.exec c ⟨7,(n:Nat),xb,xn⟩=s.adv.enter b []:=by
   rw[Ms.exec,if_neg (by simp),if_neg (by simp),if_neg (by simp),if_neg (by simp),if_neg (by simp),if_neg (by simp),if_pos rfl,ew,cc,hs,Option.getD_some,ew]
  rw[e,Ms.enter,if_neg (by show ¬ 65536<=s.gq.length;omega)]
  exact .of ⟨rfl,rfl⟩ u2 y1 y2
 ·-- box
  have hv:RV .box (.agg [.int 0,.int 0,.str ⟨#[]⟩,.sl [] .nil]):=by rw[RV]
  obtain⟨r,⟨H3,V3⟩,⟨fa3,s3,rfl,y1,y2⟩,cy⟩:=(od (V:=V) u1 hv hb').call rfl
  simp only[pf62,↓fm,wall,simprocAttr,wH,fw,fj,hga,bl2,hBa,hi1,hxa,h4,hw1,hw2,gse hml2,List.set_set,gx,hxg,fh,ew,cy]
  exact .of ⟨rfl,rfl⟩ u2 y1 y2
 ·-- bind
  obtain⟨v,st,hs⟩:=hR.o9 (.inl rfl)
  obtain⟨a,⟨H3,V3⟩,⟨fa3,s3,⟨hv,rfl⟩,y1,y2⟩,cy⟩:=(tz (V:=V) u1 hs hb').call rfl
  obtain⟨k1,n1,m1,l1,v1,rfl⟩:=hv.four
  have hpl:=Ay _ b3.pure
  obtain⟨_,⟨u3,rfl,hu3⟩,cw⟩:=(B4 (xs:=el.reverse) (ys:=[.agg [.int k1,.int n1,.str m1,.sl l1 v1]]) et (.cap 1) hpl (by rw[gp,hv.pure];exact gz) (na b3.wm.2) he4 rfl (by simp;omega)).call rfl (by simp[gp,gz,kl,b4,hpl,hv.pure];rfl)
  obtain⟨Bs',t1',t2',t3',el',et',sl',ts',c1,c2,c3,c4,c5⟩:=y1.m6
  have hml3:=fu c1
  obtain⟨w1,w2⟩:=y1.upd (G:=[]) (s':={s.adv with stack:=st,now:={s.adv.now with env:=v::s.now.env}}) rfl ⟨Bs',t1',t2',t3',.agg [.int k1,.int n1,.str m1,.sl l1 v1]::el,u3,sl',ts',rfl,c2,by show RVs (v::s.now.env) _;rw[RVs];exact⟨_,_,rfl,hv,b3⟩,hu3,c5⟩
  rw[List.append_nil]at w1 w2
  simp only[rcs,List.reverse_cons,Ms.adv]at c1 w1 w2
  simp only[pf62,↓fm,wall,simprocAttr,wH,fw,fj,hga,bl2,hBa,hi1,hxa,h4,hw1,hw2,gse hml2,List.set_set,gx,hxg,fh,ew,cy,cw,c1]
  exact .of ⟨by rw[Ms.exec,if_neg (by simp),if_neg (by simp),if_neg (by simp),if_neg (by simp),if_neg (by simp),if_neg (by simp),if_neg (by simp),if_neg (by simp),if_pos rfl,Ms.bind,hs];rfl,by rw[Ms.exec,if_neg (by simp),if_neg (by simp),if_neg (by simp),if_neg (by simp),if_neg (by simp),if_neg (by simp),if_neg (by simp),if_neg (by simp),if_pos rfl,Ms.bind,hs]⟩ (u2.trans y2) w1 w2
 ·-- unbind
  obtain⟨v,e,hs⟩:=hR.o10 rfl
  have hs':s.now.env=v::e:=hs
  rw[hs',RVs]at b3
  obtain⟨a,el',rfl,hv,b3'⟩:=b3
  obtain⟨k1,n1,m1,l1,v1,rfl⟩:=hv.four
  have hL:((AV.agg [.int k1,.int n1,.str m1,.sl l1 v1])::el').reverse.length=el'.length+1:=by simp
  have hw:IntKind.i64.wrap (((el'.length+1:Nat):Int)-1)=(el'.length:Nat):=(gw (by have:=b3'.len;rw[hs']at henv;simp only[ak]at henv;unfold jn;omega)).trans (by omega)
  obtain⟨t',hcut,ht'⟩:=Jo (es:=4) (l:=((AV.agg [.int k1,.int n1,.str m1,.sl l1 v1])::el').reverse) (t:=et) (a:=0) (b:=el'.length) b4 (dk _) (by rw[hL];omega)
  have htk:(((AV.agg [.int k1,.int n1,.str m1,.sl l1 v1])::el').reverse.take el'.length).drop 0=el'.reverse:=by
   rw[List.drop_zero,List.reverse_cons,List.take_append_of_le_length (by simp),au (by simp)]
  rw[htk]at hcut
  have hle:((el'.length:Nat):Int)<=((el'.length+1:Nat):Int):=by omega
  obtain⟨w1,w2⟩:=hM.upd (G:=[.cells false [.int 10,.int xa,.int xb,.str xn]]) (s':={s.adv with now:={s.adv.now with env:=e}}) rfl ⟨Bs,t1,t2,t3,el',t',sl,ts,rfl,b2,b3',ht',b5⟩
  simp only[rcs,Ms.adv]at w1 w2
  simp only[pf62,↓fm,wall,simprocAttr,wH,fw,fj,hga,bl2,hBa,hi1,hxa,h4,hw1,hw2,gse hml2,List.set_set,gx,hxg,fh,ew,hL,hw,hcut,hle,he4]
  exact⟨_,_,⟨by rw[Ms.exec,if_neg (by simp),if_neg (by simp),if_neg (by simp),if_neg (by simp),if_neg (by simp),if_neg (by simp),if_neg (by simp),if_neg (by simp),if_neg (by simp),if_pos rfl,hs];rfl,rfl⟩,w1,w2⟩
 ·-- pair
  obtain⟨b,a,st,hs⟩:=hR.o11 rfl
  obtain⟨vb,⟨H1,V1⟩,⟨fa1,s1,⟨hvb,rfl⟩,p1,p2⟩,cp⟩:=(tz (V:=V) u1 hs hb').call rfl
  obtain⟨k1,n1,m1,l1,v1,rfl⟩:=hvb.four
  rw[hs]at hb'
  simp only[ak]at hb'
  obtain⟨q1,q2⟩:=p1.more [.cells false [.int k1,.int n1,.str m1,.sl l1 v1]]
  obtain⟨va,⟨H2,V2⟩,⟨fa2,s2,⟨hva,rfl⟩,r1,r2⟩,cq⟩:=(tz (V:=V1) q1 (v:=a) (st:=st) rfl (by simp only[ak];omega)).call rfl
  obtain⟨k2,n2,m2,l2,v2,rfl⟩:=hva.four
  have hx2:H2[H1.length]? = some (.cells false [.int k1,.int n1,.str m1,.sl l1 v1]):=by
   rw[r2.jb H1.length (by simp) λh=>Nat.lt_irrefl _ (p1.lt h)];exact gae
  have hxg2:=λG:List fq=>(gal (G:=G) (fu hx2)).trans hx2
  obtain⟨z1,z2⟩:=r1.more [.cells false [.int k2,.int n2,.str m2,.sl l2 v2]]
  have hv:RV (.pair a b) (.agg [.int 3,.int 0,.str ⟨#[]⟩,.sl [.agg [.int k2,.int n2,.str m2,.sl l2 v2],.agg [.int k1,.int n1,.str m1,.sl l1 v1]] (.cap 2)]):=by rw[RV];exact⟨_,_,_,rfl,rfl,hva,hvb⟩
  obtain⟨r,⟨H3,V3⟩,⟨fa3,s3,rfl,y1,y2⟩,cy⟩:=(od (V:=V2) z1 hv (by show st.length<=_;omega)).call rfl
  simp only[pf62,↓fm,wall,simprocAttr,wH,fw,fj,hga,bl2,hBa,hi1,hxa,h4,hw1,hw2,gse hml2,List.set_set,gx,hxg,fh,ew,cp,cq,hxg2,cy]
  exact .of ⟨by rw[Ms.exec,if_neg (by simp),if_neg (by simp),if_neg (by simp),if_neg (by simp),if_neg (by simp),if_neg (by simp),if_neg (by simp),if_neg (by simp),if_neg (by simp),if_neg (by simp),if_pos rfl,Ms.pair,hs]<;>rfl,by rw[Ms.exec,if_neg (by simp),if_neg (by simp),if_neg (by simp),if_neg (by simp),if_neg (by simp),if_neg (by simp),if_neg (by simp),if_neg (by simp),if_neg (by simp),if_neg (by simp),if_pos rfl,Ms.pair,hs]<;>rfl⟩ (u2.trans (p2.trans (q2.trans (r2.trans z2)))) y1 y2
 ·-- first
  obtain⟨v,st,hs⟩:=hR.o9 (.inr (.inl rfl))
  obtain⟨r,⟨H3,V3⟩,⟨fa3,s3,⟨rfl,rfl⟩,y1,y2⟩,cy⟩:=(Ft (V:=V) false u1 hs hb').call rfl
  simp only[dz,if_false]at cy
  simp only[pf62,↓fm,wall,simprocAttr,wH,fw,fj,hga,bl2,hBa,hi1,hxa,h4,hw1,hw2,gse hml2,List.set_set,gx,hxg,fh,ew,cy]
  exact .of ⟨rfl,rfl⟩ u2 y1 y2
 ·-- second
  obtain⟨v,st,hs⟩:=hR.o9 (.inr (.inr rfl))
  obtain⟨r,⟨H3,V3⟩,⟨fa3,s3,⟨rfl,rfl⟩,y1,y2⟩,cy⟩:=(Ft (V:=V) true u1 hs hb').call rfl
  simp only[if_true]at cy
  simp only[pf62,↓fm,wall,simprocAttr,wH,fw,fj,hga,bl2,hBa,hi1,hxa,h4,hw1,hw2,gse hml2,List.set_set,gx,hxg,fh,ew,cy]
  exact .of ⟨rfl,rfl⟩ u2 y1 y2
 ·-- abort
  simp only[pf62,↓fm,wall,simprocAttr,wH,fw,fj,hga,bl2,hBa,hi1,hxa,h4,hw1,hw2,gse hml2,List.set_set,gx,hxg,fh,ew]
  exact⟨_,_,⟨rfl,rfl⟩,u1,u2⟩
end
end Go.Proofs.Eng
