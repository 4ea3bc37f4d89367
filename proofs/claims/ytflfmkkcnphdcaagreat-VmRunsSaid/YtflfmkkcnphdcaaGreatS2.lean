/- Checked code is safe to run: a step. No conditions beyond those in the theorems. -/
import Derived.Test.YtflfmkkcnphdcaaGreatN8
set_option linter.all false
set_option linter.deprecated false
set_option linter.unnecessarySimpa false
set_option linter.unusedVariables false
set_option linter.unusedSimpArgs false
set_option linter.defProp false
namespace Go.Proofs.Eng
open Go Go.Proofs
set_option maxRecDepth 100000
set_option maxHeartbeats 16000000
section
variable {F:Fz} {H:List fq} {V:List Nat} {m:Nat} {sa fa:AV} {c:Cd} {s:Ms} {x:Ins}
theorem rq (i:Int):ml (.int i) (.int i)=true:=by simp[ml,eqV]
theorem An (b:ByteArray):ml (.str b) (.str b)=true:=by simp only[ml,eqV];exact(bytes_beq _ _).2 rfl
theorem MR.a3j (hM:MR F H m sa fa c s) (hF:Fro F H) (g:fq) (l l':List AV):∃F',MR F' (H++[g,.cells false l,.cells false l']) m sa fa c s/\Fro F' (H++[g,.cells false l,.cells false l'])/\Nx F H (Own m sa fa) F' (H++[g,.cells false l,.cells false l']) (Own m sa fa)/\F' (H.length+1)=some l/\F' (H.length+2)=some l':=by
 obtain⟨F1,h1,h2,h3,h4⟩:=hM.F7 hF g l
 obtain⟨F2,k1,k2,k3,k4⟩:=h1.Tm h2 l'
 rw[aj]at k1 k2 k3
 exact⟨F2,k1,k2,h3.trans k3,k3.le _ _ h4,by rw[show H.length+2=(H++[g,.cells false l]).length from by simp];exact k4⟩
theorem MR.cut {b L k n:Nat} {Bl:List AV} {tb t2 t3:Tl} {ea:AV} (hM:MR F H m (.bs b 0 L 1 false) fa c s) (hF:Fro F H) (hL:L=s.stack.length) (hk:k+n=L)
  (b1:H[m]? = some (.cells false (mcs Bl tb t2 t3 c (s.now.bk:Nat) (s.now.at':Nat) ea (.bs b 0 L 1 false) fa (s.steps:Nat) s.halted s.err m))) (b2:LIs blX c.bl Bl) (b3:ER F s.now.env ea) :
  MR F (H.set m (.cells false (mcs Bl tb t2 t3 c (s.now.bk:Nat) (s.now.at':Nat) ea (.bs b 0 k 1 false) fa (s.steps:Nat) s.halted s.err m))) m (.bs b 0 k 1 false) fa c {s with stack:=s.stack.drop n} /\
  Fro F (H.set m (.cells false (mcs Bl tb t2 t3 c (s.now.bk:Nat) (s.now.at':Nat) ea (.bs b 0 k 1 false) fa (s.steps:Nat) s.halted s.err m))) /\
  Nx F H (Own m (.bs b 0 L 1 false) fa) F (H.set m (.cells false (mcs Bl tb t2 t3 c (s.now.bk:Nat) (s.now.at':Nat) ea (.bs b 0 k 1 false) fa (s.steps:Nat) s.halted s.err m))) (Own m (.bs b 0 k 1 false) fa):=by
 have hml:=fu b1
 obtain⟨d1,d2⟩:=hM.d1 b rfl
 have hlen:(s.stack.drop n).length=k:=by rw[b8];omega
 refine hM.upd hF ⟨Bl,tb,t2,t3,ea,gse hml,b2,b3⟩ ?_ (hM.fr.jb λk e=>gsn (hM.d2 k e)) (λk hk hn=>gsn λe=>hn (.inl e)) (by simp) (λk hk => ?_) (λk e => ?_) hM.d2
 ·rcases hM.st with⟨h,_⟩|⟨b',cs,h,h1,h2,h3⟩
  ·cases h
  cases h
  refine .inr ⟨b,cs,by show _=AV.bs b 0 (s.stack.drop n).length 1 false;rw[hlen],(gsn d1).trans h1,by show (s.stack.drop n).length<=_;omega, ?_⟩
  show VRs F (s.stack.drop n).reverse (cs.take (s.stack.drop n).length)
  rw[<- ck n s.stack,List.reverse_append]at h3
  obtain⟨h4,_⟩:=VRs.split h3
  rw[List.length_reverse,List.take_take]at h4
  rw[Nat.min_eq_left (by rw[ck];omega)]at h4
  exact h4
 ·rcases hk with hk|hk|hk
  ·exact .inl (.inl hk)
  ·cases hk;exact .inl (.inr (.inl rfl))
  ·exact .inl (.inr (.inr hk))
 ·cases e;exact⟨d1,d2⟩
theorem Gj:∀(n:Nat) (l:List AV),n<=l.length->chunk 1 false n l=l.take n
 | 0,l,_=>by rw[chunk,List.take_zero]
 | n+1,[],h=>by simp at h
 | n+1,a::l,h=>by
  rw[chunk,if_neg (by simp),List.headD_cons,List.drop_succ_cons,List.drop_zero,List.take_succ_cons,Gj n l (by simpa using h)]
theorem VRs.flat {F:Fz}:∀{p:List Vl} {l:List AV},VRs F p l->Go.Proofs.Eng.flat l=l/\(l.all AV.one)=true/\(l.all λx=>x.cells.length==1&&x.cells.all ic)=true
 | [],l,h=>by rw[VRs]at h;subst h;exact⟨rfl,rfl,rfl⟩
 | v::p,l,h=>by
  rw[VRs]at h
  obtain⟨a,l',rfl,h1,h2⟩:=h
  obtain⟨k,rfl⟩:=h1.ptr
  obtain⟨h3,h4,h5⟩:=VRs.flat h2
  refine⟨by rw[kp,h3];rfl,by rw[cz,h4];rfl,by rw[cz,h5];rfl⟩
theorem Hx {n:Nat} (hx:x.b=(n:Nat)) (hn:n<=s.stack.length) (hb:s.stack.length<=1000000):Op 46 x s ({s with stack:=.ctor x.a x.n (s.stack.take n).reverse::s.stack.drop n},0) F H V m sa fa c:=by
 intro hM hF
 obtain⟨Bl,tb,t2,t3,ea,b1,b2,b3⟩:=hM.m6
 have hml:=fu b1
 have hga:=λG:List fq=>(gal (G:=G) hml).trans b1
 have hgx:=λG:List fq=>(show (H ++ .cells false [.int x.op,.int x.a,.int (n:Nat),.str x.n]::G)[H.length]? = some (.cells false [.int x.op,.int x.a,.int (n:Nat),.str x.n])from by rw[af (di _),Nat.sub_self];rfl)
 simp only[mcs]at hga
 refine ju pf46_is (dh rfl) ?_
 rcases hM.st with⟨rfl,hs⟩|⟨b,cs,rfl,h1,h2,h3⟩
 ·have h0:n=0:=by rw[hs]at hn;simpa using hn
  have hw:IntKind.i64.wrap (0-((n:Nat):Int))=0:=by rw[h0];rfl
  have hsl:nh 1 [] .nil 0 0 none=some (.sl [] .nil):=rfl
  have h00:(0:Int)<=0/\(0:Int)<=0:=⟨Int.le_refl _,Int.le_refl _⟩
  obtain⟨F1,n1,n2,n3,n4⟩:=hM.F7 hF (.cells false [.int x.op,.int x.a,.int (n:Nat),.str x.n]) [.int 2,.int x.a,.str x.n,.v (.pointer none),.sl [] (sj (.sl [] .nil))]
  have hv:VR F1 (.ctor x.a x.n []) (.ptr (H.length+1) 0):=by rw[VR];exact⟨_,_,[],rfl,n4,.inl ⟨_,rfl⟩,by rw[VRs]⟩
  obtain⟨w1,w2,w3⟩:=n1.upd n2 (s':=s) ⟨Bl,tb,t2,t3,ea,gse (by simp;omega),b2,ER.mono n3.le _ _ b3⟩ (n1.st.jb λb e=>gsn (n1.d1 b e).1) (n1.fr.jb λb e=>gsn (n1.d2 b e)) (λk _ hn=>gsn λe=>hn (.inl e)) (by simp) (λk h=>.inl h) n1.d1 n1.d2
  obtain⟨r,⟨H3,V3⟩,⟨F3,sa3,fa3,s3,⟨rfl,rfl,rfl⟩,u1,u2,u3⟩,cu⟩:=(nn (V:=V) w1 w2 hv hb).call rfl
  simp only[mcs]at cu
  simp only[pf46,↓fm,wall,simprocAttr,wH,fw,fj,Ins.av,hga,hgx,hx,hw,hsl,h00,Int.toNat_zero,rq,An,cu]
  exact MQ.of ⟨by rw[h0,List.take_zero,List.drop_zero];rfl,rfl⟩ n3 ⟨u1,u2,w3.trans u3⟩
 ·obtain⟨L,hL⟩:∃L,L=s.stack.length:=⟨_,rfl⟩
  obtain⟨k,hk⟩:∃k,k+n=L:=⟨L-n,by omega⟩
  have hbl:=fu h1
  rw[<- hL]at hga b1 h2 h3 hM
  have hw:IntKind.i64.wrap (((L:Nat):Int)-((n:Nat):Int))=(k:Nat):=(gw (by unfold jn;omega)).trans (by omega)
  have hle1:((k:Nat):Int)<=((L:Nat):Int):=by omega
  have hgb:=λG:List fq=>(gal (G:=G) hbl).trans h1
  have hcut2:xd b 0 L 1 1 false 0 k true none=some (.bs b 0 k 1 false):=by simp[xd];omega
  have hvs:VRs F (s.stack.take n).reverse ((cs.drop k).take n):=by
   rw[<- ck n s.stack,List.reverse_append]at h3
   obtain⟨_,h4⟩:=VRs.split h3
   rw[List.length_reverse,b8,List.drop_take,show L-(s.stack.length-n)=n from by omega,show s.stack.length-n=k from by omega]at h4
   exact h4
  by_cases h0:n=0
  ·obtain⟨y,hcut,hel⟩:∃y,xd b 0 L 1 1 false k L false none=some y /\ ∀G:List fq,ku ⟨H++G,V⟩ y=some []:=by
    simp only[xd]
    rw[if_pos ⟨by omega,di _,trivial⟩]
    split
    ·refine⟨_,rfl,λG => ?_⟩
     rw[show L-k=0 from by omega]
     simp only[ku,hgb]
     rw[if_pos ⟨by omega,by simp⟩,chunk]
    ·exact⟨_,rfl,λG=>rfl⟩
   obtain⟨F1,n1,n2,n3,n4⟩:=hM.F7 hF (.cells false [.int x.op,.int x.a,.int (n:Nat),.str x.n]) [.int 2,.int x.a,.str x.n,.v (.pointer none),.sl [] (sj y)]
   have hv:VR F1 (.ctor x.a x.n (s.stack.take n).reverse) (.ptr (H.length+1) 0):=by rw[h0,VR];exact⟨_,_,[],rfl,n4,.inl ⟨_,rfl⟩,by rw[List.take_zero,List.reverse_nil,VRs]⟩
   obtain⟨w1,w2,w3⟩:=n1.cut n2 hL hk ((gal hml).trans b1) b2 (ER.mono n3.le _ _ b3)
   obtain⟨r,⟨H3,V3⟩,⟨F3,sa3,fa3,s3,⟨rfl,rfl,rfl⟩,u1,u2,u3⟩,cu⟩:=(nn (V:=V) w1 w2 hv (by show (s.stack.drop n).length<=_;rw[b8];omega)).call rfl
   simp only[mcs]at cu
   simp only[pf46,↓fm,wall,simprocAttr,wH,fw,fj,Ins.av,hga,hgx,hgb,hx,hw,hle1,Int.le_refl,Option.map_none,hcut,hcut2,ew,rq,An,hel,Im,cu]
   exact MQ.of ⟨rfl,rfl⟩ n3 ⟨u1,u2,w3.trans u3⟩
  ·have hcut:xd b 0 L 1 1 false k L false none=some (.bs b (k*1) n 1 false):=by
    simp only[xd];rw[if_pos ⟨by omega,di _,trivial⟩,if_pos (.inl (by omega))]
    simp;omega
   obtain⟨f1,f2,f3⟩:=hvs.flat
   obtain⟨l,hl⟩:∃l,l=(cs.drop k).take n:=⟨_,rfl⟩
   rw[<- hl]at hvs f1 f2 f3
   have hll:l.length=n:=by rw[hl,b7,b8];omega
   have hel:=λG:List fq=>(show ku ⟨H++G,V⟩ (.bs b (k*1) n 1 false)=some l from by
    simp only[ku,hgb,Nat.mul_one]
    rw[if_pos ⟨by omega,by rw[<- hl,f2];rfl⟩,Gj _ _ (by rw[b8];omega),<- hl])
   have hcl:=λ(s:ASt) (a:AV)=>Yw (s:=s) (es:=1) (ag:=false) (a:=a) (l:=l) (λe=>h0 (by rw[<- hll,e];rfl)) (by rw[hll];omega) f3
   obtain⟨F1,n1,n2,n3,n4,n5⟩:=hM.a3j hF (.cells false [.int x.op,.int x.a,.int (n:Nat),.str x.n]) l [.int 2,.int x.a,.str x.n,.v (.pointer none),.bs (H.length+1) 0 l.length 1 false]
   have hv:VR F1 (.ctor x.a x.n (s.stack.take n).reverse) (.ptr (H.length+2) 0):=by rw[VR];exact⟨_,_,l,rfl,n5,.inr ⟨_,rfl,n4⟩,VRs.mono n3.le _ _ hvs⟩
   obtain⟨w1,w2,w3⟩:=n1.cut n2 hL hk ((gal hml).trans b1) b2 (ER.mono n3.le _ _ b3)
   obtain⟨r,⟨H3,V3⟩,⟨F3,sa3,fa3,s3,⟨rfl,rfl,rfl⟩,u1,u2,u3⟩,cu⟩:=(nn (V:=V) w1 w2 hv (by show (s.stack.drop n).length<=_;rw[b8];omega)).call rfl
   simp only[mcs]at cu
   simp only[pf46,↓fm,wall,simprocAttr,wH,fw,fj,Ins.av,hga,hgx,hgb,hx,hw,hle1,Int.le_refl,Option.map_none,hcut,hcut2,ew,rq,An,hel,hcl,f1,cu]
   exact MQ.of ⟨rfl,rfl⟩ n3 ⟨u1,u2,w3.trans u3⟩
end
end Go.Proofs.Eng
namespace Go.Proofs.Eng
open Go Go.Proofs
set_option maxRecDepth 100000
set_option maxHeartbeats 16000000
section
variable {F:Fz} {H:List fq} {V:List Nat} {m:Nat} {sa fa:AV} {c:Cd} {s:Ms} {x:Ins}
theorem v7 (l:List Ins):((jf l).all λx=>x.cells.length==4)=true:=by
 rw[aw];intro y hy
 obtain⟨b,_,rfl⟩:=List.mem_map.1 hy;rfl
theorem Az {l:List Ins} {i:Nat} {y:Ins} (h:l[i]? = some y):(jf l)[i]? = some y.av:=by rw[jf,bh,h];rfl
theorem Ea {l:List Ins} {t:Tl} {a b:Nat} (h1:a<=b) (h2:b<=l.length):∃t',nh 4 (jf l) t a b none=some (.sl (jf ((l.take b).drop a)) t'):=by
 unfold nh
 rw[if_pos ⟨h1,by rw[gj];exact h2⟩]
 dsimp only
 split
 ·rename_i h
  refine⟨t, ?_⟩
  rw[h.1,h.2,gj,au (di _),List.drop_zero]
 ·exact⟨_,by rw[jf,jf,List.map_drop,List.map_take]⟩
theorem Qn {n:Nat} {v:Vl} {st:List Vl} {l:List Ins} (hx:x.a=(n:Nat)) (hs:s.stack=v::st) (hb:s.stack.length<=1000000) (hfr:s.gq.length<=1000000) (hl:c.bl[s.now.bk]? = some l) (hat:s.now.at'+n<=l.length) (hll:l.length<=1000000000)
  (hk:∀k nm p,v = .ctor k nm p->0<=k/\p.length<=1000000) (hy:∀y ∈ c.brs s.now n,0<=y.a):Op 47 x s (s.choose c n) F H V m sa fa c:=by
 intro hM hF
 obtain⟨n1,n2,n3⟩:=hM.more hF [.cells false [.int x.op,.int (n:Nat),.int x.b,.str x.n]]
 obtain⟨Bl,tb,t2,t3,ea,b1,b2,b3⟩:=n1.m6
 have hml:=fu b1
 obtain⟨_,ab,bl1,_,_,bl2,⟨tl,rfl⟩⟩:=b2.at (i:=s.now.bk) (by rw[b2.len];exact(List.getElem?_eq_some_iff.1 hl).1)
 rw[hl]at bl1;cases bl1
 have hBa:(Bl.all λx=>x.cells.length==1)=true:=aw.2 λy hy=>by
  obtain⟨q,hq⟩:=List.mem_iff_getElem?.1 hy
  obtain⟨b,a,_,_,_,e4,⟨t,rfl⟩⟩:=b2.at (i:=q) (List.getElem?_eq_some_iff.1 hq).1
  rw[hq]at e4;cases e4;rfl
 obtain⟨a,⟨H1,V1⟩,⟨F1,sa1,fa1,s1,⟨hv,rfl,rfl⟩,p1,p2,p3⟩,cp⟩:=(vw (V:=V) n1 n2 hs hb).call rfl
 obtain⟨ka,rfl⟩:=hv.ptr
 have hc:=VR.cells p2 hv
 have hw:IntKind.i64.wrap ((s.now.at':Int)+(n:Nat))=((s.now.at'+n:Nat):Int):=(gw (by unfold jn;omega)).trans (by omega)
 obtain⟨t',hsl⟩:=Ea (l:=l) (t:=tl) (a:=s.now.at') (b:=s.now.at'+n) (by omega) hat
 have hle:(0:Int)<=(s.now.at':Int)/\((s.now.at':Nat):Int)<=((s.now.at'+n:Nat):Int):=by omega
 have hxg:(H++[fq.cells false [.int x.op,.int (n:Nat),.int x.b,.str x.n]])[H.length]? = some (.cells false [.int x.op,.int (n:Nat),.int x.b,.str x.n]):=gae
 have h4:=v7 l
 have hi1:((s.now.at':Nat):Int)<=((jf l).length:Nat):=by rw[gj];omega
 have hi2:((s.now.at'+n:Nat):Int)<=((jf l).length:Nat):=by rw[gj];omega
 have b1o:=b1
 simp only[mcs]at b1
 refine ju pf47_is (dh rfl) ?_
 have hN:=n3.trans p3
 cases v with
 | box=>
  simp only at hc
  simp only[pf47,↓fm,wall,simprocAttr,wH,fw,fj,Ins.av,b1,bl2,hBa,hx,hw,hle,hi1,hi2,h4,hsl,fh,hxg,ew,cp,hc]
  exact MQ.of ⟨by rw[Ms.choose,hs],by rw[Ms.choose,hs]⟩ hN ⟨p1,p2,.refl _ _ _⟩
 | clo k e=>
  obtain⟨ea',hc,_⟩:=hc
  simp only[pf47,↓fm,wall,simprocAttr,wH,fw,fj,Ins.av,b1,bl2,hBa,hx,hw,hle,hi1,hi2,h4,hsl,fh,hxg,ew,cp,hc]
  exact MQ.of ⟨by rw[Ms.choose,hs],by rw[Ms.choose,hs]⟩ hN ⟨p1,p2,.refl _ _ _⟩
 | pair y z=>
  obtain⟨ay,az,t,hc,_⟩:=hc
  simp only[pf47,↓fm,wall,simprocAttr,wH,fw,fj,Ins.av,b1,bl2,hBa,hx,hw,hle,hi1,hi2,h4,hsl,fh,hxg,ew,cp,hc]
  exact MQ.of ⟨by rw[Ms.choose,hs],by rw[Ms.choose,hs]⟩ hN ⟨p1,p2,.refl _ _ _⟩
 | ctor k nm p=>
  obtain⟨pa,lp,hc,hpa,hps⟩:=hc
  obtain⟨hk0,hpl⟩:=hk k nm p rfl
  obtain⟨kk,rfl⟩:∃kk:Nat,k=(kk:Nat):=⟨k.toNat,by omega⟩
  have hpn:=hps.len
  obtain⟨Br,hBr⟩:∃Br,Br=(l.take (s.now.at'+n)).drop s.now.at':=⟨_,rfl⟩
  have hbrs:c.brs s.now n=Br:=by
   rw[Cd.brs,Cd.blk,cc,hl,hBr,List.drop_take]
   simp
  rw[<- hBr]at hsl
  have h4b:=v7 Br
  obtain⟨Bl',tb',t2',t3',ea',c1,c2,c3⟩:=p1.m6
  have hml1:=fu c1
  have c1o:=c1
  simp only[mcs]at c1
  have hout:(kk<Br.length -> ∀y,Br[kk]? = some y->y.b ≠ (lp.length:Nat))->s.choose c n=({s with stack:=st},10):=by
   intro h
   rw[Ms.choose,hs]
   simp only[ew,hbrs]
   cases hq:Br[kk]? with
   | none=>rfl
   | some y=>
    simp only
    rw[if_neg (by rw[<- hpn];exact h (List.getElem?_eq_some_iff.1 hq).1 y hq)]
  rcases dj kk Br.length with hlt|hge
  ·have hdec:decide (((kk:Nat):Int)>=((jf Br).length:Nat))=false:=by rw[gj];simpa using hlt
   have hlt':((kk:Nat):Int)<((jf Br).length:Nat):=by rw[gj];omega
   have hyq:Br[kk]? = some Br[kk]:=aa hlt
   obtain⟨y,hyy⟩:∃y,y=Br[kk]:=⟨_,rfl⟩
   rw[<- hyy]at hyq
   have hyg:=Az hyq
   have hym:y ∈ c.brs s.now n:=by rw[hbrs];exact aq hyq
   obtain⟨ya,hya⟩:∃ya:Nat,y.a=(ya:Nat):=⟨y.a.toNat,by have:=hy y hym;omega⟩
   simp only[Ins.av,hya]at hyg
   cases hne:(y.b != ((lp.length:Nat):Int))
   ·have hyb:y.b=(p.length:Nat):=by rw[<- hpn];simpa using hne
    obtain⟨w1,w2,w3⟩:=p1.upd p2 (s':={s with stack:=st,now:={s.now with at':=s.now.at'+n}}) ⟨Bl',tb',t2',t3',ea',gse hml1,c2,c3⟩ (p1.st.jb λb e=>gsn (p1.d1 b e).1) (p1.fr.jb λb e=>gsn (p1.d2 b e)) (λk _ hn=>gsn λe=>hn (.inl e)) (by simp) (λk h=>.inl h) p1.d1 p1.d2
    obtain⟨r,⟨H3,V3⟩,⟨F3,sa3,fa3,s3,⟨rfl,hr⟩,u1,u2,u3⟩,cu⟩:=(Ew (V:=V1) w1 w2 c3 hpa hps (by rw[hpn];exact hpl)).call rfl
    obtain⟨r2,⟨H4,V4⟩,⟨F4,sa4,fa4,s4,⟨rfl,hr4⟩,y1,y2,y3⟩,cy⟩:=(Bp (V:=V3) ya u1 u2 hr hfr).call rfl
    simp only[mcs]at cu
    have hkm:ka ≠ m:=λe=>by
     rw[VR]at hv
     obtain⟨k',_,_,e1,e2,_⟩:=hv
     cases e1
     rw[e,p1.fz m (.inl rfl)]at e2;cases e2
    have gk:=λ(L:List fq) (y:fq)=>gsn (H:=L) (x:=y) hkm
    have hxg1:H1[H.length]? = some (.cells false [.int x.op,.int (n:Nat),.int x.b,.str x.n]):=by
     rw[p3.jb H.length (by simp) ?_]
     ·exact hxg
     ·intro h
      have:=hM.lt h
      omega
    have hxm:H.length ≠ m:=by have:=hM.lt (.inl rfl);omega
    have gx:=λ(L:List fq) (y:fq)=>gsn (H:=L) (x:=y) hxm
    obtain⟨pa3,l3,hc3,_⟩:=VR.cells u2 (VR.mono u3.le _ _ hv)
    have fin:MQ F1 H m sa fa c (λv _ s'=>s'=(s.choose c n).1/\v = .int (s.choose c n).2) r2 ⟨H4,V4⟩:=by
     refine MQ.of ?_ hN ⟨y1,y2,w3.trans (u3.trans y3)⟩
     rw[Ms.choose,hs]
     simp only[ew,hbrs,hyq]
     rw[if_pos hyb,hya,ew]
     rcases hr4 with⟨h1,rfl,rfl⟩|⟨h1,rfl,rfl⟩
     ·rw[Ms.enter,if_pos h1];exact⟨rfl,rfl⟩
     ·rw[Ms.enter,if_neg (by show ¬ 65536<=s.gq.length;exact Nat.not_le.2 h1)];exact⟨rfl,rfl⟩
    rcases hpa with⟨tp,rfl⟩|⟨bp,rfl,hbp⟩
    ·simp only[pf47,↓fm,wall,simprocAttr,wH,fw,fj,Ins.av,b1,bl2,hBa,hx,hw,hle,hi1,hi2,h4,hsl,fh,hxg,ew,cp,hc,h4b,c1,hdec,hlt',hyg,hne,gse hml1,gk,gx,hxg1,cu,cy,rq]
     exact⟨⟨.int (kk:Nat),by rw[hc3];rfl,rq _⟩,fin⟩
    ·simp only[pf47,↓fm,wall,simprocAttr,wH,fw,fj,Ins.av,b1,bl2,hBa,hx,hw,hle,hi1,hi2,h4,hsl,fh,hxg,ew,cp,hc,h4b,c1,hdec,hlt',hyg,hne,gse hml1,gk,gx,hxg1,cu,cy,rq]
     exact⟨⟨.int (kk:Nat),by rw[hc3];rfl,rq _⟩,fin⟩
   ·have:s.choose c n=({s with stack:=st},10):=hout λ_ y' hy' e=>by
     rw[hyq]at hy';cases hy'
     rw[e]at hne;simp at hne
    rcases hpa with⟨tp,rfl⟩|⟨bp,rfl,hbp⟩
    ·simp only[pf47,↓fm,wall,simprocAttr,wH,fw,fj,Ins.av,b1,bl2,hBa,hx,hw,hle,hi1,hi2,h4,hsl,fh,hxg,ew,cp,hc,h4b,c1,hdec,hlt',hyg,hne]
     exact MQ.of ⟨by rw[this],by rw[this]⟩ hN ⟨p1,p2,.refl _ _ _⟩
    ·simp only[pf47,↓fm,wall,simprocAttr,wH,fw,fj,Ins.av,b1,bl2,hBa,hx,hw,hle,hi1,hi2,h4,hsl,fh,hxg,ew,cp,hc,h4b,c1,hdec,hlt',hyg,hne]
     exact MQ.of ⟨by rw[this],by rw[this]⟩ hN ⟨p1,p2,.refl _ _ _⟩
  ·have hdec:decide (((kk:Nat):Int)>=((jf Br).length:Nat))=true:=by rw[gj];simpa using hge
   have:s.choose c n=({s with stack:=st},10):=hout λh=>absurd h (by omega)
   rcases hpa with⟨tp,rfl⟩|⟨bp,rfl,hbp⟩
   ·simp only[pf47,↓fm,wall,simprocAttr,wH,fw,fj,Ins.av,b1,bl2,hBa,hx,hw,hle,hi1,hi2,h4,hsl,fh,hxg,ew,cp,hc,h4b,c1,hdec]
    exact MQ.of ⟨by rw[this],by rw[this]⟩ hN ⟨p1,p2,.refl _ _ _⟩
   ·simp only[pf47,↓fm,wall,simprocAttr,wH,fw,fj,Ins.av,b1,bl2,hBa,hx,hw,hle,hi1,hi2,h4,hsl,fh,hxg,ew,cp,hc,h4b,c1,hdec]
    exact MQ.of ⟨by rw[this],by rw[this]⟩ hN ⟨p1,p2,.refl _ _ _⟩
end
end Go.Proofs.Eng
namespace Go.Proofs.Eng
open Go Go.Proofs
set_option maxRecDepth 100000
set_option maxHeartbeats 16000000
section
variable {F:Fz} {H:List fq} {V:List Nat} {m:Nat} {sa fa:AV} {c:Cd} {s:Ms} {x:Ins}
theorem Ri {e:List Vl} {a:AV} (h:ER F e a):ml a a=true:=by
 cases e with
 | nil=>rw[ER]at h;subst h;simp[ml,eqV]
 | cons v e=>rw[ER]at h;obtain⟨k,_,_,rfl,_⟩:=h;simp[ml]
theorem Rw.and {f:FuncId} {args:List AV} {s:ASt} {PR QR:AV->ASt->Prop} (h:Rw f args s PR) (k:Rw f args s QR):Rw f args s λv s1=>PR v s1/\QR v s1:=by
 obtain⟨v,s1,h1,h2⟩:=h
 obtain⟨w,s2,k1,k2⟩:=k
 rw[h1]at k1
 cases k1
 exact⟨v,s1,h1,h2,k2⟩
theorem Up {Bl:List AV} {tb t2 t3:Tl} {ea:AV} {v:Vl} {st:List Vl} (hM:MR F H m sa fa c s) (hs:s.stack=v::st) (hb:s.stack.length<=1000000)
  (b1:H[m]? = some (.cells false (mcs Bl tb t2 t3 c (s.now.bk:Nat) (s.now.at':Nat) ea sa fa (s.steps:Nat) s.halted s.err m))) :
  Rw 91 [.ptr m 0] ⟨H,V⟩ λ_ s1=>∃sb,s1.H[m]? = some (.cells false (mcs Bl tb t2 t3 c (s.now.bk:Nat) (s.now.at':Nat) ea sb fa (s.steps:Nat) s.halted s.err m)):=by
 have hml:=fu b1
 simp only[mcs]at b1 ⊢
 refine ju pf91_is (dh rfl) ?_
 rcases hM.st with⟨rfl,hn⟩|⟨b,cs,rfl,h1,h2,h3⟩
 ·rw[hs]at hn;cases hn
 have hl:s.stack.length=st.length+1:=by rw[hs];rfl
 rw[hl]at b1 h2 h3 hb
 rw[hs,List.reverse_cons]at h3
 obtain⟨k1,k2⟩:=VRs.split h3
 rw[List.length_reverse]at k1 k2
 rw[VRs]at k2
 obtain⟨a,l',e,k2,k3⟩:=k2
 rw[VRs]at k3;subst k3
 obtain⟨ka,rfl⟩:=k2.ptr
 have hget:cs[st.length]? = some (.ptr ka 0):=by
  have:=congrArg (λl=>l[0]?) e
  simp only[ba,bc,Nat.add_zero,bw]at this
  rw[if_pos (by omega)]at this;exact this
 have hw:IntKind.i64.wrap (((st.length+1:Nat):Int)-1)=(st.length:Nat):=(gw (by unfold jn;omega)).trans (by omega)
 have hlt1:((st.length:Nat):Int)<(st.length+1:Nat):=by omega
 have hle1:((st.length:Nat):Int)<=(st.length+1:Nat):=by omega
 have hhd:(cs.drop (st.length*1)).head? = some (.ptr ka 0):=by rw[Nat.mul_one,List.head?_drop];exact hget
 have hcut:xd b 0 (st.length+1) 1 1 false 0 st.length true none=some (.bs b 0 st.length 1 false):=by simp[xd]
 simp only[pf91,↓fm,wall,simprocAttr,wH,fw,fj,b1,hl,h1,hhd,hw,hlt1,hle1,Option.map_none,hcut]
 exact⟨_,gse hml⟩
theorem a01 {v:Vl} {st:List Vl} (hs:s.stack=v::st) (hb:s.stack.length<=1000000):Op 51 x s s.bind F H V m sa fa c:=by
 intro hM hF
 obtain⟨n1,n2,n3⟩:=hM.more hF [.cells false [.int x.op,.int x.a,.int x.b,.str x.n]]
 obtain⟨Bl,tb,t2,t3,ea,b1,b2,b3⟩:=n1.m6
 have hml:=fu b1
 obtain⟨a,⟨H1,V1⟩,⟨⟨F1,sa1,fa1,s1,⟨hv,rfl,rfl⟩,p1,p2,p3⟩,sb,c1⟩,cp⟩:=((vw (V:=V) n1 n2 hs hb).and (Up n1 hs hb b1)).call rfl
 obtain⟨ka,rfl⟩:=hv.ptr
 obtain⟨r,⟨H2,V2⟩,⟨F2,sa2,fa2,s2,⟨rfl,hr⟩,q1,q2,q3⟩,cq⟩:=(Ew (V:=V1) (x:=.sl [.ptr ka 0] (.cap 1)) p1 p2 b3 (.inl ⟨_,rfl⟩) (VRs.one hv) (by simp)).call rfl
 obtain⟨Bl2,tb2,t22,t32,ea2,d1,d2,d3⟩:=q1.m6
 have hml2:=fu d1
 obtain⟨k1,k2,k3⟩:=q1.upd q2 (s':={s with stack:=st,now:={s.now with env:=v::s.now.env}}) ⟨Bl2,tb2,t22,t32,r,gse hml2,d2,hr⟩ (q1.st.jb λb e=>gsn (q1.d1 b e).1) (q1.fr.jb λb e=>gsn (q1.d2 b e)) (λk _ hn=>gsn λe=>hn (.inl e)) (by simp) (λk h=>.inl h) q1.d1 q1.d2
 simp only[mcs]at b1 c1 d1
 refine ju pf51_is (dh rfl) ?_
 simp only[pf51,↓fm,wall,simprocAttr,wH,fw,fj,Ins.av,b1,c1,d1,cp,cq,a5u,mr b3,pn b3,m7 b3,mr hr,pn hr,m7 hr,Ri b3,rq]
 exact MQ.of ⟨by rw[Ms.bind,hs],by rw[Ms.bind,hs]⟩ (n3.trans (p3.trans q3)) ⟨k1,k2,k3⟩
end
end Go.Proofs.Eng
namespace Go.Proofs.Eng
open Go Go.Proofs
set_option maxRecDepth 100000
def LeS (S T:List Int):Prop:=S.length=T.length /\ ∀k:Nat,0<=S.getD k 0->T.getD k 0=S.getD k 0
theorem LeS.refl (S:List Int):LeS S S:=⟨rfl,λ_ _=>rfl⟩
theorem LeS.trans {S T U:List Int} (h:LeS S T) (k:LeS T U):LeS S U:=⟨h.1.trans k.1,λi hi=>by
 have:=h.2 i hi
 rw[k.2 i (by rw[this];exact hi),this]⟩
theorem Ak {n:Nat} {S S':List Int} {b size:Int} (h:s7 n S b size = .ok S'):LeS S S'/\S'=S.set b.toNat size/\(n:Int)<b:=by
 unfold s7 at h
 split at h
 ·cases h
 ·rename_i h1
  split at h
  ·cases h
  ·rename_i h2
   cases h
   refine⟨⟨by simp,λk hk => ?_⟩,rfl,by omega⟩
   rw[cc,cc,b9]
   split
   ·rename_i e
    subst e
    exact absurd hk h1
   ·rfl
theorem Yl {n:Nat} {x:Ins} {t:Sk} {S:List Int} (h:pd n x t = .ok S):LeS t.S S:=by
 unfold pd at h
 split at h
 ·exact(Ak h).1
 ·split at h
  ·exact(Ak h).1
  ·split at h
   ·cases h
   ·cases h;exact .refl _
theorem Al {x:Ins} {rest:List Ins} {S:List Int} {t t':Sk} (h:mb x rest S t = .ok t'):lk x<=t.stack/\(x.op=10->t.binds ≠ 0)/\((x.op==3)=rest.isEmpty)/\(x.op=3->t.stack-lk x+jq x=1/\jr x t.binds=0)/\t'=⟨S,jr x t.env,t.stack-lk x+jq x,jr x t.binds,brI x t.br⟩:=by
 unfold mb at h
 split at h
 ·cases h
 ·rename_i h1
  split at h
  ·cases h
  ·rename_i h2
   split at h
   ·cases h
   ·rename_i h3
    cases h
    refine⟨by omega,λe1 e2=>h1 (.inr ⟨e1,e2⟩),by simpa using h2,λe => ?_,rfl⟩
    exact⟨Decidable.byContradiction λe'=>h3 ⟨e,.inl e'⟩,Decidable.byContradiction λe'=>h3 ⟨e,.inr e'⟩⟩
theorem Af {nb ng n:Nat} {x:Ins} {rest:List Ins} {t t':Sk} (h:stp nb ng n x rest t = .ok t'):lq nb ng x rest t.br=0 /\ ∃S,pd n x t = .ok S/\mb x rest S t = .ok t':=by
 unfold stp at h
 split at h
 ·cases h
 ·rename_i h1
  split at h
  ·cases h
  ·rename_i S hS
   exact⟨by omega,S,hS,h⟩
theorem Yg {nb ng n:Nat} {x:Ins} {rest:List Ins} {t:Sk} {e:Int} (h:stp nb ng n x rest t = .error e):e ≠ 0:=by
 unfold stp at h
 split at h
 ·rename_i h1;cases h;exact h1
 ·split at h
  ·rename_i e' hr
   cases h
   unfold pd s7 at hr
   repeat' split at hr
   all_goals first|(cases hr;omega)|(cases hr;done)
  ·unfold mb at h
   repeat' split at h
   all_goals first|(cases h;omega)|(cases h;done)
theorem K2 {nb ng n:Nat} {suf:List Ins}:∀{l:List Ins} {t:Sk} {e:Int},s9 nb ng n suf l t = .error e->e ≠ 0
 | [],t,e,h=>by cases h
 | x::l,t,e,h=>by
  rw[s9]at h
  split at h
  ·rename_i e' he;cases h;exact Yg he
  ·exact K2 h
theorem Hq {nb ng n:Nat} {suf:List Ins}:∀{l:List Ins} {t t':Sk},s9 nb ng n suf l t = .ok t'->LeS t.S t'.S
 | [],t,t',h=>by cases h;exact .refl _
 | x::l,t,t',h=>by
  rw[s9]at h
  split at h
  ·cases h
  ·rename_i t1 h1
   obtain⟨_,S,h2,h3⟩:=Af h1
   have:=(Al h3).2.2.2.2
   refine LeS.trans ?_ (Hq h)
   rw[this];exact Yl h2
def a1c (c:Cd) (Z:List Int) (n:Nat) (l:List Ins):Prop:=l ≠ []/\0<=Z.getD n 0 /\ ∃S t',s9 c.bl.length c.gl.length n [] l ⟨S,Z.getD n 0,0,0,0⟩ = .ok t'/\LeS t'.S Z
theorem Q2 (s:List Int):∀S:List Int,(s.foldl (λS x=>S.set x.toNat 0) S).length=S.length:=by
 induction s with
 | nil=>intro S;rfl
 | cons x s ih=>intro S;rw[dc,ih,List.length_set]
theorem foldl_zero (s:List Int):∀(S:List Int) (k:Nat),k<S.length->(S.getD k 0=0\/(k:Int) ∈ s)->(s.foldl (λS x=>S.set x.toNat 0) S).getD k 0=0:=by
 induction s with
 | nil=>intro S k hk h;rcases h with h|h;exact h;cases h
 | cons x s ih=>
  intro S k hk h
  rw[dc]
  refine ih _ _ (by rw[List.length_set];exact hk) ?_
  rw[cc,b9]
  by_cases hx:x.toNat=k
  ·rw[if_pos hx,if_pos (by omega)];exact .inl rfl
  ·rw[if_neg hx]
   rcases h with h|h
   ·exact .inl (by rw[<- cc];exact h)
   ·rcases List.mem_cons.1 h with h|h
    ·exact absurd (by omega) hx
    ·exact .inr h
def Cd.bd (c:Cd) (k:Nat):Int:=(((c.bl.take k).map λl=>l.length+64).sum:Nat)
theorem yi (c:Cd) {a b:Nat} (h:a<=b):c.bd a<=c.bd b:=by
 have:c.bl.take b=c.bl.take a++(c.bl.take b).drop a:=by
  have h1:=ck a (c.bl.take b)
  rw[List.take_take,Nat.min_eq_left h]at h1;exact h1.symm
 unfold Cd.bd
 rw[this,List.map_append,List.sum_append];omega
theorem Hj {c:Cd} {n:Nat} {l:List Ins} (h:c.bl[n]? = some l):c.bd (n+1)=c.bd n+l.length+64:=by
 unfold Cd.bd
 rw[bj,h,List.map_append,List.sum_append]
 simp;omega
def BdS (c:Cd) (S:List Int):Prop:=∀k:Nat,0<=S.getD k 0->S.getD k 0<=c.bd k
theorem N4 {c:Cd} {n:Nat} {S S':List Int} {b size:Int} (h:s7 n S b size = .ok S') (hB:BdS c S) (hs:size<=c.bd (n+1)):BdS c S':=by
 obtain⟨_,rfl,h2⟩:=Ak h
 intro k hk
 rw[cc,b9]at hk ⊢
 split
 ·rename_i e
  split
  ·exact Int.le_trans hs (yi c (by omega))
  ·exact fc _
 ·rename_i e
  rw[if_neg e,<- cc]at hk
  rw[<- cc]
  exact hB k hk
theorem a2e {c:Cd} {nb ng n:Nat} {x:Ins} {rest:List Ins} {t t':Sk} (h:stp nb ng n x rest t = .ok t') (hB:BdS c t.S) (hs:t.env+64<=c.bd (n+1)):BdS c t'.S/\t'.env<=t.env+1:=by
 obtain⟨hf,S,h2,h3⟩:=Af h
 have he:=(Al h3).2.2.2.2
 subst he
 refine⟨?_, ?_⟩
 ·show BdS c S
  unfold pd at h2
  split at h2
  ·exact N4 h2 hB (by omega)
  ·split at h2
   ·rename_i h6
    refine N4 h2 hB ?_
    unfold lq at hf
    split at hf
    ·omega
    ·split at hf
     ·omega
     ·split at hf
      ·omega
      ·rename_i hm
       have:¬ 64<x.b:=λh=>hm (by simp[ld,h6,h])
       omega
   ·split at h2
    ·cases h2
    ·cases h2;exact hB
 ·show jr x t.env<=t.env+1
  unfold jr
  repeat' split
  all_goals omega
theorem Nh {c:Cd} {nb ng n:Nat} {suf:List Ins}:∀{l:List Ins} {t t':Sk},s9 nb ng n suf l t = .ok t'->BdS c t.S->t.env+l.length+64<=c.bd (n+1)->BdS c t'.S
 | [],t,t',h,hB,_=>by cases h;exact hB
 | x::l,t,t',h,hB,hs=>by
  rw[s9]at h
  simp only[ak]at hs
  split at h
  ·cases h
  ·rename_i t1 h1
   obtain⟨k1,k2⟩:=a2e h1 hB (by omega)
   exact Nh h k1 (by omega)
theorem Si {c:Cd} {Z:List Int}:∀{r:List (List Ins)} {n:Nat} {S:List Int},goB c.bl.length c.gl.length n r S=0->r=c.bl.drop n->BdS c S->(∃Z,LeS S Z/\BdS c Z /\ ∀(i:Nat) (l:List Ins),r[i]? = some l->a1c c Z (n+i) l)
 | [],n,S,h,_,hB=>⟨S,.refl _,hB,λi l hi=>by simp at hi⟩
 | l::r,n,S,h,hr,hB=>by
  have hl:c.bl[n]? = some l:=by
   have:=congrArg (λx:List (List Ins)=>x[0]?) hr
   simpa using this.symm
  have hr':r=c.bl.drop (n+1):=by
   have:=congrArg List.tail hr
   simpa using this
  rw[goB]at h
  split at h
  ·omega
  ·rename_i h1
   split at h
   ·omega
   ·rename_i h2
    split at h
    ·rename_i e he;exact absurd h (K2 he)
    ·rename_i t ht
     have hb:=hB n (by omega)
     have hbs:=Hj hl
     obtain⟨Z,z1,zb,z2⟩:=Si (Z:=Z) h hr' (Nh ht hB (by show S.getD n 0+_+64<=_;omega))
     have hle:LeS S t.S:=Hq ht
     have hg:Z.getD n 0=S.getD n 0:=(hle.trans z1).2 n (by omega)
     refine⟨Z,hle.trans z1,zb,λi l' hi => ?_⟩
     cases i with
     | zero=>
      simp at hi;subst hi
      exact⟨h2,by rw[Nat.add_zero,hg];omega,S,t,by rw[Nat.add_zero,hg];exact ht,z1⟩
     | succ i=>
      have:=z2 i l' (by simpa using hi)
      rwa [show n+1+i=n+(i+1)from by omega]at this
structure Ei (c:Cd) (Z:List Int):Prop where
 len:Z.length=c.bl.length
 blk:∀(i:Nat) (l:List Ins),c.bl[i]? = some l->a1c c Z i l
 pos:0<c.bl.length
 zero:Z.getD 0 0=0
 st:∀(i:Nat),i<c.gl.length -> ∃b:Nat,c.st[i]? = some (b:Int)/\b<c.bl.length/\Z.getD b 0=0
 bd:BdS c Z
theorem a0f (s:List Int):∀S:List Int,(∀k:Nat,S.getD k 0<=0) -> ∀k:Nat,(s.foldl (λS x=>S.set x.toNat 0) S).getD k 0<=0:=by
 induction s with
 | nil=>intro S h;exact h
 | cons x s ih=>
  intro S h
  rw[dc]
  refine ih _ λk => ?_
  rw[cc,b9]
  split
  ·split<;>simp
  ·rw[<- cc];exact h k
theorem Sw {c:Cd} (h:c.check=0):∃Z,Ei c Z:=by
 unfold Cd.check at h
 split at h
 ·rename_i h1;exact absurd h h1
 rename_i h1
 have h1:c.ua=0:=by omega
 have hB0:BdS c c.S0:=by
  intro k hk
  have:c.S0.getD k 0<=0:=a0f _ _ (λk=>by
   rw[cc,b9]
   split
   ·split<;>simp
   ·rw[List.getElem?_replicate];split<;>simp) k
  have:=fc ((((c.bl.take k).map λl=>l.length+64).sum:Nat))
  unfold Cd.bd;omega
 obtain⟨Z,z1,zb,z2⟩:=Si (Z:=[]) h (by simp) hB0
 unfold Cd.ua at h1
 split at h1
 ·omega
 rename_i h2
 simp only[not_or]at h2
 obtain⟨k1,k2,k3,_⟩:=h2
 have hlen:c.S0.length=c.bl.length:=by rw[Cd.S0,Q2];simp
 have hpos:0<c.bl.length:=List.length_pos_iff.2 k1
 refine⟨Z,z1.1.symm.trans hlen,λi l hi=>by have:=z2 i l hi;rwa [dp]at this,hpos, ?_,λi hi => ?_,zb⟩
 ·have:c.S0.getD 0 0=0:=foldl_zero _ _ 0 (by simpa using hpos) (.inl (by rw[cc,b9];simp[hpos]))
  rw[z1.2 0 (by omega),this]
 ·have hi':i<c.st.length:=by omega
  have hm:c.st[i] ∈ c.st:=List.getElem_mem hi'
  have hb:¬(c.st[i]<1\/(c.bl.length:Int)<=c.st[i]):=λh=>k3 (List.any_eq_true.2 ⟨_,hm,by simpa using h⟩)
  simp only[not_or]at hb
  refine⟨c.st[i].toNat,by rw[aa hi'];congr 1;omega,by omega, ?_⟩
  have:c.S0.getD c.st[i].toNat 0=0:=foldl_zero _ _ _ (by simp;omega) (.inr (by rw[show ((c.st[i].toNat:Nat):Int)=c.st[i]from by omega];exact hm))
  rw[z1.2 _ (by omega),this]
end Go.Proofs.Eng
namespace Go.Proofs.Eng
open Go Go.Proofs
set_option maxRecDepth 100000
def I8 (c:Cd) (Z:List Int) (n at':Nat) (t:Sk):Prop:=∃l,c.bl[n]? = some l/\at'<l.length /\ ∃t',s9 c.bl.length c.gl.length n [] (l.drop at') t = .ok t'/\LeS t'.S Z
mutual
def VOK (c:Cd) (Z:List Int):Vl->Prop
 | .box=>True
 | .clo n e=>0<=n/\n.toNat<c.bl.length/\Z.getD n.toNat 0=(e.length:Nat)+1/\kj c Z e
 | .ctor n _ p=>0<=n/\p.length<=1000000/\kj c Z p
 | .pair a b=>VOK c Z a/\VOK c Z b
def kj (c:Cd) (Z:List Int):List Vl->Prop
 | []=>True
 | v::l=>VOK c Z v/\kj c Z l
end
section
variable {c:Cd} {Z:List Int}
theorem lg:∀{l:List Vl},kj c Z l ↔ ∀v ∈ l,VOK c Z v
 | []=>by rw[kj];simp
 | v::l=>by rw[kj,lg];simp
def Hk (c:Cd) (Z:List Int) (f:Fr) (k:Nat):Prop:=∃t,I8 c Z f.bk f.at' t/\t.br=0/\t.env=(f.env.length:Nat)/\t.stack=(k:Nat)/\0<=t.binds/\t.binds<=t.env/\t.env<=Z.getD f.bk 0+(f.at':Nat)/\kj c Z f.env
def Tq (c:Cd) (Z:List Int):List Fr->Nat->Prop
 | [],r=>r=0
 | f::fs,r=>∃k r',Hk c Z f (k+1)/\r=k+r'/\Tq c Z fs r'
structure Good (c:Cd) (Z:List Int) (s:Ms):Prop where
 h:s.halted=false
 e:s.err=0
 fr:∃k r,Hk c Z s.now k/\s.stack.length=k+r/\Tq c Z s.gq r
 st:kj c Z s.stack
 cap:s.gq.length<=65536
theorem I8.step {n at':Nat} {t:Sk} (h:I8 c Z n at' t):∃l x t1,c.bl[n]? = some l/\l[at']? = some x/\x ∈ l/\stp c.bl.length c.gl.length n x (l.drop (at'+1)) t = .ok t1/\LeS t1.S Z/\(x.op ≠ 3->I8 c Z n (at'+1) t1):=by
 obtain⟨l,h1,h2,t',h3,h4⟩:=h
 have hx:l[at']? = some l[at']:=aa h2
 rw[bz h2,s9]at h3
 split at h3
 ·cases h3
 ·rename_i t1 ht
  rw[List.append_nil]at ht
  refine⟨l,l[at'],t1,h1,hx,List.getElem_mem h2,ht,(Hq h3).trans h4,λh6 => ?_⟩
  obtain⟨_,S,_,h8⟩:=Af ht
  have h9:=(Al h8).2.2.1
  refine⟨l,h1, ?_,t',h3,h4⟩
  rcases dj (at'+1) l.length with h|h
  ·exact h
  ·rw[List.drop_of_length_le h]at h9
   simp only[List.isEmpty_nil,beq_iff_eq]at h9
   exact absurd h9 h6
theorem I8.skip (hZ:Z.length=c.bl.length) {n:Nat}:∀(m:Nat) {at':Nat} {t:Sk},I8 c Z n at' t->t.br=(m:Nat)->0<=t.env -> ∃l t1,c.bl[n]? = some l/\at'+m<l.length/\I8 c Z n (at'+m) t1/\t1.br=0/\t1.env=t.env/\t1.stack=t.stack/\t1.binds=t.binds /\
  ∀(j:Nat),j<m -> ∃y:Ins,l[at'+j]? = some y/\y.op=6/\0<=y.a/\y.a.toNat<c.bl.length/\0<=y.b/\y.b<=64/\Z.getD y.a.toNat 0=t.env+y.b
 | 0,at',t,h,hb,_=>by
  obtain⟨l,h1,h2,_⟩:=id h
  exact⟨l,t,h1,h2,h,hb,rfl,rfl,rfl,λj hj=>by omega⟩
 | m+1,at',t,h,hb,hv=>by
  obtain⟨l,x,t1,h1,h2,_,h3,h4,h5⟩:=h.step
  obtain⟨hf,S,hr,he⟩:=Af h3
  obtain⟨e1,e2,e3,e4,e5⟩:=Al he
  have hop:x.op=6/\0<=x.a/\0<=x.b/\x.b<=64/\x.a<c.bl.length:=by
   unfold lq at hf
   split at hf
   ·omega
   ·rename_i hi
    split at hf
    ·omega
    ·split at hf
     ·omega
     ·rename_i hm
      simp only[qu,Bool.not_eq_false,dy,decide_eq_true_eq,beq_iff_eq]at hi
      have h6:x.op=6:=by
       have:=hi.1.2
       have hd:decide (0<t.br)=true:=by simp;omega
       rw[hd]at this;simpa using this
      have h64:¬ 64<x.b:=λh=>hm (by simp[ld,h6,h])
      have hnb:¬(c.bl.length:Int)<=x.a:=λh=>hm (by simp[ld,h6,h])
      exact⟨h6,hi.1.1.1.1.1.1.2,hi.1.1.1.1.1.2,by omega,by omega⟩
  obtain⟨h6,ha,hb0,hb1,hnb⟩:=hop
  have hx3:x.op ≠ 3:=by omega
  subst e5
  have q1:lk x=0:=by simp[lk,h6]
  have q2:jq x=0:=by simp[jq,h6]
  have q3:∀v,jr x v=v:=λv=>by simp[jr,h6]
  have q4:brI x t.br=(m:Nat):=by simp only[brI,h6];rw[if_neg (by omega)];omega
  obtain⟨l',t2,k1,k2,k3,k4,k5,k6,k7,k8⟩:=I8.skip hZ m (h5 hx3) (by simpa using q4) (by show 0<=jr x t.env;rw[q3];exact hv)
  rw[h1]at k1;cases k1
  refine⟨l,t2,h1,by omega,by rw[show at'+(m+1)=at'+1+m from by omega];exact k3,k4,by rw[k5];exact q3 _,by rw[k6];show t.stack-lk x+jq x=_;omega,by rw[k7];exact q3 _,λj hj => ?_⟩
  cases j with
  | zero=>
   refine⟨x,h2,h6,ha,by omega,hb0,hb1, ?_⟩
   unfold pd at hr
   rw[if_neg (by omega),if_pos h6]at hr
   obtain⟨g1,g2,g3⟩:=Ak hr
   have hlen:x.a.toNat<S.length:=by have:S.length=Z.length:=h4.1;omega
   have hS:S.getD x.a.toNat 0=t.env+x.b:=by
    rw[g2,cc,b9,if_pos rfl,if_pos (by rw[g2,List.length_set]at hlen;exact hlen)];rfl
   rw[h4.2 _ (by show 0<=S.getD _ 0;rw[hS];omega)]
   exact hS
  | succ j=>
   obtain⟨y,y1,y2⟩:=k8 j (by omega)
   refine⟨y,by rw[show at'+(j+1)=at'+1+j from by omega];exact y1, ?_⟩
   have:jr x t.env=t.env:=q3 _
   simp only[this]at y2
   exact y2
structure Rdy (c:Cd) (x:Ins) (s:Ms):Prop where
 op:0<=x.op/\x.op<=14/\x.op ≠ 6
 o0:x.op=0 -> ∃(n:Nat) (v:Vl),x.a=(n:Nat)/\s.now.env[n]? = some v
 o2:x.op=2 -> ∃a f st,s.stack=a::f::st /\ ∀n e,f = .clo n e->0<=n
 o4:x.op=4 -> ∃n:Nat,x.b=(n:Nat)/\n<=s.stack.length
 o5:x.op=5 -> ∃(n:Nat) (v:Vl) (st:List Vl) (l:List Ins),x.a=(n:Nat)/\s.stack=v::st/\c.bl[s.now.bk]? = some l/\s.now.at'+n<=l.length/\(∀k nm p,v = .ctor k nm p->0<=k/\p.length<=1000000) /\ ∀y ∈ c.brs s.now n,0<=y.a
 o7:x.op=7 -> ∃n b:Nat,x.a=(n:Nat)/\c.st[n]? = some (b:Int)
 o9:x.op=9\/x.op=12\/x.op=13 -> ∃v st,s.stack=v::st
 o10:x.op=10 -> ∃v e,s.now.env=v::e
 o11:x.op=11 -> ∃b a st,s.stack=b::a::st
def Ms.adv (s:Ms):Ms:={s with now:={s.now with at':=s.now.at'+1},steps:=s.steps+1}
def Safe (c:Cd) (Z:List Int) (s:Ms):Prop:=(s.err ≠ 0/\s.halted=false)\/(s.err=0/\s.halted=true/\s.stack ≠ []/\kj c Z s.stack)\/Good c Z s
end
end Go.Proofs.Eng
