/- The state of Compile. No conditions beyond those in the theorems. -/
import Derived.Test.YtflfmkkcnphdcaaGreatM5
set_option linter.all false
set_option linter.deprecated false
set_option linter.unnecessarySimpa false
set_option linter.unusedVariables false
set_option linter.unusedSimpArgs false
set_option linter.defProp false
namespace Go.Proofs.Eng
open Go Go.Proofs
set_option maxRecDepth 100000
def Rw (f:FuncId) (args:List AV) (s:ASt) (PR:AV->ASt->Prop):Prop:=∃v s1,run md pfs f args s=some (.ret v,s1)/\PR v s1
def AQ (res:List PR) (PR:AV->ASt->Prop):gg->St->Prop
 | .pan _,_=>False
 | .exit _,_=>False
 | _,st=>st.df=[] /\ ∃l,ma st.tm st.s res=some l/\PR (oq l) st.s
theorem fw {res:List PR} {PR:AV->ASt->Prop} {st:St}:AQ res PR .ret st=(st.df=[] /\ ∃l,ma st.tm st.s res=some l/\PR (oq l) st.s):=rfl
theorem fj {res:List PR} {PR:AV->ASt->Prop} {st:St}:AQ res PR .normal st=(st.df=[] /\ ∃l,ma st.tm st.s res=some l/\PR (oq l) st.s):=rfl
theorem ju {f:FuncId} {pf:PF} (hp:pfs f=some pf) {args:List AV} {s:ASt} {PR:AV->ASt->Prop} (hn:args.length<=pf.nt) (h:W (run md pfs) md pf.body ⟨tmE pf.nt (v8 args),[],s⟩ (AQ pf.res PR) ()):Rw f args s PR:=by
 unfold Rw
 rw[run_eq hp (Nr h)]
 unfold Dj
 rw[Dd args pf.nt hn]
 unfold W at h
 cases hx:iy (run md pfs) md (sd (run md pfs) md) pf.body ⟨tmE pf.nt (v8 args),[],s⟩with
 | none=>rw[hx]at h;exact h.elim
 | some x=>
  obtain⟨r,st⟩:=x
  obtain⟨tm,df,s⟩:=st
  rw[hx]at h
  cases r with
  | exit i=>exact h.elim
  | pan v=>exact h.elim
  | normal=>
   obtain⟨h1,l,h2,h3⟩:=h
   simp only at h1;subst h1
   refine⟨oq l,s, ?_,h3⟩
   simp only at h2
   simp only[List.isEmpty_nil,ed,er,dz,if_false,jw,h2];rfl
  | ret=>
   obtain⟨h1,l,h2,h3⟩:=h
   simp only at h1;subst h1
   refine⟨oq l,s, ?_,h3⟩
   simp only at h2
   simp only[List.isEmpty_nil,ed,er,dz,if_false,jw,h2];rfl
theorem Rw.call {f:FuncId} {args:List AV} {s:ASt} {PR:AV->ASt->Prop} (h:Rw f args s PR) (hm:md f = .raw):∃v s',PR v s' /\ ∀K KP,CW (run md pfs) md false s f args K KP ()=K v s':=by
 obtain⟨v,s1,h1,h2⟩:=h
 exact⟨v,s1,h2,λK KP=>by simp[CW,me,my,mg,hm,h1]⟩
theorem Rw.mono {f:FuncId} {args:List AV} {s:ASt} {PR PR':AV->ASt->Prop} (h:Rw f args s PR) (h1:∀v s,PR v s->PR' v s):Rw f args s PR':=by
 obtain⟨v,s1,e1,e2⟩:=h
 exact⟨v,s1,e1,h1 _ _ e2⟩
def Oth (T:List Nat) (t:Tl) (T':List Nat) (t':Tl):Prop:=
 T.length<=T'.length/\(∀i v,T[i]? = some v->(∀ver,t ≠ .tl i ver)->T'[i]? = some v) /\ ∀i ver',t' = .tl i ver'->(∃ver,t = .tl i ver)\/T.length<=i
theorem Oth.refl (T:List Nat) (t:Tl):Oth T t T t:=⟨di _,λ_ _ h _=>h,λi v h=>.inl ⟨v,h⟩⟩
theorem Oth.trans {T T' T'':List Nat} {t t' t'':Tl} (h:Oth T t T' t') (k:Oth T' t' T'' t''):Oth T t T'' t'':=by
 refine⟨dt h.1 k.1,λi v e n=>k.2.1 i v (h.2.1 i v e n) λver e' => ?_,λi ver e => ?_⟩
 ·have hlt:=(List.getElem?_eq_some_iff.1 e).1
  rcases h.2.2 i ver e' with⟨v0,e0⟩|hle
  ·exact n v0 e0
  ·omega
 ·rcases k.2.2 i ver e with⟨v0,e0⟩|hle
  ·exact h.2.2 i v0 e0
  ·exact .inr (dt h.1 hle)
theorem rn {T:List Nat} {es:Nat} {l:List AV} {t:Tl} {xs:List AV} (h:App T l t) (hl:l.length+xs.length<=Ev) (ha:(l.all λx=>x.cells.length==es)=true) (hx:(xs.all λx=>x.cells.length==es&&x.cells.all ic)=true) :
  ∃t' T',(∀H,tr ⟨H,T⟩ es none l t xs=some (.sl (l++xs) t',⟨H,T'⟩))/\App T' (l++xs) t'/\Oth T t T' t':=by
 cases xs with
 | nil=>exact⟨t,T,λH=>by simp[tr],by simpa using h,.refl _ _⟩
 | cons x xs=>
 have hn:l.length+(x::xs).length<=1073741824:=hl
 rcases h with⟨rfl,rfl⟩|⟨hne,id,ver,rfl,hT⟩
 ·refine⟨.tl T.length 0,T++[0],λH => ?_,.inr ⟨by simp,_,_,rfl,by simp⟩,by simp,λi v e _=>by rw[ae (List.getElem?_eq_some_iff.1 e).1];exact e,λi ver' e=>.inr ?_⟩
  ·simp only[tr]
   rw[if_pos ⟨.inl hn,ha,hx⟩]
  ·cases e;exact di _
 ·have hlt:=(List.getElem?_eq_some_iff.1 hT).1
  refine⟨.tl id (ver+1),T.set id (ver+1),λH => ?_,.inr ⟨by simp,_,_,rfl,by simp[hlt]⟩,by simp,λi v e n => ?_,λi ver' e=>.inl ?_⟩
  ·simp only[tr]
   rw[if_pos ⟨.inl hn,ha,hx⟩]
   simp[hT,hne]
  ·have:id ≠ i:=by rintro rfl;exact n ver rfl
   rw[b9,if_neg this];exact e
  ·cases e;exact⟨ver,rfl⟩
theorem App.lt {T:List Nat} {l:List AV} {t:Tl} (h:App T l t) {i v:Nat} (e:t = .tl i v):i<T.length:=by
 rcases h with⟨_,rfl⟩|⟨_,id,ver,rfl,h2⟩
 ·cases e
 ·cases e;exact(List.getElem?_eq_some_iff.1 h2).1
theorem App.jb {T T':List Nat} {l:List AV} {t u u':Tl} (h:App T l t) (o:Oth T u T' u') (d:∀i v v',u = .tl i v->t ≠ .tl i v'):App T' l t:=by
 rcases h with⟨h1,rfl⟩|⟨h1,id,ver,rfl,h2⟩
 ·exact .inl ⟨h1,rfl⟩
 ·exact .inr ⟨h1,id,ver,rfl,o.2.1 id ver h2 λv e=>d id v ver e rfl⟩
end Go.Proofs.Eng
namespace Go.Proofs.Eng
open Go Go.Proofs
set_option maxRecDepth 100000
set_option maxHeartbeats 16000000
def Ins.av (x:Ins):AV:=.agg [.int x.op,.int x.a,.int x.b,.str x.n]
def jf (l:List Ins):List AV:=l.map Ins.av
theorem gj (l:List Ins):(jf l).length=l.length:=by simp[jf]
theorem iq (l:List Ins):((jf l).all λx=>x.cells.length==4)=true:=by
 rw[aw];intro x hx
 obtain⟨b,_,rfl⟩:=List.mem_map.1 hx;rfl
def CS (ci:Nat) (gl:AV) (es:List Ex) (O:List Ins) (H:List fq) (V:List Nat):Prop:=∃Q tq to,H[ci]? = some (.cells false [gl,.sl Q tq,.sl (jf O) to])/\LIs Ex.Is es Q/\App V Q tq/\App V (jf O) to /\ ∀i v v',tq = .tl i v->to ≠ .tl i v'
def OwC (ci:Nat) (H:List fq) (i:Nat):Prop:=∃x Q tq O to v,H[ci]? = some (.cells false [x,.sl Q tq,.sl O to])/\(tq = .tl i v\/to = .tl i v)
structure Stp (ci:Nat) (H:List fq) (V:List Nat) (H':List fq) (V':List Nat):Prop where
 len:H.length<=H'.length
 vl:V.length<=V'.length
 vk:∀i v,V[i]? = some v -> ¬OwC ci H i->V'[i]? = some v
 own:∀i,OwC ci H' i->OwC ci H i\/V.length<=i
 jb:∀k,k<H.length->k ≠ ci->H'[k]? = H[k]?
theorem Stp.trans {ci:Nat} {A B C:List fq} {V V' V'':List Nat} (h:Stp ci A V B V') (k:Stp ci B V' C V''):Stp ci A V C V'' where
 len:=dt h.len k.len
 vl:=dt h.vl k.vl
 vk i v h1 h2:=k.vk i v (h.vk i v h1 h2) λh3=>by
  have:=(List.getElem?_eq_some_iff.1 h1).1
  rcases h.own i h3 with h4|h4
  ·exact h2 h4
  ·omega
 own i h1:=by
  rcases k.own i h1 with h2|h2
  ·exact h.own i h2
  ·exact .inr (dt h.vl h2)
 jb i h1 h2:=(k.jb i (dq h1 h.len) h2).trans (h.jb i h1 h2)
theorem Ma {ci:Nat} {H H':List fq} (h:H'[ci]? = H[ci]?) (i:Nat):OwC ci H' i ↔ OwC ci H i:=by
 unfold OwC;rw[h]
theorem CS.lt {ci:Nat} {gl:AV} {es:List Ex} {O:List Ins} {H:List fq} {V:List Nat} (h:CS ci gl es O H V):ci<H.length:=by
 obtain⟨_,_,_,h1,_⟩:=h
 exact fu h1
theorem CS.app {ci:Nat} {gl:AV} {es:List Ex} {O:List Ins} {H:List fq} {V:List Nat} (h:CS ci gl es O H V) (G:List fq):CS ci gl es O (H++G) V:=by
 obtain⟨Q,tq,to,h1,h2⟩:=h
 exact⟨Q,tq,to,jc h1 G,h2⟩
theorem Stp.app {ci:Nat} {H:List fq} (h:ci<H.length) (V:List Nat) (G:List fq):Stp ci H V (H++G) V where
 len:=by simp
 vl:=di _
 vk _ _ h _:=h
 own i h1:=.inl ((Ma (ae h) i).1 h1)
 jb k h1 _:=ae h1
theorem Stp.get {ci:Nat} {A B:List fq} {V V':List Nat} (h:Stp ci A V B V') {k:Nat} {o:fq} (hk:A[k]? = some o) (h1:k ≠ ci):B[k]? = some o:=by rw[h.jb k (fu hk) h1];exact hk
theorem CS.out {ci:Nat} {gl:AV} {es:List Ex} {O O':List Ins} {H:List fq} {V V':List Nat} {Q:List AV} {tq to to':Tl} (h1:H[ci]? = some (.cells false [gl,.sl Q tq,.sl (jf O) to])) (h2:LIs Ex.Is es Q) (h3:App V Q tq) (h5:∀i v v',tq = .tl i v->to ≠ .tl i v') (ha:App V' (jf O') to') (ho:Oth V to V' to') :
  CS ci gl es O' (H.set ci (.cells false [gl,.sl Q tq,.sl (jf O') to'])) V'/\Stp ci H V (H.set ci (.cells false [gl,.sl Q tq,.sl (jf O') to'])) V':=by
 have lb:=fu h1
 have hs:(H.set ci (.cells false [gl,.sl Q tq,.sl (jf O') to']))[ci]? = some (.cells false [gl,.sl Q tq,.sl (jf O') to']):=by rw[b9,if_pos rfl,if_pos lb]
 refine⟨⟨Q,tq,to',hs,h2,h3.jb ho λi v v' e1 e2=>h5 i v' v e2 e1,ha,λi v v' e1 e2 => ?_⟩,by simp,ho.1,λi v e hn=>ho.2.1 i v e λver e2=>hn ⟨_,_,_,_,_,_,h1,.inr e2⟩,λi ⟨_,_,_,_,_,v,e1,e2⟩ => ?_,λk k1 k2=>by rw[b9,if_neg (Ne.symm k2)]⟩
 ·rcases ho.2.2 i v' e2 with⟨v0,e0⟩|hle
  ·exact h5 i v v0 e1 e0
  ·have:=h3.lt e1;omega
 ·rw[hs]at e1
  simp only[fe,fq.cells.injEq,List.cons.injEq,AV.sl.injEq,true_and,and_true]at e1
  obtain⟨_,⟨_,rfl⟩,_,rfl⟩:=e1
  rcases e2 with e2|e2
  ·exact .inl ⟨_,_,_,_,_,_,h1,.inl e2⟩
  ·rcases ho.2.2 i v e2 with⟨v0,h⟩|h
   ·exact .inl ⟨_,_,_,_,_,_,h1,.inr h⟩
   ·exact .inr h
end Go.Proofs.Eng
namespace Go.Proofs.Eng
open Go Go.Proofs
set_option maxRecDepth 100000
set_option maxHeartbeats 16000000
end Go.Proofs.Eng
namespace Go.Proofs.Eng
open Go Go.Proofs
set_option maxRecDepth 100000
set_option maxHeartbeats 16000000
theorem Sh.r8 {f:FuncId} {args:List AV} {s:ASt} {PR:AV->ASt->Prop} (h:Sh md pfs f args s PR λ_ _=>False) (hm:md f = .shared):∃v s',PR v s' /\ ∀K KP,CW (run md pfs) md false s f args K KP ()=K v s':=by
 rcases h.call hm with h|⟨_,_,h,_⟩
 ·exact h
 ·exact h.elim
def EmS (ci:Nat) (gl:AV) (gs:List Gl) (f:FuncId) (mk:AV->List AV) (x:Ex):Prop:=∀{es:List Ex} {O:List Ins} {H:List fq} {V:List Nat} {a:AV},CS ci gl es O H V->x.Is a->O.length+(x.emit gs es.length).1.length<=Ev->es.length+(x.emit gs es.length).2.length<=Ev ->
 Sh md pfs f (mk a) ⟨H,V⟩ (λv s=>v = .tup [] /\ ∃H' V',s=⟨H',V'⟩/\CS ci gl (es++(x.emit gs es.length).2) (O++(x.emit gs es.length).1) H' V'/\Stp ci H V H' V') λ_ _=>False
theorem EmS.call {ci:Nat} {gl:AV} {gs:List Gl} {f:FuncId} {mk:AV->List AV} {x:Ex} (h:EmS ci gl gs f mk x) (hf:md f = .shared) {es:List Ex} {O:List Ins} {H:List fq} {V:List Nat} {a:AV} (hC:CS ci gl es O H V) (hx:x.Is a) (b1:O.length+(x.emit gs es.length).1.length<=Ev) (b2:es.length+(x.emit gs es.length).2.length<=Ev) :
  ∃H' V',CS ci gl (es++(x.emit gs es.length).2) (O++(x.emit gs es.length).1) H' V'/\Stp ci H V H' V' /\ ∀K KP,CW (run md pfs) md false ⟨H,V⟩ f (mk a) K KP ()=K (.tup []) ⟨H',V'⟩:=by
 obtain⟨_,_,⟨rfl,H',V',rfl,h1,h2⟩,h3⟩:=(h hC hx b1 b2).r8 hf
 exact⟨H',V',h1,h2,h3⟩
end Go.Proofs.Eng
namespace Go.Proofs.Eng
open Go Go.Proofs
set_option maxRecDepth 100000
set_option maxHeartbeats 16000000
end Go.Proofs.Eng
namespace Go.Proofs.Eng
open Go Go.Proofs
set_option maxRecDepth 100000
set_option maxHeartbeats 16000000
end Go.Proofs.Eng
namespace Go.Proofs.Eng
open Go Go.Proofs
set_option maxRecDepth 100000
set_option maxHeartbeats 16000000
theorem Out.a5v {f:FuncId} {args args':List AV} {s:ASt} {PR:AV->Prop} (h:Out md pfs f args' PR λ_=>False) (hm:md f = .pure) (ha:il (gr 20 s) args=some args'):∃v,PR v /\ ∀K KP,CW (run md pfs) md false s f args K KP ()=K v (args.foldl (frz 20) s):=by
 obtain⟨out,s',out',h1,h2,h3⟩:=h
 cases out' with
 | pan v=>exact h3.elim
 | ret v=>exact⟨v,h3,λK KP=>by simp[CW,me,my,mg,hm,ha,h1,h2]⟩
theorem Xv {H:List fq} {V:List Nat} {L:List AV} {f b:Nat} {fz:Bool} (h:H[b]? = some (.cells fz L)) (hp:gi L=true):gr 20 ⟨H,V⟩ (.fn f [.ptr b 0])=some (.fn f [.ip L 0]):=by
 rw[a0z];simp only[il,Tg,h,td hp,dk,if_true,fh]
theorem Vs (m:Nat):∀(l:List AV) (s:ASt),gi l=true->l.foldl (frz m) s=s
 | [],s,_=>rfl
 | x::l,s,h=>by
  rw[gp,dy]at h
  rw[dc,Hr h.1,Vs m l s h.2]
theorem Y0 {H:List fq} {V:List Nat} {L:List AV} {f b:Nat} {fz:Bool} (h:H[b]? = some (.cells fz L)) (hp:gi L=true):frz 20 ⟨H,V⟩ (.fn f [.ptr b 0])=⟨H.set b (.cells true L),V⟩:=by
 rw[a0y]
 simp only[gp,Lw,ej,dz,if_false,dc,List.foldl_nil,U3,h,Vs _ _ _ hp,ASt.fz]
end Go.Proofs.Eng
namespace Go.Proofs.Eng
open Go Go.Proofs
set_option maxRecDepth 100000
set_option maxHeartbeats 16000000
theorem eqI (k:IntKind) (x:Int):ml (.v (.int k x)) (.v (.int k x))=true:=by rw[ml];simp[eqV]
theorem eqS (x:ByteArray):ml (.v (.string x)) (.v (.string x))=true:=by rw[ml];simp[eqV,ir]
theorem eqL {α:Type} {R:α->AV->Prop}:∀{l:List α} {al:List AV},(∀x ∈ l,∀a,R x a->ml a a=true)->LIs R l al->k9 al al=true
 | [],[],_,_=>by rw[k9]
 | [],_::_,_,h=>h.elim
 | _::_,[],_,h=>h.elim
 | x::l,a::al,h,hl=>by
  rw[k9,h x (by simp) a hl.1,eqL (λy hy=>h y (by simp[hy])) hl.2];rfl
theorem eqT (t:Tl) (l:List AV) (h:k9 l l=true):ml (.sl l t) (.sl l t)=true:=by rw[ml,h];simp
theorem a5z:∀l:List Int,k9 (ints l) (ints l)=true
 | []=>by rw[ints,List.map_nil,k9]
 | x::l=>by have:=a5z l;simp only[ints]at this ⊢;rw[bq,k9,this,ml];simp[eqV]
end Go.Proofs.Eng
namespace Go.Proofs.Eng
open Go Go.Proofs
set_option maxRecDepth 100000
set_option maxHeartbeats 16000000
theorem Jr (n:Nat) (s:ASt) (t:Tl):(t.uy n s).pure=true:=by
 cases t<;>simp only[Tl.uy]<;>(try split)<;>rfl
theorem yh (l:List Ins):gi (jf l)=true:=by
 induction l with
 | nil=>rfl
 | cons x l ih=>simp only[jf,bq]at ih ⊢;rw[gp,ih,Ins.av];simp[n6,gp,gz,oj]
def nmA (l:List ByteArray):List AV:=l.map λn=>.str n
theorem xf (l:List ByteArray):gi (nmA l)=true:=by
 induction l with
 | nil=>rfl
 | cons x l ih=>simp only[nmA,bq]at ih ⊢;rw[gp,ih];simp[oj]
theorem r9 (l:List ByteArray):((nmA l).all λx=>x.cells.length==1)=true:=by
 rw[aw];intro x hx
 obtain⟨b,_,rfl⟩:=List.mem_map.1 hx;rfl
theorem ja (l:List ByteArray):(nmA l).length=l.length:=by simp[nmA]
def blX (b:List Ins) (a:AV):Prop:=∃t,a = .sl (jf b) t
def Em (b:List Ins) (a:AV):Prop:=∃t,a = .sl (jf b) t/\t.pure=true/\b.length<=jj
def Cd.Is (c:Cd) (a:AV):Prop:=∃Bs t1 t2 t3,a = .agg [.sl Bs t1,.sl (nmA c.gl) t2,.sl (ints c.st) t3]/\LIs Em c.bl Bs/\t1.pure=true/\t2.pure=true/\t3.pure=true/\Bs.length<=jj/\c.gl.length<=jj/\c.st.length<=jj
theorem a5w {b:List Ins} {a:AV} (h:blX b a):(a.cells.length==1)=true:=by
 obtain⟨t,rfl⟩:=h;rfl
theorem LIs.mp {α:Type} {R S:α->AV->Prop} (h:∀x a,R x a->S x a):∀{l:List α} {al:List AV},LIs R l al->LIs S l al
 | [],[],_=>trivial
 | [],_::_,h=>h.elim
 | _::_,[],h=>h.elim
 | _::_,_::_,⟨h1,h2⟩=>⟨h _ _ h1,LIs.mp h h2⟩
def Sep (ci:Nat) (H:List fq) (t:Tl):Prop:=∀i v,t = .tl i v -> ¬OwC ci H i
def Dif (t u:Tl):Prop:=∀i v v',t = .tl i v->u ≠ .tl i v'
theorem Dif.symm {t u:Tl} (h:Dif t u):Dif u t:=λi v v' e e'=>h i v' v e' e
theorem Dif.oth {V V':List Nat} {l:List AV} {t u u':Tl} (h:Dif t u) (ha:App V l t) (o:Oth V u V' u'):Dif t u':=λi v v' e e'=>by
 rcases o.2.2 i v' e' with⟨v0,e0⟩|hle
 ·exact h i v v0 e e0
 ·have:=ha.lt e;omega
theorem Sep.oth {ci:Nat} {gl:AV} {es:List Ex} {O:List Ins} {H H':List fq} {V V':List Nat} {t t':Tl} (h:Sep ci H t) (hC:CS ci gl es O H V) (hH:H'[ci]? = H[ci]?) (o:Oth V t V' t'):Sep ci H' t':=λi v e hw=>by
 rw[Ma hH]at hw
 rcases o.2.2 i v e with⟨v0,e0⟩|hle
 ·exact h i v0 e0 hw
 ·obtain⟨Q,tq,to,h1,_,h3,h4,_⟩:=hC
  obtain⟨x,Q',tq',O',to',v',e1,e2⟩:=hw
  rw[h1]at e1
  simp only[fe,fq.cells.injEq,List.cons.injEq,AV.sl.injEq,true_and,and_true]at e1
  obtain⟨_,⟨_,rfl⟩,_,rfl⟩:=e1
  rcases e2 with e2|e2
  ·have:=h3.lt e2;omega
  ·have:=h4.lt e2;omega
theorem CS.oth {ci:Nat} {gl:AV} {es:List Ex} {O:List Ins} {H H':List fq} {V V':List Nat} {t t':Tl} (hC:CS ci gl es O H V) (h:Sep ci H t) (hH:H'[ci]? = H[ci]?) (o:Oth V t V' t'):CS ci gl es O H' V':=by
 obtain⟨Q,tq,to,h1,h2,h3,h4,h5⟩:=hC
 refine⟨Q,tq,to,hH.trans h1,h2,h3.jb o λi v v' e e'=>h i v e ⟨_,_,_,_,_,v',h1,.inl e'⟩,h4.jb o λi v v' e e'=>h i v e ⟨_,_,_,_,_,v',h1,.inr e'⟩,h5⟩
theorem Stp.row {ci:Nat} {H H':List fq} {V V':List Nat} (h:Stp ci H V H' V') {l:List AV} {t:Tl} (ha:App V l t) (hs:Sep ci H t):App V' l t/\Sep ci H' t:=by
 refine⟨?_,λi v e hw => ?_⟩
 ·rcases ha with⟨h1,rfl⟩|⟨h1,id,ver,rfl,h2⟩
  ·exact .inl ⟨h1,rfl⟩
  ·exact .inr ⟨h1,id,ver,rfl,h.vk id ver h2 (hs id ver rfl)⟩
 ·rcases h.own i hw with h'|h'
  ·exact hs i v e h'
  ·have:=ha.lt e;omega
structure CI (gl:AV) (es:List Ex) (O:List Ins) (bls:List (List Ins)) (ns:List ByteArray) (ss:List Int) (H:List fq) (V:List Nat) (Bs:List AV) (tb tg ts:Tl):Prop where
 cs:CS 2 gl es O H V
 h3:H[3]? = some (.cells false [.ptr 2 0])
 h4:H[4]? = some (.cells false [.sl Bs tb,.sl (nmA ns) tg,.sl (ints ss) ts])
 bl:LIs blX bls Bs
 ab:App V Bs tb
 ag:App V (nmA ns) tg
 ai:App V (ints ss) ts
 sb:Sep 2 H tb
 sg:Sep 2 H tg
 ss:Sep 2 H ts
 bg:Dif tb tg
 bs:Dif tb ts
 gs:Dif tg ts
section
variable {gl:AV} {es:List Ex} {O:List Ins} {bls:List (List Ins)} {ns:List ByteArray} {ss:List Int} {H:List fq} {V:List Nat} {Bs:List AV} {tb tg ts:Tl}
theorem CI.lt (h:CI gl es O bls ns ss H V Bs tb tg ts):4<H.length:=fu h.h4
theorem Sep.app {ci:Nat} {H:List fq} {t:Tl} (h:Sep ci H t) (hl:ci<H.length) (G:List fq):Sep ci (H++G) t:=λi v e hw=>h i v e ((Ma (ae hl) i).1 hw)
theorem CI.app (h:CI gl es O bls ns ss H V Bs tb tg ts) (G:List fq):CI gl es O bls ns ss (H++G) V Bs tb tg ts:=
 ⟨h.cs.app G,jc h.h3 G,jc h.h4 G,h.bl,h.ab,h.ag,h.ai,h.sb.app h.cs.lt G,h.sg.app h.cs.lt G,h.ss.app h.cs.lt G,h.bg,h.bs,h.gs⟩
theorem CI.stp (h:CI gl es O bls ns ss H V Bs tb tg ts) {es':List Ex} {O':List Ins} {H':List fq} {V':List Nat} (hC:CS 2 gl es' O' H' V') (hS:Stp 2 H V H' V'):CI gl es' O' bls ns ss H' V' Bs tb tg ts:=
 ⟨hC,hS.get h.h3 (by decide),hS.get h.h4 (by decide),h.bl,(hS.row h.ab h.sb).1,(hS.row h.ag h.sg).1,(hS.row h.ai h.ss).1,(hS.row h.ab h.sb).2,(hS.row h.ag h.sg).2,(hS.row h.ai h.ss).2,h.bg,h.bs,h.gs⟩
theorem CI.nil (h:CI gl es O bls ns ss H V Bs tb tg ts) {Q:List AV} {tq to:Tl} {L:List AV} (h1:H[2]? = some (.cells false [gl,.sl Q tq,.sl L to])):CI gl es [] bls ns ss (H.set 2 (.cells false [gl,.sl Q tq,.sl [] .nil])) V Bs tb tg ts:=by
 have hl:=h.lt
 obtain⟨Q',tq',to',g1,g2,g3,g4,g5⟩:=h.cs
 rw[h1]at g1
 simp only[fe,fq.cells.injEq,List.cons.injEq,AV.sl.injEq,true_and,and_true]at g1
 obtain⟨⟨rfl,rfl⟩,rfl,rfl⟩:=g1
 have hs:(H.set 2 (.cells false [gl,.sl Q tq,.sl [] .nil]))[2]? = some (.cells false [gl,.sl Q tq,.sl (jf []) .nil]):=by rw[b9,if_pos rfl,if_pos (by omega)];rfl
 have ho:∀i,OwC 2 (H.set 2 (.cells false [gl,.sl Q tq,.sl [] .nil])) i->OwC 2 H i:=λi ⟨_,_,_,_,_,v,e1,e2⟩=>by
  rw[hs]at e1
  simp only[fe,fq.cells.injEq,List.cons.injEq,AV.sl.injEq,true_and,and_true]at e1
  obtain⟨_,⟨_,rfl⟩,_,rfl⟩:=e1
  rcases e2 with e2|e2
  ·exact⟨_,_,_,_,_,_,h1,.inl e2⟩
  ·cases e2
 refine⟨⟨Q,tq,.nil,hs,g2,g3,.inl ⟨rfl,rfl⟩,λi v v' _ e=>by cases e⟩,by rw[b9,if_neg (by decide)];exact h.h3,by rw[b9,if_neg (by decide)];exact h.h4,h.bl,h.ab,h.ag,h.ai,λi v e hw=>h.sb i v e (ho i hw),λi v e hw=>h.sg i v e (ho i hw),λi v e hw=>h.ss i v e (ho i hw),h.bg,h.bs,h.gs⟩
end
end Go.Proofs.Eng
