/- The code of a program: plain law. No conditions beyond those in the theorems. -/
import Derived.Test.YtflfmkkcnphdcaaGreatP1
set_option linter.all false
set_option linter.deprecated false
set_option linter.unnecessarySimpa false
set_option linter.unusedVariables false
set_option linter.unusedSimpArgs false
set_option linter.defProp false
namespace Go.Proofs.Eng
end Go.Proofs.Eng
namespace Go.Proofs.Eng
structure Ins where
 op:Int
 a:Int
 b:Int
 n:ByteArray
 deriving DecidableEq
def Ins.o (op:Int):Ins:=⟨op,0,0,⟨#[]⟩⟩
def a5i:List Gl->ByteArray->Nat
 | [],_=>0
 | g::gs,n=>if g.1=n then 0 else a5i gs n+1
def opK (k:Int):Int:=if k=2 then 2 else if k=6 then 8 else if k=8 then 11 else if k=9 then 12 else if k=10 then 13 else 14
def brs:Nat->List Int->List Ins
 | _,[]=>[]
 | c,x::l=>⟨6,(c:Int),x,⟨#[]⟩⟩::brs (c+1) l
section
variable (gs:List Gl)
mutual
def Ex.emit (c:Nat):Ex->List Ins × List Ex
 | .mk k i n s kids=>
  if k=0 then([⟨0,i,0,⟨#[]⟩⟩],[])
  else if k=1 then([⟨1,(c:Int),0,⟨#[]⟩⟩],kids.take 1)
  else if k=3 then((Gs c kids).1++[⟨4,i,(kids.length:Nat),n⟩],(Gs c kids).2)
  else if k=4 then((Fu c kids).1++⟨5,(s.length:Nat),0,⟨#[]⟩⟩::brs (c+(Fu c kids).2.length) s,(Fu c kids).2++kids.drop 1)
  else if k=5 then([⟨7,(a5i gs n:Nat),0,⟨#[]⟩⟩],[])
  else if k=7 then((Fu c kids).1 ++ .o 9::(a1j c kids).1++[.o 10],(Fu c kids).2++(a1j c kids).2)
  else((Gs c kids).1++[.o (opK k)],(Gs c kids).2)
def Gs (c:Nat):List Ex->List Ins × List Ex
 | []=>([],[])
 | x::l=>((x.emit c).1++(Gs (c+(x.emit c).2.length) l).1,(x.emit c).2++(Gs (c+(x.emit c).2.length) l).2)
def Fu (c:Nat):List Ex->List Ins × List Ex
 | []=>([],[])
 | x::_=>x.emit c
def a1j (c:Nat):List Ex->List Ins × List Ex
 | []=>([],[])
 | x::l=>Fu (c+(x.emit c).2.length) l
end
end
mutual
def Ex.sz:Ex->Nat
 | .mk _ _ _ _ kids=>szL kids+1
def szL:List Ex->Nat
 | []=>0
 | e::es=>e.sz+szL es
end
def blocks (gs:List Gl):Nat->Nat->List Ex->List (List Ins)
 | 0,_,_=>[]
 | _,_,[]=>[]
 | f+1,c,e::l=>((e.emit gs c).1++[.o 3])::blocks gs f (c+(e.emit gs c).2.length) (l++(e.emit gs c).2)
mutual
def Ex.nb:Ex->Nat
 | .mk k _ _ s kids=>(if k=1 then 1 else if k=4 then s.length else 0)+nbL kids
def nbL:List Ex->Nat
 | []=>0
 | x::l=>x.nb+nbL l
end
mutual
def Ex.ni:Ex->Nat
 | .mk k _ _ s kids=>(if k=1 then 2 else if k=4 then 1+2*s.length else if k=7 then 2 else 1)+niL kids
def niL:List Ex->Nat
 | []=>0
 | x::l=>x.ni+niL l
end
mutual
def Ex.ar:Ex->Prop
 | .mk k _ _ s kids=>(k=0->kids=[])/\(k=1->kids.length=1)/\(k=4->kids.length=s.length+1)/\(k=5->kids=[])/\(k=7->kids.length=2)/\arL kids
def arL:List Ex->Prop
 | []=>True
 | x::l=>x.ar/\arL l
end
theorem I0:∀l:List Ex,arL l ↔ ∀x ∈ l,x.ar
 | []=>by simp[arL]
 | x::l=>by simp[arL,I0 l]
end Go.Proofs.Eng
namespace Go.Proofs.Eng
structure Cd where
 bl:List (List Ins)
 gl:List ByteArray
 st:List Int
def pw (op:Int):Bool:=op==0||op==1||op==5||op==7||op==6||op==4
def pq (op:Int):Bool:=op==6||op==4
def qm (op:Int):Bool:=op==4
def xp (x:Ins) (rest:List Ins):Bool:=decide (x.a<=32)&&decide (x.a<=(rest.length:Nat))&&(rest.take x.a.toNat).all λy=>y.op==6
def qu (x:Ins) (rest:List Ins) (br:Int):Bool:=
 decide (0<=x.op)&&decide (x.op<=14)&&decide (0<=x.a)&&decide (0<=x.b)&&(pw x.op||x.a==0)&&(pq x.op||x.b==0)&&(qm x.op||x.n.size==0)&&((x.op==6)==decide (0<br))&&(x.op != 5||xp x rest)
def ld (nb ng:Nat) (x:Ins):Bool:=x.op==4&&decide (32<=x.a)||x.op==6&&decide (64<x.b)||(x.op==1||x.op==6)&&decide ((nb:Int)<=x.a)||x.op==7&&decide ((ng:Int)<=x.a)
def lq (nb ng:Nat) (x:Ins) (rest:List Ins) (br:Int):Int:=if qu x rest br=false then 3 else if x.op=4/\isName x.n=false then 29 else if ld nb ng x=true then 2 else 0
structure Sk where
 S:List Int
 env:Int
 stack:Int
 binds:Int
 br:Int
def s7 (n:Nat) (S:List Int) (b size:Int):Except Int (List Int):=if 0<=S.getD b.toNat 0 then .error 8 else if b<=n then .error 1 else .ok (S.set b.toNat size)
def pd (n:Nat) (x:Ins) (t:Sk):Except Int (List Int):=if x.op=1 then s7 n t.S x.a (t.env+1)else if x.op=6 then s7 n t.S x.a (t.env+x.b)else if x.op=0/\t.env<=x.a then .error 24 else .ok t.S
def lk (x:Ins):Int:=if x.op=2\/x.op=11 then 2 else if x.op=4 then x.b else if x.op=5\/x.op=12\/x.op=13\/x.op=9 then 1 else 0
def jq (x:Ins):Int:=if x.op=3\/x.op=6\/x.op=9\/x.op=10 then 0 else 1
def jr (x:Ins) (v:Int):Int:=if x.op=9 then v+1 else if x.op=10 then v-1 else v
def brI (x:Ins) (b:Int):Int:=if x.op=5 then x.a else max 0 (b-1)
def mb (x:Ins) (rest:List Ins) (S:List Int) (t:Sk):Except Int Sk:=
 if t.stack<lk x\/x.op=10/\t.binds=0 then .error 27
 else if (x.op==3) != rest.isEmpty then .error 3
 else if x.op=3/\(t.stack-lk x+jq x ≠ 1\/jr x t.binds ≠ 0)then .error 27
 else .ok ⟨S,jr x t.env,t.stack-lk x+jq x,jr x t.binds,brI x t.br⟩
def stp (nb ng n:Nat) (x:Ins) (rest:List Ins) (t:Sk):Except Int Sk:=
 if lq nb ng x rest t.br ≠ 0 then .error (lq nb ng x rest t.br)else match pd n x t with
  | .error e=>.error e
  | .ok S=>mb x rest S t
def s9 (nb ng n:Nat) (suf:List Ins):List Ins->Sk->Except Int Sk
 | [],t=>.ok t
 | x::l,t=>match stp nb ng n x (l++suf) t with
  | .error e=>.error e
  | .ok t'=>s9 nb ng n suf l t'
def goB (nb ng:Nat):Nat->List (List Ins)->List Int->Int
 | _,[],_=>0
 | n,l::r,S=>if S.getD n 0<0 then 9 else if l=[]then 3 else match s9 nb ng n [] l ⟨S,S.getD n 0,0,0,0⟩with
  | .error e=>e
  | .ok t=>goB nb ng (n+1) r t.S
def lj {α:Type} [DecidableEq α]:List α->List α->Bool
 | _,[]=>false
 | p,x::l=>decide (x ∈ p)||lj (p++[x]) l
def Cd.ua (c:Cd):Int:=
 if c.bl=[]\/c.st.length ≠ c.gl.length\/(c.st.any λs=>decide (s<1)||decide ((c.bl.length:Int)<=s))=true\/lj [] c.st=true then 3
 else if (c.gl.any λg => !isName g)=true then 29
 else if lj [] c.gl=true then 8 else 0
def Cd.S0 (c:Cd):List Int:=c.st.foldl (λS s=>S.set s.toNat 0) ((List.replicate c.bl.length (-1)).set 0 0)
def Cd.check (c:Cd):Int:=if c.ua ≠ 0 then c.ua else goB c.bl.length c.gl.length 0 c.bl c.S0
mutual
def Ex.a5o (v:Int):Ex->List Int
 | .mk k _ _ s kids=>
  if k=0 then[]else if k=1 then[v+1]else if k=3 then U9 v kids else if k=4 then Ue v kids++s.map (v + ·)else if k=5 then[]else if k=7 then Ue v kids++a6a v kids else U9 v kids
def U9 (v:Int):List Ex->List Int
 | []=>[]
 | x::l=>x.a5o v++U9 v l
def Ue (v:Int):List Ex->List Int
 | []=>[]
 | x::_=>x.a5o v
def a6a (v:Int):List Ex->List Int
 | []=>[]
 | _::l=>Ue (v+1) l
end
end Go.Proofs.Eng
namespace Go.Proofs.Eng
set_option maxRecDepth 100000
theorem Wu {k i:Int} {n:ByteArray} {s:List Int} {l:Nat} (h:fmB k i n s l=true) (hk:k=5\/k=6\/k=11):l=0:=by
 rcases hk with rfl|rfl|rfl <;>
 ·simp only[fmB,dy]at h
  have h:=h.2
  simp[a34,U7,kn]at h
  omega
theorem Pl {gl:ByteArray->Bool} {v k i:Int} {n:ByteArray} {s:List Int} {kids:List Ex} (h:(Ex.mk k i n s kids).err gl v=0) :
  fmB k i n s kids.length=true/\(k=3->isName n=true)/\(k=0->i<v)/\(k=5->gl n=true)/\Q1 gl k s v 0 kids=0:=by
 rw[Ex.err]at h
 split at h
 ·omega
 rename_i h1
 split at h
 ·omega
 rename_i h2
 split at h
 ·omega
 rename_i h3
 split at h
 ·omega
 rename_i h4
 refine⟨by simpa using h1,λhk => ?_,λhk => ?_,λhk => ?_,h⟩
 ·cases hn:isName n
  ·exact absurd ⟨by simp[Ha,hk],hn⟩ h2
  ·rfl
 ·rcases Int.lt_or_le i v with h5|h5
  ·exact h5
  ·exact absurd ⟨hk,by simpa using h5⟩ h3
 ·cases hn:gl n
  ·exact absurd ⟨hk,hn⟩ h4
  ·rfl
theorem Nl {gl:ByteArray->Bool} {k v:Int} {s:List Int}:∀{l:List Ex} {j i:Nat} {x:Ex},Q1 gl k s v j l=0->l[i]? = some x->x.err gl (w64 (v+under k s (j+i)))=0
 | [],_,_,_,_,h=>by simp at h
 | y::l,j,0,x,h,hx=>by
  simp at hx;subst hx
  rw[Q1]at h
  split at h
  ·assumption
  ·rename_i h1;exact absurd h h1
 | y::l,j,i+1,x,h,hx=>by
  rw[Q1]at h
  split at h
  ·have:=Nl (j:=j+1) (i:=i) h (by simpa using hx)
   rwa [show j+1+i=j+(i+1)from by omega]at this
  ·rename_i h1;exact absurd h h1
theorem a4h {gl:ByteArray->Bool} (e:Ex):∀{v},e.err gl v=0->e.ar:=by
 induction e using Ex.ind with
 | h k i n s kids ih=>
  intro v h
  obtain⟨h1,_,_,_,h5⟩:=Pl h
  obtain⟨_,_,_,_,_,_,f0,f4,f2,f1,_⟩:=Sg h1
  rw[Ex.ar]
  refine⟨λhk=>List.length_eq_zero_iff.1 (f0 hk).1,λhk=>f1 (.inl hk),f4,λhk=>List.length_eq_zero_iff.1 (Wu h1 (.inl hk)),λhk=>f2 (.inr (.inl hk)),(I0 _).2 λx hx => ?_⟩
  obtain⟨j,hj⟩:=c8 hx
  exact ih x hx (Nl h5 hj)
section
variable {gs:List Gl} {gl:ByteArray->Bool} {nb ng n:Nat}
end
end Go.Proofs.Eng
namespace Go.Proofs.Eng
set_option maxRecDepth 100000
def Cx (P:Ex->Int->Prop):List Ex->List Int->Prop
 | [],[]=>True
 | x::l,z::zs=>P x z/\Cx P l zs
 | _,_=>False
theorem Cx.app {P:Ex->Int->Prop}:∀{l m:List Ex} {zs ws:List Int},Cx P l zs->Cx P m ws->Cx P (l++m) (zs++ws)
 | [],_,[],_,_,h=>h
 | _::_,_,_::_,_,h,k=>⟨h.1,Cx.app h.2 k⟩
 | [],_,_::_,_,h,_=>h.elim
 | _::_,_,[],_,h,_=>h.elim
theorem Cx.len {P:Ex->Int->Prop}:∀{l:List Ex} {zs:List Int},Cx P l zs->l.length=zs.length
 | [],[],_=>rfl
 | _::_,_::_,h=>by simp[Cx.len h.2]
 | [],_::_,h=>h.elim
 | _::_,[],h=>h.elim
def a3g (gl:ByteArray->Bool) (B:Int) (x:Ex) (z:Int):Prop:=x.err gl z=0/\0<=z/\z+64*x.dep<=B
section
variable {gs:List Gl} {gl:ByteArray->Bool} {nb ng:Nat} {B:Int}
end
end Go.Proofs.Eng
namespace Go.Proofs.Eng
set_option maxRecDepth 100000
def Pr.es (p:Pr):List Ex:=p.main::p.gs.map (·.2)
structure Ys (p:Pr) (B:Int):Prop where
 main:a3g p.gl B p.main 0
 gs:∀g ∈ p.gs,isName g.1=true/\a3g p.gl B g.2 0
 nd:lj [] (p.gs.map (·.1))=false
 hB:B<=B62
theorem Ys.all {p:Pr} {B:Int} (h:Ys p B):∀e ∈ p.es,a3g p.gl B e 0:=λe he=>by
 rcases List.mem_cons.1 he with rfl|he
 ·exact h.main
 ·obtain⟨g,hg,rfl⟩:=List.mem_map.1 he
  exact(h.gs g hg).2
theorem Ys.ar {p:Pr} {B:Int} (h:Ys p B):arL p.es:=(I0 _).2 λe he=>a4h _ (h.all e he).1
end Go.Proofs.Eng
