/- P1: what functions of the program return. No conditions beyond those in the theorems. -/
import Derived.Test.YtflfmkkcnphdcaaGreatPf57
set_option linter.all false
set_option linter.deprecated false
set_option linter.unnecessarySimpa false
set_option linter.unusedVariables false
set_option linter.unusedSimpArgs false
set_option linter.defProp false
namespace Go.Proofs.Eng
open Go Go.Proofs
abbrev w64 (n:Int):Int:=IntKind.i64.wrap n
abbrev B62:Int:=4611686018427387904
inductive Ex where
 | mk (k i:Int) (n:ByteArray) (szs:List Int) (kids:List Ex)
def a6e (i:Int) (n:ByteArray):Prop:=jn i/\n.size<=jj
mutual
def Ex.Is:Ex->AV->Prop
 | .mk k i n szs kids,a=>∃t1 t2 kas,a = .agg [.int k,.int i,.str n,.sl (ints szs) t1,.sl kas t2]/\t1.pure=true/\t2.pure=true/\a6e i n/\szs.length<=jj/\kas.length<=jj/\Ex.IsL kids kas
def Ex.IsL:List Ex->List AV->Prop
 | [],[]=>True
 | e::es,a::al=>e.Is a/\Ex.IsL es al
 | _,_=>False
end
theorem Ex.ind {P:Ex->Prop} (h:∀k i n s kids,(∀x ∈ kids,P x)->P (.mk k i n s kids)) (e:Ex):P e:=by
 have key:∀n e,SizeOf.sizeOf e<=n->P e:=by
  intro n
  induction n with
  | zero=>intro e he;cases e;simp at he
  | succ n ih=>
   intro e he
   cases e with
   | mk k i nm s kids=>
    refine h k i nm s kids λx hx=>ih x ?_
    have:=List.sizeOf_lt_of_mem hx
    simp at he
    omega
 exact key _ e (di _)
theorem Nb:∀{l:List Ex} {al:List AV},Ex.IsL l al ↔ LIs Ex.Is l al
 | [],[]=>by simp[Ex.IsL,LIs]
 | e::es,a::al=>by simp only[Ex.IsL,LIs,Nb (l:=es)]
 | [],_::_=>by simp[Ex.IsL,LIs]
 | _::_,[]=>by simp[Ex.IsL,LIs]
theorem Ex.Is.mk {k i:Int} {n:ByteArray} {s:List Int} {kids:List Ex} {t1 t2:Tl} {kas:List AV} (h1:t1.pure=true) (h2:t2.pure=true) (h3:a6e i n) (h4:s.length<=jj) (h5:kas.length<=jj) (h6:LIs Ex.Is kids kas):(Ex.mk k i n s kids).Is (.agg [.int k,.int i,.str n,.sl (ints s) t1,.sl kas t2]):=by
 simp only[Ex.Is,Nb];exact⟨t1,t2,kas,rfl,h1,h2,h3,h4,h5,h6⟩
def Ex.k:Ex->Int | .mk k _ _ _ _=>k
def Ex.i:Ex->Int | .mk _ i _ _ _=>i
def Ex.n:Ex->ByteArray | .mk _ _ n _ _=>n
def Ex.s:Ex->List Int | .mk _ _ _ s _=>s
def Ex.kids:Ex->List Ex | .mk _ _ _ _ l=>l
def Ex.zero:Ex:=.mk 0 0 ⟨#[]⟩ [] []
mutual
def Ex.a73:Ex->Prop
 | .mk _ _ _ _ kids=>kids.length<=Ev/\a17 kids
def a17:List Ex->Prop
 | []=>True
 | e::es=>e.a73/\a17 es
end
end Go.Proofs.Eng
namespace Go.Proofs.Eng
open Go Go.Proofs
set_option maxRecDepth 100000
def under (k:Int) (s:List Int) (j:Nat):Int:=if k=1\/k=7/\j=1 then 1 else if k=4/\1<=j/\j<=s.length then(if s.getD (j-1) 0>0 then s.getD (j-1) 0 else 0)else 0
end Go.Proofs.Eng
namespace Go.Proofs.Eng
open Go Go.Proofs
set_option maxRecDepth 100000
mutual
def Ex.val:Ex->Bool
 | .mk k _ _ _ kids=>if k=1\/k=6 then true else if k=3\/k=8 then a69 kids else false
def a69:List Ex->Bool
 | []=>true
 | e::es=>e.val&&a69 es
end
mutual
def Ex.size:Ex->Int
 | .mk _ _ _ _ kids=>Ex.a1g 1 kids
def Ex.a1g:Int->List Ex->Int
 | acc,[]=>acc
 | acc,e::es=>Ex.a1g (IntKind.i64.wrap (acc+e.size)) es
end
mutual
def Ex.deep:Ex->Int
 | .mk _ _ _ _ kids=>IntKind.i64.wrap (Ex.a16 0 kids+1)
def Ex.a16:Int->List Ex->Int
 | acc,[]=>acc
 | acc,e::es=>Ex.a16 (if e.deep>acc then e.deep else acc) es
end
end Go.Proofs.Eng
namespace Go.Proofs.Eng
open Go Go.Proofs
set_option maxRecDepth 100000
def U7 (m:Int) (s:List Int) (l:Nat):Bool:=(l:Int)==m&&s.length==0
def a14 (i:Int) (s:List Int) (l:Nat):Bool:=s.length==0&&decide (i<32)&&decide ((l:Int)<=4096)
def O6 (n:Int):Bool:=decide (n<0)||decide (n>64)
def a1a (s:List Int) (l:Nat):Bool:=decide (s.length<=32)&&l==s.length+1 && !s.any O6
def Ha (k:Int):Bool:=k==3||k==5
section
variable {k i:Int} {n:ByteArray} {s:List Int} {t1 t2:Tl} {kas:List AV}
end
def kf (m:Int):AV:=.fn 127 [.ip [.int m] 0]
end Go.Proofs.Eng
namespace Go.Proofs.Eng
open Go Go.Proofs
set_option maxRecDepth 100000
def kn (k:Int):Int:=if k=1\/k=9\/k=10 then 1 else if k=2\/k=7\/k=8 then 2 else 0
def a34 (k i:Int) (s:List Int) (l:Nat):Bool:=if k=3 then a14 i s l else if k=4 then a1a s l else U7 (kn k) s l
def fmB (k i:Int) (n:ByteArray) (s:List Int) (l:Nat):Bool:=decide (0<=k)&&decide (k<12)&&decide (0<=i)&&(n.size==0||Ha k)&&(i==0||k==0||k==3)&&a34 k i s l
end Go.Proofs.Eng
namespace Go.Proofs.Eng
open Go Go.Proofs
set_option maxRecDepth 100000
abbrev AV.u8 (c:Int):AV:=.v (.int .u8 c)
def N0 (c:Int):Bool:=decide (97<=c/\c<=122)||decide (65<=c/\c<=90)||decide (c=95)
theorem a41 (c:Int):Out md pfs 131 [.u8 c] (· = .bool (N0 c)) λ_=>False:=by
 refine jt pf131_is (dh rfl) ?_
 cases h1:decide (c>=97)<;>cases h2:decide (c<=122)<;>cases h3:decide (c>=65)<;>cases h4:decide (c<=90)<;>cases h5:c==95
 all_goals
  simp only[pf131,↓fm,wall,simprocAttr,h1,h2,h3,h4,h5]
  simp only[decide_eq_false_iff_not,decide_eq_true_eq,beq_iff_eq,beq_eq_false_iff_ne]at h1 h2 h3 h4 h5
  refine tw ?_
  simp[N0]
  omega
theorem Pk (c:Int):Out md pfs 106 [.u8 c] (· = .bool (N0 c)) λ_=>False:=by
 refine jt pf106_is (dh rfl) ?_
 cases h1:decide (c>=97)<;>cases h2:decide (c<=122)<;>cases h3:decide (c>=65)<;>cases h4:decide (c<=90)<;>cases h5:c==95
 all_goals
  simp only[pf106,↓fm,wall,simprocAttr,h1,h2,h3,h4,h5]
  simp only[decide_eq_false_iff_not,decide_eq_true_eq,beq_iff_eq,beq_eq_false_iff_ne]at h1 h2 h3 h4 h5
  refine tw ?_
  simp[N0]
  omega
def lv:List UInt8->Bool->Bool
 | [],b => !b
 | c::cs,b=>if N0 c.toNat then lv cs false else if b then false else if (c.toNat:Int)=46 then lv cs true else if ((c.toNat:Int)<48\/57<(c.toNat:Int))/\(c.toNat:Int) ≠ 39 then false else lv cs false
def isName (s:ByteArray):Bool:=lv s.toList true&&decide (s.size<=64)
theorem Kp (s:ByteArray) (hs:s.size<=jj):Out md pfs 86 [.str s] (· = .bool (isName s)) λ_=>False:=by
 refine jt pf86_is (dh rfl) ?_
 simp only[pf86,↓fm,wall,simprocAttr]
 refine j7 (λj=>s.size-j) (λj E H T=>∃b,E 0 = .str s/\E 3 = .bool b/\E 7 = .int s.size/\E 8 = .int j/\j<=s.size/\lv (s.toList.drop j) b=lv s.toList true) ?_ 0 ?_
 ·rintro j E H T ⟨b,h0,h3,h7,h8,hj,hn⟩
  rcases dj j s.size with hlt|hge
  ·have hd:decide ((j:Int)<s.size)=true:=by simpa using hlt
   have hx:j<s.toList.length:=by rw[qy];exact hlt
   have hg:s.toList[j]? = some s.toList[j]:=by simp[hx]
   have hc:=(a41 (s.toList[j].toNat)).call rfl (by simp[gp,gz,oj])
   rw[bz hx]at hn
   generalize s.toList[j]=c at hn hg hc
   obtain⟨v,rfl,hc⟩:=hc
   cases hl:N0 c.toNat
   ·cases b
    ·cases h46:((c.toNat:Int)==46)
     ·cases h48:decide ((c.toNat:Int)<48)<;>cases h57:decide ((c.toNat:Int)>57)<;>cases h39:((c.toNat:Int) != 39)
      all_goals
       simp only[↓fm,wall,simprocAttr,h0,h3,h7,h8,hd,hg,fc,hc,hl,h46,h48,h57,h39]
       simp only[decide_eq_false_iff_not,decide_eq_true_eq,beq_iff_eq,beq_eq_false_iff_ne,bne_iff_ne,bne_eq_false_iff_eq]at h46 h48 h57 h39
       first
        | exact jg ⟨j+1,by omega,false,h0,h3,h7,ij (by omega),by omega,by rw[<- hn,lv,hl,if_neg (by decide),if_neg (by decide),if_neg h46,if_neg (by omega)]⟩
        | exact tw (by rw[isName,<- hn,lv,hl,if_neg (by decide),if_neg (by decide),if_neg h46,if_pos (by omega)];rfl)
     ·simp only[↓fm,wall,simprocAttr,h0,h3,h7,h8,hd,hg,fc,hc,hl,h46]
      exact jg ⟨j+1,by omega,true,h0,rfl,h7,ij (by omega),by omega,by rw[<- hn,lv,hl,if_neg (by decide),if_neg (by decide),if_pos (by simpa using h46)]⟩
    ·simp only[↓fm,wall,simprocAttr,h0,h3,h7,h8,hd,hg,fc,hc,hl]
     exact tw (by rw[isName,<- hn,lv,hl];rfl)
   ·simp only[↓fm,wall,simprocAttr,h0,h3,h7,h8,hd,hg,fc,hc,hl]
    exact jg ⟨j+1,by omega,false,h0,rfl,h7,ij (by omega),by omega,by rw[<- hn,lv];simp[hl]⟩
  ·have hd:decide ((j:Int)<s.size)=false:=by simpa using hge
   rw[bt (by rw[qy];omega)]at hn
   cases b<;>cases h64:decide ((s.size:Int)<=64)
   all_goals
    simp only[↓fm,wall,simprocAttr,h0,h3,h7,h8,hd,h64]
    refine tw ?_
    rw[isName,<- hn,lv]
    simp at h64 ⊢
    try omega
 ·exact⟨true,rfl,rfl,rfl,rfl,dk _,rfl⟩
theorem Ct (s:ByteArray) (hs:s.size<=jj):Out md pfs 64 [.str s] (· = .bool (isName s)) λ_=>False:=by
 refine jt pf64_is (dh rfl) ?_
 have he:=Gn (s:=s)
 cases h0:(s.size==0)
 ·rw[h0]at he
  cases h64:decide ((s.size:Int)>64)
  ·simp only[pf64,↓fm,wall,simprocAttr,he,h64]
   refine j7 (λj=>s.size-j) (λj E H T=>∃b,E 0 = .str s/\E 3 = .bool b/\E 4 = .int j/\j<=s.size/\lv (s.toList.drop j) b=lv s.toList true) ?_ 0 ?_
   ·rintro j E H T ⟨b,h0,h3,h4,hj,hn⟩
    rcases dj j s.size with hlt|hge
    ·have hd:decide ((j:Int)<s.size)=true:=by simpa using hlt
     have hx:j<s.toList.length:=by rw[qy];exact hlt
     have hg:s.toList[j]? = some s.toList[j]:=by simp[hx]
     have hc:=(Pk (s.toList[j].toNat)).call rfl (by simp[gp,gz,oj])
     rw[bz hx]at hn
     generalize s.toList[j]=c at hn hg hc
     obtain⟨v,rfl,hc⟩:=hc
     cases hl:N0 c.toNat
     ·cases b
      ·cases h46:((c.toNat:Int)==46)
       ·cases h48:decide ((c.toNat:Int)<48)<;>cases h57:decide ((c.toNat:Int)>57)<;>cases h39:((c.toNat:Int) != 39)
        all_goals
         simp only[↓fm,wall,simprocAttr,h0,h3,h4,hd,hg,fc,hc,hl,h46,h48,h57,h39]
         simp only[decide_eq_false_iff_not,decide_eq_true_eq,beq_iff_eq,beq_eq_false_iff_ne,bne_iff_ne,bne_eq_false_iff_eq]at h46 h48 h57 h39
         first
          | exact jg ⟨j+1,by omega,false,h0,h3,ij (by omega),by omega,by rw[<- hn,lv,hl,if_neg (by decide),if_neg (by decide),if_neg h46,if_neg (by omega)]⟩
          | exact tw (by rw[isName,<- hn,lv,hl,if_neg (by decide),if_neg (by decide),if_neg h46,if_pos (by omega)];rfl)
       ·simp only[↓fm,wall,simprocAttr,h0,h3,h4,hd,hg,fc,hc,hl,h46]
        exact jg ⟨j+1,by omega,true,h0,rfl,ij (by omega),by omega,by rw[<- hn,lv,hl,if_neg (by decide),if_neg (by decide),if_pos (by simpa using h46)]⟩
      ·simp only[↓fm,wall,simprocAttr,h0,h3,h4,hd,hg,fc,hc,hl]
       exact tw (by rw[isName,<- hn,lv,hl];rfl)
     ·cases b<;>cases h46:((c.toNat:Int)==46)
      all_goals
       simp only[↓fm,wall,simprocAttr,h0,h3,h4,hd,hg,fc,hc,hl,h46]
       first
        | exact jg ⟨j+1,by omega,false,h0,rfl,ij (by omega),by omega,by rw[<- hn,lv];simp[hl]⟩
        | exact jg ⟨j+1,by omega,false,h0,h3,ij (by omega),by omega,by rw[<- hn,lv];simp[hl]⟩
        | (simp at h46;rw[h46]at hl;exact absurd hl (by decide))
    ·have hd:decide ((j:Int)<s.size)=false:=by simpa using hge
     rw[bt (by rw[qy];omega)]at hn
     cases b
     all_goals
      simp only[↓fm,wall,simprocAttr,h0,h3,h4,hd]
      refine tw ?_
      rw[isName,<- hn,lv]
      simp at h64 ⊢
      try omega
   ·exact⟨true,rfl,rfl,rfl,dk _,rfl⟩
  ·simp only[pf64,↓fm,wall,simprocAttr,he,h64]
   refine tw ?_
   simp at h64
   simp[isName];omega
 ·rw[h0]at he
  simp only[pf64,↓fm,wall,simprocAttr,he]
  refine tw ?_
  simp at h0
  rw[isName,c9 (l:=s.toList) (by rw[qy,h0];rfl)]
  rfl
end Go.Proofs.Eng
namespace Go.Proofs.Eng
open Go Go.Proofs
set_option maxRecDepth 100000
abbrev Gl:=ByteArray × Ex
def a6x (g:Gl) (a:AV):Prop:=∃c,a = .agg (.str g.1::c)/\g.1.size<=jj/\g.2.Is (.agg c)
structure Pr where
 gs:List Gl
 main:Ex
def Pr.Is (p:Pr) (a:AV):Prop:=∃gas tg c,a = .agg (.sl gas tg::c)/\tg.pure=true/\gas.length<=jj/\LIs a6x p.gs gas/\p.main.Is (.agg c)/\c.length=5/\c.take 5=c/\c.all ic=true/\gi c=true/\gi gas=true/\(gas.all λx=>x.cells.length==6)=true
def a1k:List Gl->ByteArray->Option Ex
 | [],_=>none
 | g::gs,n=>if g.1=n then some g.2 else a1k gs n
mutual
def Ex.err (gl:ByteArray->Bool):Int->Ex->Int
 | v,.mk k i n s kids=>if fmB k i n s kids.length=false then 3 else if Ha k=true/\isName n=false then 29 else if k=0/\decide (i>=v)=true then 24 else if k=5/\gl n=false then 9 else Q1 gl k s v 0 kids
def Q1 (gl:ByteArray->Bool) (k:Int) (s:List Int) (v:Int):Nat->List Ex->Int
 | _,[]=>0
 | j,e::es=>if Ex.err gl (w64 (v+under k s j)) e=0 then Q1 gl k s v (j+1) es else Ex.err gl (w64 (v+under k s j)) e
end
abbrev Pr.gl (p:Pr) (n:ByteArray):Bool:=(a1k p.gs n).isSome
end Go.Proofs.Eng
namespace Go.Proofs.Eng
open Go Go.Proofs
set_option maxRecDepth 100000
def Ex.whole (gl:ByteArray->Bool) (e:Ex):Int:=if (e.err gl 0 != 0)=true then e.err gl 0 else if decide (e.size>4096)=true then 5 else if decide (e.deep>200)=true then 7 else 0
def Pr.go (p:Pr):List Gl->List Gl->Int
 | _,[]=>p.main.whole p.gl
 | prev,g::gs=>if isName g.1=false then 29 else if (prev.any λx=>decide (x.1=g.1))=true then 8 else if (g.2.whole p.gl != 0)=true then g.2.whole p.gl else p.go (prev++[g]) gs
def Pr.check (p:Pr):Int:=if decide ((p.gs.length:Int)>1000)=true then 6 else p.go [] p.gs
end Go.Proofs.Eng
namespace Go.Proofs.Eng
open Go Go.Proofs
set_option maxRecDepth 100000
def wr (c:Int):AV:=.iface 182 (.agg [.int c])
def xi (es:List (AV × AV)) (gl:ByteArray->Bool):Prop:=∀n,n9 (.sc true) (.str n) es=some (if gl n then some (.bool true)else none)
end Go.Proofs.Eng
namespace Go.Proofs.Eng
open Go Go.Proofs
set_option maxRecDepth 100000
end Go.Proofs.Eng
namespace Go.Proofs.Eng
open Go Go.Proofs
set_option maxRecDepth 100000
theorem Ni (n:ByteArray) (x:AV):∀es:List (AV × AV),n9 (.sc true) (.str n) es ≠ none -> ∃es',upA (.sc true) (.str n) x es=some es' /\ ∀m,n9 (.sc true) (.str m) es'=if m=n then some (some x)else n9 (.sc true) (.str m) es
 | [],_=>⟨[(.str n,x)],rfl,λm=>by
   simp only[n9,n7,x7,ir]
   by_cases h:m=n<;>simp[h]⟩
 | (k',y)::es,h=>by
  cases hk:n7 (.sc true) (.str n) k' with
  | none=>rw[n9,hk]at h;exact absurd rfl h
  | some b=>
   have hk':∃a,k' = .str a:=by
    cases k' with
    | v z=>cases z with
     | string a=>exact⟨a,rfl⟩
     | _=>simp[n7,x7]at hk
    | _=>simp[n7,x7]at hk
   obtain⟨a,rfl⟩:=hk'
   simp only[n7,x7,ir,fe]at hk
   subst hk
   by_cases ha:n=a
   ·subst ha
    refine⟨(.str n,x)::es,by simp[upA,n7,x7,ir],λm => ?_⟩
    simp only[n9,n7,x7,ir]
    by_cases h:m=n<;>simp[h]
   ·simp only[n9,n7,x7,ir,ha,decide_false]at h
    obtain⟨es',h1,h2⟩:=Ni n x es h
    refine⟨(.str a,y)::es',by simp[upA,n7,x7,ir,ha,h1],λm => ?_⟩
    simp only[n9,n7,x7,ir,h2]
    by_cases h:m=a
    ·subst h;simp[Ne.symm ha]
    ·simp[h]
theorem xi.up {es:List (AV × AV)} {gl:ByteArray->Bool} (h:xi es gl) (n:ByteArray):∃es',upA (.sc true) (.str n) (.v (.bool true)) es=some es'/\xi es' λm=>gl m||decide (m=n):=by
 obtain⟨es',h1,h2⟩:=Ni n (.v (.bool true)) es (by rw[h n];simp)
 refine⟨es',h1,λm => ?_⟩
 rw[h2 m,h m]
 by_cases hm:m=n<;>simp[hm]
theorem xi.nil:xi [] λ_=>false:=λn=>by simp[n9]
theorem xi.congr {es:List (AV × AV)} {gl gl':ByteArray->Bool} (h:xi es gl) (e:∀n,gl n=gl' n):xi es gl':=λn=>by rw[h n,e n]
end Go.Proofs.Eng
namespace Go.Proofs.Eng
open Go Go.Proofs
theorem Sg {k i:Int} {n:ByteArray} {s:List Int} {l:Nat} (h:fmB k i n s l=true) :
  0<=k/\k<12/\0<=i/\s.length<=32/\l<=4096/\(∀x ∈ s,0<=x/\x<=64) /\
  (k=0->l=0/\s=[]/\n.size=0)/\(k=4->l=s.length+1)/\((k=2\/k=7\/k=8)->l=2)/\((k=1\/k=9\/k=10)->l=1)/\(k=3->i<32):=by
 simp only[fmB,dy,decide_eq_true_eq]at h
 obtain⟨⟨⟨⟨⟨h0,h1⟩,h2⟩,h3⟩,h4⟩,h5⟩:=h
 unfold a34 at h5
 by_cases k3:k=3
 ·rw[if_pos k3]at h5
  simp[a14]at h5
  obtain⟨⟨rfl,h6⟩,h7⟩:=h5
  refine⟨h0,h1,h2,by simp,by omega,by simp, ?_, ?_, ?_, ?_, ?_⟩<;>(intro;omega)
 ·rw[if_neg k3]at h5
  by_cases k4:k=4
  ·rw[if_pos k4]at h5
   simp only[a1a,dy,decide_eq_true_eq,beq_iff_eq,Bool.not_eq_true',List.any_eq_false]at h5
   obtain⟨⟨h6,h7⟩,h8⟩:=h5
   refine⟨h0,h1,h2,h6,by omega, ?_, ?_, ?_, ?_, ?_, ?_⟩
   ·intro x hx
    have:=h8 x hx
    simp[O6]at this
    omega
   all_goals (intro;omega)
  ·rw[if_neg k4]at h5
   simp[U7]at h5
   obtain⟨h6,rfl⟩:=h5
   have hk:kn k=(if k=1\/k=9\/k=10 then 1 else if k=2\/k=7\/k=8 then 2 else 0):=rfl
   have hl:l<=4096:=by
    split at hk
    ·omega
    ·split at hk<;>omega
   refine⟨h0,h1,h2,by simp,hl,by simp, ?_, ?_, ?_, ?_, ?_⟩
   ·intro h
    refine⟨?_,rfl, ?_⟩
    ·rw[hk,if_neg (by omega),if_neg (by omega)]at h6;omega
    ·subst h;simpa[Ha]using h3
   ·intro;omega
   ·intro h;rw[hk,if_neg (by omega),if_pos h]at h6;omega
   ·intro h;rw[hk,if_pos h]at h6;omega
   ·intro;omega
mutual
def Ex.wf:Ex->Prop
 | .mk k i n s kids=>fmB k i n s kids.length=true/\wfL kids
def wfL:List Ex->Prop
 | []=>True
 | e::es=>e.wf/\wfL es
end
mutual
def Ex.dep:Ex->Nat
 | .mk _ _ _ _ kids=>a0w kids+1
def a0w:List Ex->Nat
 | []=>0
 | e::es=>max e.dep (a0w es)
end
end Go.Proofs.Eng
