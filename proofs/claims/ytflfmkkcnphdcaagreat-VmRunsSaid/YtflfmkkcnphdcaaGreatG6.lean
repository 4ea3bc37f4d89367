/- The engine, twenty-first part: the head of such a region. No conditions. -/
import Derived.Test.YtflfmkkcnphdcaaGreatG3
import Derived.Test.YtflfmkkcnphdcaaGreatG2
import Derived.Deep.WholeRow
set_option linter.all false
set_option linter.deprecated false
set_option linter.unnecessarySimpa false
set_option linter.unusedVariables false
set_option linter.unusedSimpArgs false
set_option linter.defProp false
namespace Go.Proofs.Eng
open Go.RowKit
variable [DrK]
def Sn:PO->fq
 | .alloc l=>.cells false l
 | _=>.map []
def valOf:PO->Nat->AV
 | .alloc _,i=>.ptr i 0
 | _,i=>.mp i
section
variable {P:Program} {call:ia} {md:FuncId->Md} {bsf:Bf}
theorem G5 {i:PI} {tm:List AV} {s s':ASt} {x:AV ⊕ AV} (hk:i.op.kd = .A) (hg:i.g=none) (h:jl call md i tm s=some (x,s')):x = .inl (valOf i.op s.H.length)/\s' = {s with H:=s.H++[Sn i.op]}:=by
 unfold jl at h
 rw[hg]at h
 simp only[iu]at h
 cases hop:i.op with
 | alloc l=>
  rw[hop]at h
  simp only[opA,fe,ff]at h
  exact⟨h.1.symm,h.2.symm⟩
 | sm=>
  rw[hop]at h
  simp only[opA,fe,ff]at h
  exact⟨h.1.symm,h.2.symm⟩
 | app es bs x y=>rw[hop]at hk;cases bs<;>simp[PO.kd]at hk
 | _=>rw[hop]at hk;simp[PO.kd]at hk
theorem Q8 {op:Op} {n:Nat} {x y:X} (h:gv P bsf op=some (.store n x y)):∃p,gh p=some x:=by
 cases op
 case makeFunc fn first caps=>cases fn<;>simp only[gv]at h<;>((repeat' (split at h))<;>first|(simp at h;done)|(obtain⟨_,_,e⟩:=fp h;cases e))
 case makeMap t r=>cases r<;>simp only[gv]at h<;>((repeat' (split at h))<;>first|(simp at h;done)|(obtain⟨_,_,e⟩:=fp h;cases e))
 all_goals simp only[gv]at h
 case store t p v=>
  split at h
  ·rename_i n' x' y' hT hx hy
   simp only[fe,PO.store.injEq]at h
   exact⟨p,by rw[hx,h.2.1]⟩
  ·simp at h
 case call c=>
  obtain⟨callee,args,ts⟩:=c
  cases callee with
  | value f=>
   simp only at h
   split at h
   ·(repeat' (split at h))<;>(obtain⟨y,_,e⟩:=fp h;cases e)
   ·split at h<;>simp at h
  | invoke r m=>simp at h
  | builtin b=>
   simp only at h
   split at h<;>(repeat' (split at h))<;>first|(simp at h;done)|(obtain⟨_,_,e⟩:=fp h;cases e)
 case «defer» c=>
  obtain⟨callee,args,ts⟩:=c
  cases callee<;>simp only at h<;>try (simp at h;done)
  split at h<;>simp at h
 all_goals (repeat' (split at h))<;>first|(simp at h;done)|(obtain⟨_,_,e⟩:=fp h;cases e)
theorem Pj {op:Op} {st:KK} {m k y:X} (h:gv P bsf op=some (.sk st m k y)):∃p,gh p=some m:=by
 cases op
 case makeFunc fn first caps=>cases fn<;>simp only[gv]at h<;>((repeat' (split at h))<;>first|(simp at h;done)|(obtain⟨_,_,e⟩:=fp h;cases e))
 case makeMap t r=>cases r<;>simp only[gv]at h<;>((repeat' (split at h))<;>first|(simp at h;done)|(obtain⟨_,_,e⟩:=fp h;cases e))
 all_goals simp only[gv]at h
 case mapUpdate t m' k' v=>
  split at h
  ·rename_i kt e mm kk xx hT hm hk hx
   split at h
   ·simp only[fe,PO.sk.injEq]at h;exact⟨m',by rw[hm,h.2.1]⟩
   ·simp only[fe,PO.sk.injEq]at h;exact⟨m',by rw[hm,h.2.1]⟩
   ·split at h
    ·split at h
     ·simp at h
     ·simp only[fe,PO.sk.injEq]at h;exact⟨m',by rw[hm,h.2.1]⟩
    ·simp at h
   ·simp at h
  ·simp at h
 case call c=>
  obtain⟨callee,args,ts⟩:=c
  cases callee with
  | value f=>
   simp only at h
   split at h
   ·(repeat' (split at h))<;>(obtain⟨y,_,e⟩:=fp h;cases e)
   ·split at h<;>simp at h
  | invoke r m=>simp at h
  | builtin b=>
   simp only at h
   split at h<;>(repeat' (split at h))<;>first|(simp at h;done)|(obtain⟨_,_,e⟩:=fp h;cases e)
 case «defer» c=>
  obtain⟨callee,args,ts⟩:=c
  cases callee<;>simp only at h<;>try (simp at h;done)
  split at h<;>simp at h
 all_goals (repeat' (split at h))<;>first|(simp at h;done)|(obtain⟨_,_,e⟩:=fp h;cases e)
theorem Gd {op:Op} {l:List AV} (h:gv P bsf op=some (.alloc l)):∃t z,op = .alloc t/\uh P t=some z/\l=z.cells:=by
 cases op
 case makeFunc fn first caps=>cases fn<;>simp only[gv]at h<;>((repeat' (split at h))<;>first|(simp at h;done)|(obtain⟨_,_,e⟩:=fp h;cases e))
 case makeMap t r=>cases r<;>simp only[gv]at h<;>((repeat' (split at h))<;>first|(simp at h;done)|(obtain⟨_,_,e⟩:=fp h;cases e))
 all_goals simp only[gv]at h
 case alloc t=>
  obtain⟨z,hz,e⟩:=fp h
  cases e
  exact⟨t,z,rfl,hz,rfl⟩
 case call c=>
  obtain⟨callee,args,ts⟩:=c
  cases callee with
  | value f=>
   simp only at h
   split at h
   ·(repeat' (split at h))<;>(obtain⟨y,_,e⟩:=fp h;cases e)
   ·split at h<;>simp at h
  | invoke r m=>simp at h
  | builtin b=>
   simp only at h
   split at h<;>(repeat' (split at h))<;>first|(simp at h;done)|(obtain⟨_,_,e⟩:=fp h;cases e)
 case «defer» c=>
  obtain⟨callee,args,ts⟩:=c
  cases callee<;>simp only at h<;>try (simp at h;done)
  split at h<;>simp at h
 all_goals (repeat' (split at h))<;>first|(simp at h;done)|(obtain⟨_,_,e⟩:=fp h;cases e)
theorem G8 {op:Op} (h:gv P bsf op=some .sm):∃t,op = .makeMap t none:=by
 cases op
 case makeFunc fn first caps=>cases fn<;>simp only[gv]at h<;>((repeat' (split at h))<;>first|(simp at h;done)|(obtain⟨_,_,e⟩:=fp h;cases e))
 case makeMap t r=>cases r<;>simp only[gv]at h<;>first|exact⟨t,rfl⟩|(simp at h;done)
 all_goals simp only[gv]at h
 case call c=>
  obtain⟨callee,args,ts⟩:=c
  cases callee with
  | value f=>
   simp only at h
   split at h
   ·(repeat' (split at h))<;>(obtain⟨y,_,e⟩:=fp h;cases e)
   ·split at h<;>simp at h
  | invoke r m=>simp at h
  | builtin b=>
   simp only at h
   split at h<;>(repeat' (split at h))<;>first|(simp at h;done)|(obtain⟨_,_,e⟩:=fp h;cases e)
 case «defer» c=>
  obtain⟨callee,args,ts⟩:=c
  cases callee<;>simp only at h<;>try (simp at h;done)
  split at h<;>simp at h
 all_goals (repeat' (split at h))<;>first|(simp at h;done)|(obtain⟨_,_,e⟩:=fp h;cases e)
theorem Qf {i:PI} {tm:List AV} {s s':ASt} {x:AV} {g:Gh} {w:World} {a:Act} {op:Op} (hp:gv P bsf op=some i.op) (hA:i.op.kd ≠ .A) (hX:i.op.kd ≠ .X) (h:jl call md i tm s=some (.inl x,s')) (ht:ga g s w tm a.tmps.toList) {idx:Nat} (hm:g.mu idx=none):s'.H[idx]? = s.H[idx]? := by
 by_cases hW:i.op.kd = .W
 ·unfold jl at h
  split at h
  ·simp only[fe,ff]at h;rw[<- h.2]
  ·cases hop:i.op with
   | store n p y=>
    rw[hop]at h hp
    obtain⟨p0,hp0⟩:=Q8 hp
    simp only[opA]at h
    split at h
    ·rename_i v1 s1 heq
     simp only[fe,ff]at h
     obtain⟨_,rfl⟩:=h
     split at heq
     ·rename_i pv xv e1 e2
      obtain⟨q,hq,e⟩:=fp heq
      cases e
      unfold uo at hq
      split at hq
      ·rename_i j off
       obtain⟨b,hb,_⟩:=(fx hp0 e1 ht).mj
       split at hq
       ·split at hq
        ·simp only[fe]at hq;subst hq
         simp only
         rw[b9,if_neg (by rintro rfl;rw[hm]at hb;cases hb)]
        ·simp at hq
       ·simp at hq
      ·simp at hq
     ·simp at heq
    ·rename_i heq;split at heq<;>first|(simp at heq;done)|(obtain⟨_,_,e⟩:=fp heq;cases e)
    ·rename_i heq;split at heq<;>first|(simp at heq;done)|(obtain⟨_,_,e⟩:=fp heq;cases e)
    ·simp at h
   | sk st m k y=>
    rw[hop]at h hp
    obtain⟨p0,hp0⟩:=Pj hp
    simp only[opA]at h
    split at h
    ·rename_i v1 s1 heq
     simp only[fe,ff]at h
     obtain⟨_,rfl⟩:=h
     split at heq
     ·rename_i j kv xv e1 e2 e3
      obtain⟨b,hb,_⟩:=(fx hp0 e1 ht).M8
      split at heq
      ·split at heq
       ·split at heq
        ·obtain⟨q,hq,e⟩:=fp heq
         cases e
         simp only
         rw[b9,if_neg (by rintro rfl;rw[hm]at hb;cases hb)]
        ·simp at heq
       ·simp at heq
      ·simp at heq
     ·simp at heq
    ·rename_i heq;(repeat' (split at heq))<;>first|(simp at heq;done)|(obtain⟨_,_,e⟩:=fp heq;cases e)
    ·rename_i heq;(repeat' (split at heq))<;>first|(simp at heq;done)|(obtain⟨_,_,e⟩:=fp heq;cases e)
    ·simp at h
   | app es bs x y=>rw[hop]at hW;cases bs<;>simp[PO.kd]at hW
   | _=>rw[hop]at hW;simp[PO.kd]at hW
  ·simp at h
 ·rw[(yd hA hX h).1 hW]
theorem A2:∀(l:List PI) (tm:List AV) (d:Nat),(kq l tm)[d]? = tm[d]? /\ (∀i ∈ l,i.dst ≠ some d)\/(kq l tm)[d]? = some .unk\/(kq l tm)[d]? = none/\tm[d]? = none
 | [],tm,d=>.inl ⟨rfl,by simp⟩
 | i::l,tm,d=>by
  have ih:=A2 l (put tm i.dst .unk) d
  have e:kq (i::l) tm=kq l (put tm i.dst .unk):=rfl
  rw[e]
  by_cases hd:i.dst=some d
  ·rcases ih with⟨h1,h2⟩|h1|⟨h1,h2⟩
   ·rw[h1,hd,lz]
    split
    ·exact .inr (.inl rfl)
    ·rename_i hlt;exact .inr (.inr ⟨rfl,cx (by omega)⟩)
   ·exact .inr (.inl h1)
   ·rw[hd,lz]at h2
    split at h2
    ·cases h2
    ·rename_i hlt;exact .inr (.inr ⟨h1,cx (by omega)⟩)
  ·rw[l9 hd]at ih
   rcases ih with⟨h1,h2⟩|h1|h1
   ·exact .inl ⟨h1,λj hj=>by
     rcases List.mem_cons.1 hj with rfl|hj
     ·exact hd
     ·exact h2 j hj⟩
   ·exact .inr (.inl h1)
   ·exact .inr (.inr h1)
theorem ur:∀(l:List PI) (tm:List AV),(kq l tm).length=tm.length
 | [],_=>rfl
 | i::l,tm=>by
  have:kq (i::l) tm=kq l (put tm i.dst .unk):=rfl
  rw[this,ur l,zz]
theorem count_set {p:Nat->Bool} {i:Nat} (hp:p i=false):∀(N:Nat),List.countP (λj=>p j||j==i) (List.range N)=List.countP p (List.range N)+(if i<N then 1 else 0)
 | 0=>by simp
 | N+1=>by
  rw[List.range_succ,List.countP_append,List.countP_append,count_set hp N]
  simp only[List.countP_cons,List.countP_nil]
  by_cases h:N=i
  ·subst h;simp[hp]
  ·by_cases h2:i<N
   ·simp[h,h2,show i<N+1 by omega];omega
   ·simp[h,h2,show ¬i<N+1 by omega]
theorem u7 {p:Nat->Bool} {n:Nat}:∀(N:Nat),n<=N->(∀j,j<N->(p j=true ↔ j<n))->List.countP p (List.range N)=n
 | 0,h,_=>by simp;omega
 | N+1,h,hp=>by
  rw[List.range_succ,List.countP_append]
  simp only[List.countP_cons,List.countP_nil]
  by_cases hn:n=N+1
  ·subst hn
   have h1:List.countP p (List.range N)=N:=by
    have:List.countP p (List.range N)=(List.range N).length:=List.countP_eq_length.2 λj hj=>(hp j (by have:=List.mem_range.1 hj;omega)).2 (by have:=List.mem_range.1 hj;omega)
    simpa using this
   rw[h1,(hp N (by omega)).2 (by omega)]
   simp
  ·rw[u7 N (by omega) λj hj=>hp j (by omega)]
   have:p N=false:=by
    cases h:p N with
    | false=>rfl
    | true=>have:=(hp N (by omega)).1 h;omega
   simp[this]
end
end Go.Proofs.Eng
namespace Go.Proofs.Eng
open Go.RowKit
variable [DrK]
section
variable {P:Program} {call:ia} {md:FuncId->Md} {bsf:Bf} {ops:Array Oper} {ps:List PI} {m n:Nat}
structure N5 (P:Program) (call:ia) (md:FuncId->Md) (ops:Array Oper) (ps:List PI) (m n:Nat) (st st':St) (ex:gg) (E:List PI) (S:Nat->St) (v:Nat->AV) (c:Nat) (pan:Option (PI × AV × Nat)):Prop where
 run:Bt call md E S v
 h0:S 0=st
 hoi:wh E c
 mem:∀(k:Nat) (i:PI),E[k]? = some i->m<=i.ix/\i.ix<n/\ps[i.ix]? = some i
 inj:∀(j k:Nat) (i r:PI),E[j]? = some i->E[k]? = some r->i.ix=r.ix->j=k
 ord:∀(j k:Nat) (i r:PI),E[j]? = some i->E[k]? = some r->i.op.kd ≠ .A->r.op.kd ≠ .A->i.ix<r.ix->j<k
 all:∀(i:Nat),m<=i->i<n->(∀p x q,pan=some (p,x,q)->i ≠ p.ix /\ ∀r:PI,ps[i]? = some r->p.ix ∉ r.pre) -> ∃(k:Nat) (r:PI),E[k]? = some r/\r.ix=i
 at':∀(p:PI) (x:AV) (q:Nat),pan=some (p,x,q)->ps[p.ix]? = some p/\m<=p.ix/\p.ix<n/\(p.op.kd = .S\/p.op.kd = .C)/\c<=q/\q<=E.length/\(∃s',jl call md p (S q).tm (S q).s=some (.inr x,s')) /\
  (∀(j:Nat) (r:PI),E[j]? = some r->r.op.kd ≠ .A->(j<q ↔ r.ix<p.ix))/\(∀(j:Nat) (r:PI),E[j]? = some r->r.op.kd = .W\/r.op.kd = .T->if r.ix<p.ix then r.ix ∈ p.pre else p.ix ∈ r.pre) /\
  ex = .pan x/\st'.s=(S q).s/\st'.df=st.df/\st'.tm.length=st.tm.length/\(∀d,st'.tm[d]? = st.tm[d]? /\ (∀(j:Nat) (r:PI),E[j]? = some r->r.dst ≠ some d)\/st'.tm[d]? = some .unk\/st'.tm[d]? = none)
def jz (E:List PI) (listed:Array Bool) (j:Nat):Bool:=
 match E[j]? with
 | some r=>listed.getD r.ix false
 | none=>false
theorem uk {o:Oper} {i:Nat} {a:Act} {w:World} {K:Act->World->Prop} {Q:Exit->Act->World->Prop} (ho:ops[i]? = some o) (h:if Region.wanted o (yielded ops a.tmps)=true then o.wp P a w K Q else K (a.put o.dst undef) w):wpOp P ops Q i K a w:=by
 unfold wpOp
 simp only[ho]
 split
 ·rename_i hwt;rw[if_pos hwt]at h;exact .inl h
 ·rename_i hwt;rw[if_neg hwt]at h;exact h
theorem Th {E:List PI} {listed:Array Bool} {k:Nat} {r:PI} (hr:E[k]? = some r) (hinj:∀(j k:Nat) (i r:PI),E[j]? = some i->E[k]? = some r->i.ix=r.ix->j=k) (hlt:r.ix<listed.size):jz E (listed.setIfInBounds r.ix true) = λj=>jz E listed j||j==k:=by
 funext j
 unfold jz
 cases hj:E[j]? with
 | none=>
  have:j ≠ k:=by rintro rfl;rw[hr]at hj;cases hj
  simp[this]
 | some i=>
  simp only
  by_cases e:j=k
  ·subst e
   rw[hr]at hj;cases hj
   simp[hlt]
  ·have hne:r.ix ≠ i.ix:=λh=>e (hinj j k i r hj hr h.symm)
   rw[getD_set_ne false hne]
   simp[e]
theorem wa (E:List PI) (v:Nat->AV) (tm0:List AV):∀n,ox E v tm0 (λ_=>false) n=tm0
 | 0=>rfl
 | n+1=>by
  simp only[ox]
  split
  ·simp[wa E v tm0 n]
  ·exact wa E v tm0 n
theorem vh (E:List PI) (S:Nat->St) (H0:List fq):∀n,hOf E S H0 (λ_=>false) n=H0
 | 0=>rfl
 | n+1=>by
  simp only[hOf]
  split
  ·simp[vh E S H0 n]
  ·exact vh E S H0 n
theorem yk (E:List PI) (S:Nat->St) (T0:List Nat):∀n,tOf E S T0 (λ_=>false) n=T0
 | 0=>rfl
 | n+1=>by
  simp only[tOf]
  split
  ·simp[yk E S T0 n]
  ·exact yk E S T0 n
theorem Sj {E:List PI} {v:Nat->AV} {tm0:List AV} {Lk:Nat->Bool} {k:Nat} {i:PI} (hi:E[k]? = some i) (hdst:∀(d:Nat),i.dst=some d -> ∀(j:Nat) (q:PI),E[j]? = some q->q.dst=some d->j=k) :
  ox E v tm0 (λj=>Lk j||j==k) E.length=put (ox E v tm0 Lk E.length) i.dst (v k):=by
 have hkl:k<E.length:=(List.getElem?_eq_some_iff.1 hi).1
 apply List.ext_getElem?
 intro d
 by_cases hd:i.dst=some d
 ·rw[hd,lz,nq]
  have key:∀n,k<n->n<=E.length->(ox E v tm0 (λj=>Lk j||j==k) n)[d]? = if d<tm0.length then some (v k)else none:=by
   intro n
   induction n with
   | zero=>intro h;omega
   | succ n ih=>
    intro h1 h2
    have hE:E[n]? = some E[n]:=aa (by omega)
    simp only[ox,hE]
    by_cases e:n=k
    ·subst e
     rw[hi]at hE;cases hE
     simp only[beq_self_eq_true,Bool.or_true,if_true]
     rw[hd,lz,nq]
    ·have hne:E[n].dst ≠ some d:=λh=>e (hdst d hd n _ hE h)
     split
     ·rw[l9 hne];exact ih (by omega) (by omega)
     ·exact ih (by omega) (by omega)
  exact key E.length hkl (di _)
 ·rw[l9 hd]
  refine ot d _ λj q _ hj hqd => ?_
  by_cases e:j=k
  ·subst e;rw[hi]at hj;cases hj;exact absurd hqd hd
  ·simp[e]
theorem V7 (hS:Sound P call) (hF:jo P bsf ops ps) (hG:l6 ops ps m n) {st st':St} {ex:gg} {E:List PI} {S:Nat->St} {v:Nat->AV} {c:Nat} {pan:Option (PI × AV × Nat)} (hH:N5 P call md ops ps m n st st' ex E S v c pan) {g0:Gh} {w0:World} {Q:Exit->Act->World->Prop} (hQ:∀r,pan=some r->QOK g0 st.s w0 ex st' Q)
  (hA:∀k i,k<c->E[k]? = some i->v k=valOf i.op (st.s.H.length+k))
  (hnext:pan=none -> ∀(fuel:Nat) (listed:Array Bool) (a:Act) (g:Gh) (w:World),fuel+n=ops.size->listed.size=ops.size->ll ops listed->(∀j,j<n->listed.getD j false=true)->(∀j,n<=j->listed.getD j false=false)->jv g w (S E.length) a->Ext g0 st.s w0 g (S E.length).s w->wpAny P .any ops Q fuel listed a w) :
  ∀(fuel:Nat) (listed:Array Bool) (a:Act) (g:Gh) (w:World),listed.size=ops.size->fuel+List.countP (λj=>listed.getD j false) (List.range ops.size)=ops.size->ll ops listed->(∀j,j<m->listed.getD j false=true)->(∀j,n<=j->listed.getD j false=false)->(∀p x q,pan=some (p,x,q)->listed.getD p.ix false=false) ->
   jv g w ⟨ox E v st.tm (jz E listed) E.length,st.df,⟨hOf E S (S c).s.H (jz E listed) E.length,tOf E S (S c).s.T (jz E listed) E.length⟩⟩ a ->
   Ext g0 st.s w0 g ⟨hOf E S (S c).s.H (jz E listed) E.length,tOf E S (S c).s.T (jz E listed) E.length⟩ w ->
   (∀k i,k<c->E[k]? = some i->jz E listed k=false->g.mu (st.s.H.length+k)=none/\(hOf E S (S c).s.H (jz E listed) E.length)[st.s.H.length+k]? = some (Sn i.op)) ->
   wpAny P .any ops Q fuel listed a w:=by
 have hdf:∀k,k<=E.length->(S k).df=st.df:=by
  intro k
  induction k with
  | zero=>intro _;rw[hH.h0]
  | succ k ih=>
   intro hk
   have hE:E[k]? = some E[k]:=aa (by omega)
   rw[hH.run.df k _ hE,ih (by omega)]
 have hcl:=hH.hoi.le
 have done:∀(fuel:Nat) (listed:Array Bool) (a:Act) (g:Gh) (w:World),listed.size=ops.size->fuel+List.countP (λj=>listed.getD j false) (List.range ops.size)=ops.size->ll ops listed->(∀j,n<=j->listed.getD j false=false)->(∀p x q,pan=some (p,x,q)->listed.getD p.ix false=false) ->
   jv g w ⟨ox E v st.tm (jz E listed) E.length,st.df,⟨hOf E S (S c).s.H (jz E listed) E.length,tOf E S (S c).s.T (jz E listed) E.length⟩⟩ a ->
   Ext g0 st.s w0 g ⟨hOf E S (S c).s.H (jz E listed) E.length,tOf E S (S c).s.T (jz E listed) E.length⟩ w->(∀j,j<n->listed.getD j false=true)->wpAny P .any ops Q fuel listed a w:=by
  intro fuel listed a g w hsz hcount hC htail hpan hR hE hd
  have hnone:pan=none:=by
   cases hpn:pan with
   | none=>rfl
   | some r=>
    obtain⟨p,x,q⟩:=r
    have h1:=hpan p x q hpn
    have h2:=hd p.ix (hH.at' p x q hpn).2.2.1
    rw[h1]at h2;cases h2
  have hLk:∀j,j<E.length->jz E listed j=decide (j<E.length):=by
   intro j hj
   have hEj:E[j]? = some E[j]:=aa hj
   unfold jz
   rw[hEj]
   simp only[hd _ (hH.mem j _ hEj).2.1,hj,decide_true]
  have e1:ox E v st.tm (jz E listed) E.length=(S E.length).tm:=by
   have h1:=Ab hH.run (by rw[hH.h0]) E.length E.length (di _)
   rw[Nat.min_self]at h1
   rw[h1]
   apply List.ext_getElem?
   intro d
   exact ot d _ λj i hj _ _=>hLk j hj
  have e2:hOf E S (S c).s.H (jz E listed) E.length=(S E.length).s.H:=by
   have h1:=Ar hH.run hH.hoi rfl E.length hcl E.length (di _)
   rw[Nat.min_self,Nat.max_eq_right hcl]at h1
   rw[h1]
   exact qp _ λj i hj _ _=>hLk j hj
  have e3:tOf E S (S c).s.T (jz E listed) E.length=(S E.length).s.T:=by
   have h1:=B9 hH.run hH.hoi rfl E.length hcl E.length (di _)
   rw[Nat.min_self,Nat.max_eq_right hcl]at h1
   rw[h1]
   exact qv _ λj i hj _ _=>hLk j hj
  rw[e2,e3]at hE
  rw[e1,e2,e3,<- hdf E.length (di _)]at hR
  have hl:∀j,j<ops.size->(listed.getD j false=true ↔ j<n):=by
   intro j _
   constructor
   ·intro h
    rcases dj j n with h1|h1
    ·exact h1
    ·rw[htail j h1]at h;cases h
   ·exact λh=>hd j h
  rw[u7 (n:=n) ops.size hG.le hl]at hcount
  exact hnext hnone fuel listed a g w hcount hsz hC hd htail hR hE
 intro fuel
 induction fuel with
 | zero=>
  intro listed a g w hsz hcount hC hfst htail hpan hR hE hpend
  have hall:∀j,j<ops.size->listed.getD j false=true:=by
   have:List.countP (λj=>listed.getD j false) (List.range ops.size)=(List.range ops.size).length:=by simpa using hcount
   intro j hj
   exact List.countP_eq_length.1 this j (List.mem_range.2 hj)
  exact done 0 listed a g w hsz hcount hC htail hpan hR hE λj hj=>hall j (dq hj hG.le)
 | succ fuel ih=>
  intro listed a g w hsz hcount hC hfst htail hpan hR hE hpend
  by_cases hdone:∀j,j<n->listed.getD j false=true
  ·exact done _ listed a g w hsz hcount hC htail hpan hR hE hdone
  ·have hdone':∃j,j<n/\listed.getD j false=false:=by
    apply Classical.byContradiction
    intro h
    apply hdone
    intro j hj
    cases hl:listed.getD j false with
    | true=>rfl
    | false=>exact absurd ⟨j,hj,hl⟩ h
   obtain⟨j0,hj0,hl0⟩:=hdone'
   refine⟨λhnil => ?_,λi hi => ?_⟩
   ·obtain⟨j,_,hj⟩:=ph hF hsz j0 (dq hj0 hG.le) hl0
    rw[hnil]at hj;simp at hj
   ·have hiN:=re hi
    have hiu:=qb hsz hi
    have hin:i<n:=zu hG hC hfst htail hi hj0 hl0
    have hmi:m<=i:=by
     rcases dj i m with h|h
     ·have:=hfst i h
      rw[hiu]at this;cases this
     ·exact h
    have hips:i<ps.length:=by rw[hF.len];exact hiN
    have hp:ps[i]? = some ps[i]:=aa hips
    generalize hr:ps[i]=r at hp
    have hrix:r.ix=i:=hF.ix i r hp
    obtain⟨_,o,ho,hready⟩:=mem_ready.1 hi
    obtain⟨o',ho',q1,q2,q3⟩:=hF.Wm i r hp
    rw[dp,ho]at ho';cases ho'
    have oz:∀j ∈ r.pre,listed.getD j false=true/\j<i:=lf hF hC i r hp (λo' e ho' he hb=>by rw[ho]at ho';cases ho';exact hready e he hb)
    have hC':=w8 hC hi
    have hcnt:List.countP (λj=>(listed.setIfInBounds i true).getD j false) (List.range ops.size)=List.countP (λj=>listed.getD j false) (List.range ops.size)+1:=by
     have e:(λj=>(listed.setIfInBounds i true).getD j false) = λj=>listed.getD j false||j==i:=by
      funext j
      by_cases hj:j=i
      ·subst hj;simp[hsz,hiN]
      ·rw[getD_set_ne false (λe=>hj e.symm)];simp[hj]
     rw[e,count_set hiu,if_pos hiN]
    have htail':∀j,n<=j->(listed.setIfInBounds i true).getD j false=false:=λj hj=>by rw[getD_set_ne false (by omega)];exact htail j hj
    have hfst':∀j,j<m->(listed.setIfInBounds i true).getD j false=true:=λj hj=>by rw[getD_set_ne false (by omega)];exact hfst j hj
    refine uk ho ?_
    by_cases hpi:∃p x q,pan=some (p,x,q)/\p.ix=i
    ·obtain⟨p,x,q,hpn,hpix⟩:=hpi
     obtain⟨a1,a2m,a2,a3,a4,a5,⟨s1,a6⟩,a7,a8,a9,a10,a11,a12,a13⟩:=hH.at' p x q hpn
     have hpr:p=r:=by rw[hpix,hp]at a1;cases a1;rfl
     subst hpr
     obtain⟨hv1,hv2⟩:=a35 (Lk:=jz E listed) (H0:=(S c).s.H) (T0:=(S c).s.T) (tm0:=st.tm) hH.run hH.hoi rfl rfl (by rw[hH.h0]) a4 a5 a6 a3 (λd hd j i' hj hid=>by
       have hmj:=hH.mem j i' hj
       rcases (hG.dst p.ix i'.ix p i' d a2m a2 hmj.1 hmj.2.1 a1 hmj.2.2 hid).2 hd with hmem|⟨hw1,hw2,hw3,hw4⟩
       ·have hlj:=oz _ hmem
        have h1:jz E listed j=true:=by unfold jz;rw[hj];exact hlj.1
        rw[h1]
        symm
        rw[decide_eq_true_eq]
        by_cases hkA:i'.op.kd = .A
        ·have:j<c:=by
          rcases dj j c with h|h
          ·exact h
          ·exact absurd hkA (hH.hoi.rest j i' h hj).1
         omega
        ·exact(a7 j i' hj hkA).2 (by rw[hrix];exact hlj.2)
       ·have h1:jz E listed j=false:=by
         cases hl:jz E listed j with
         | false=>rfl
         | true=>
          have hl':listed.getD i'.ix false=true:=by unfold jz at hl;rw[hj]at hl;exact hl
          have:=(lf hF hC i'.ix i' hmj.2.2 (λo' e ho' he hb=>hC _ o' e hl' ho' he hb) _ hw4).1
          rw[hpan p x q hpn]at this;cases this
        rw[h1]
        symm
        rw[decide_eq_false_iff_not]
        intro hjq
        have:=(a7 j i' hj hw3).1 hjq
        omega)
      (λj i' hj hkd=>by
       have hmj:=hH.mem j i' hj
       have h8:=a8 j i' hj hkd
       have hkA:i'.op.kd ≠ .A:=by rcases hkd with h|h<;>rw[h]<;>simp
       by_cases hlt:i'.ix<p.ix
       ·rw[if_pos hlt]at h8
        have h1:jz E listed j=true:=by unfold jz;rw[hj];exact(oz _ h8).1
        rw[h1]
        symm
        rw[decide_eq_true_eq]
        exact(a7 j i' hj hkA).2 hlt
       ·rw[if_neg hlt]at h8
        have h1:jz E listed j=false:=by
         cases hl:jz E listed j with
         | false=>rfl
         | true=>
          have hl':listed.getD i'.ix false=true:=by unfold jz at hl;rw[hj]at hl;exact hl
          have:=(lf hF hC i'.ix i' hmj.2.2 (λo' e ho' he hb=>hC _ o' e hl' ho' he hb) _ h8).1
          rw[hpan p x q hpn]at this;cases this
        rw[h1]
        symm
        rw[decide_eq_false_iff_not]
        exact λh=>hlt ((a7 j i' hj hkA).1 h))
     obtain⟨st2,hst2,b1,b2,b3⟩:=Vx hv1 st.df
     refine o8 hS q1 q2 q3 hst2 hR (λe=>by cases e) λv' e g' a' w' u hE' hR' hu => ?_
     cases e
     refine hQ _ hpn g' a' w' _ ?_ ⟨?_, ?_, ?_⟩ ?_
     ·rw[a10,<- b1];exact hE.trans hE'
     ·rw[a10,<- b1];exact hR'.inv
     ·rw[a10,<- b1]
      refine⟨by rw[a12,<- hR'.tm.1,b2,nq],λd av cv h1 h2 => ?_⟩
      rcases a13 d with⟨h3,h4⟩|h3|h3
      ·rw[h3]at h1
       refine hR'.tm.2 d av cv ?_ h2
       rw[b2]
       have:=ot (E:=E) (v:=v) (tm0:=st.tm) (Lk:=jz E listed) (Lk':=λ_=>false) d E.length λj i' _ hj hid=>absurd hid (h4 j i' hj)
       rw[this,wa]
       exact h1
      ·rw[h3]at h1;cases h1;exact .unk _
      ·rw[h3]at h1;cases h1
     ·rw[a11,a10,<- b1,<- b3];exact hR'.df
     ·rw[a9];exact⟨u,rfl,by rw[a10,<- b1];exact hu⟩
    ·have hpan':∀p x q,pan=some (p,x,q)->(listed.setIfInBounds i true).getD p.ix false=false:=λp x q h=>by
      rw[getD_set_ne false (λe=>hpi ⟨p,x,q,h,e.symm⟩)];exact hpan p x q h
     obtain⟨k,r',hk,hk2⟩:=hH.all i hmi hin λp x q h=>⟨λe=>hpi ⟨p,x,q,h,e.symm⟩,λr'' hr'' hmem=>by
      rw[hp]at hr'';cases hr''
      have:=(oz p.ix hmem).1
      rw[hpan p x q h]at this;cases this⟩
     have hrr:r'=r:=by
      have:=(hH.mem k r' hk).2.2
      rw[hk2,hp]at this;cases this;rfl
     subst hrr
     have hLk:jz E listed k=false:=by unfold jz;rw[hk];simp only[hrix];exact hiu
     have hLset:=Th hk hH.inj (by rw[hrix,hsz];exact hiN:r'.ix<listed.size)
     rw[hrix]at hLset
     have hdst:∀(d:Nat),r'.dst=some d -> ∀(j:Nat) (q:PI),E[j]? = some q->q.dst=some d->j=k:=by
      intro d hd j q hj hqd
      have hmj:=hH.mem j q hj
      have:=(hG.dst i q.ix r' q d hmi hin hmj.1 hmj.2.1 hp hmj.2.2 hqd).1
      rcases this with h|h
      ·exact hH.inj j k q r' hj hk (by rw[<- h,hk2])
      ·exact absurd hd h
     have htmset:=Sj (v:=v) (tm0:=st.tm) (Lk:=jz E listed) hk hdst
     by_cases hkc:k<c
     ·obtain⟨hkA,hkg⟩:=hH.hoi.first k r' hkc hk
      obtain⟨p1,p2⟩:=hpend k r' hkc hk hLk
      have hvk:=hA k r' hkc hk
      have hHs:hOf E S (S c).s.H (λj=>jz E listed j||j==k) E.length=hOf E S (S c).s.H (jz E listed) E.length:=qp _ λj q _ hj hq=>by
       by_cases e:j=k
       ·subst e;rw[hk]at hj;cases hj;rw[hkA]at hq;cases hq
       ·simp[e]
      have hTs:tOf E S (S c).s.T (λj=>jz E listed j||j==k) E.length=tOf E S (S c).s.T (jz E listed) E.length:=qv _ λj q _ hj hq=>by
       by_cases e:j=k
       ·subst e;rw[hk]at hj;cases hj;rw[hkA]at hq;cases hq
       ·simp[e]
      have hal:AL P g ⟨hOf E S (S c).s.H (jz E listed) E.length,tOf E S (S c).s.T (jz E listed) E.length⟩ w a o (v k) (st.s.H.length+k):=by
       rw[hvk]
       cases hop:r'.op with
       | alloc l=>
        rw[hop]at q3 p2
        obtain⟨t,z,hot,hz,rfl⟩:=Gd q3
        exact Ht hot hz hR.inv p1 p2
       | sm=>
        rw[hop]at q3 p2
        obtain⟨t,hot⟩:=G8 q3
        exact Hd hot hR.inv p1 p2
       | app es bs x y=>rw[hop]at hkA;cases bs<;>simp[PO.kd]at hkA
       | _=>rw[hop]at hkA;simp[PO.kd]at hkA
      obtain⟨g',u,w',c1,c2,c3,c4,c5⟩:=hal
      have hwt:Region.wanted o (yielded ops a.tmps)=true:=by
       rw[hkg]at q2
       exact pk q2 rfl hR.tm
      rw[if_pos hwt]
      unfold Oper.wp
      rw[c1]
      refine ih (listed.setIfInBounds i true) (a.put o.dst u) g' w' (by simpa using hsz) (by rw[hcnt];omega) hC' hfst' htail' hpan' ?_ ?_ ?_
      ·rw[hLset,htmset,hHs,hTs,q1]
       exact⟨c2,oa (hR.tm.mono c3) c4 o.dst,by rw[put_defers];exact hR.df.mono c3⟩
      ·rw[hLset,hHs,hTs];exact hE.trans c3
      ·intro k' r'' hk' hr'' hun
       rw[hLset]at hun ⊢
       simp only[Bool.or_eq_false_iff,beq_eq_false_iff_ne,ne_eq]at hun
       obtain⟨d1,d2⟩:=hpend k' r'' hk' hr'' hun.1
       rw[hHs]
       exact⟨by rw[c5 _ (by omega)];exact d1,d2⟩
     ·have hck:c<=k:=by omega
      obtain⟨hkA,hkX⟩:=hH.hoi.rest k r' hck hk
      obtain⟨hval,_⟩:=a0p (Lk:=jz E listed) (H0:=(S c).s.H) (T0:=(S c).s.T) (tm0:=st.tm) hH.run hH.hoi rfl rfl (by rw[hH.h0]) hk hck hLk
       (λd hd j q hj hqd=>by
        have hmj:=hH.mem j q hj
        rcases (hG.dst i q.ix r' q d hmi hin hmj.1 hmj.2.1 hp hmj.2.2 hqd).2 hd with hmem|⟨hw1,hw2,hw3,hw4⟩
        ·have hlj:=oz _ hmem
         have h1:jz E listed j=true:=by unfold jz;rw[hj];exact hlj.1
         rw[h1]
         symm
         rw[decide_eq_true_eq]
         by_cases hjA:q.op.kd = .A
         ·have:j<c:=by
           rcases dj j c with h|h
           ·exact h
           ·exact absurd hjA (hH.hoi.rest j q h hj).1
          omega
         ·exact hH.ord j k q r' hj hk hjA hkA (by rw[hk2];exact hlj.2)
        ·have h1:jz E listed j=false:=by
          cases hl:jz E listed j with
          | false=>rfl
          | true=>
           have hl':listed.getD q.ix false=true:=by unfold jz at hl;rw[hj]at hl;exact hl
           have:=(lf hF hC q.ix q hmj.2.2 (λo' e ho' he hb=>hC _ o' e hl' ho' he hb) _ hw4).1
           rw[qb hsz hi]at this;cases this
         rw[h1]
         symm
         rw[decide_eq_false_iff_not]
         intro hjk
         have:=hH.ord k j r' q hk hj hkA hw3 (by rw[hk2];exact hw1)
         omega)
       (λhkd j q hj hqd=>by
        have hmj:=hH.mem j q hj
        have hjA:q.op.kd ≠ .A:=by rw[hqd];simp
        rcases Nat.lt_trichotomy q.ix r'.ix with h|h|h
        ·have hmem:=hG.At i q.ix r' q hmj.1 (by rw[<- hrix];exact h) hin hp hmj.2.2 (by rw[hqd];rcases hkd with e|e|e<;>rw[e]<;>rfl)
         have h1:jz E listed j=true:=by unfold jz;rw[hj];exact(oz _ hmem).1
         rw[h1]
         symm
         rw[decide_eq_true_eq]
         exact hH.ord j k q r' hj hk hjA hkA h
        ·have:=hH.inj j k q r' hj hk h
         subst this
         rw[hLk];simp
        ·have hmem:=hG.At q.ix i q r' hmi (by rw[<- hrix];exact h) hmj.2.1 hmj.2.2 hp (by rw[hqd];rcases hkd with e|e|e<;>rw[e]<;>rfl)
         have h1:jz E listed j=false:=by
          cases hl:jz E listed j with
          | false=>rfl
          | true=>
           have hl':listed.getD q.ix false=true:=by unfold jz at hl;rw[hj]at hl;exact hl
           have:=(lf hF hC q.ix q hmj.2.2 (λo' e ho' he hb=>hC _ o' e hl' ho' he hb) _ hmem).1
           rw[hiu]at this;cases this
         rw[h1]
         symm
         rw[decide_eq_false_iff_not]
         have:=hH.ord k j r' q hk hj hkA hjA h
         omega)
       (λhkd j q hj hqd=>by
        have hmj:=hH.mem j q hj
        have hjA:q.op.kd ≠ .A:=by rw[hqd];simp
        rcases Nat.lt_trichotomy q.ix r'.ix with h|h|h
        ·have hmem:=hG.At i q.ix r' q hmj.1 (by rw[<- hrix];exact h) hin hp hmj.2.2 (by rw[hqd,hkd];rfl)
         have h1:jz E listed j=true:=by unfold jz;rw[hj];exact(oz _ hmem).1
         rw[h1]
         symm
         rw[decide_eq_true_eq]
         exact hH.ord j k q r' hj hk hjA hkA h
        ·have:=hH.inj j k q r' hj hk h
         subst this
         rw[hLk];simp
        ·have hmem:=hG.At q.ix i q r' hmi (by rw[<- hrix];exact h) hmj.2.1 hmj.2.2 hp (by rw[hqd,hkd];rfl)
         have h1:jz E listed j=false:=by
          cases hl:jz E listed j with
          | false=>rfl
          | true=>
           have hl':listed.getD q.ix false=true:=by unfold jz at hl;rw[hj]at hl;exact hl
           have:=(lf hF hC q.ix q hmj.2.2 (λo' e ho' he hb=>hC _ o' e hl' ho' he hb) _ hmem).1
           rw[hiu]at this;cases this
         rw[h1]
         symm
         rw[decide_eq_false_iff_not]
         have:=hH.ord k j r' q hk hj hkA hjA h
         omega)
       hdst
      have hstep:=vi hval st.df
      refine o8 hS q1 q2 q3 hstep hR (λ_ g' a' w' hE' hR' hmun => ?_) (λv' e=>by cases e)
      refine ih (listed.setIfInBounds i true) a' g' w' (by simpa using hsz) (by rw[hcnt];omega) hC' hfst' htail' hpan' ?_ ?_ ?_
      ·rw[hLset,htmset];exact hR'
      ·rw[hLset];exact hE.trans hE'
      ·intro k' r'' hk' hr'' hun
       rw[hLset]at hun ⊢
       simp only[Bool.or_eq_false_iff,beq_eq_false_iff_ne,ne_eq]at hun
       obtain⟨d1,d2⟩:=hpend k' r'' hk' hr'' hun.1
       have hlt:=(List.getElem?_eq_some_iff.1 d2).1
       refine⟨hmun rfl _ hlt d1, ?_⟩
       have:=Qf q3 hkA hkX hval hR.tm d1
       rw[this];exact d2
end
end Go.Proofs.Eng
namespace Go.Proofs.Eng
open Go.RowKit
variable [DrK]
section
variable {P:Program} {g:Gh} {s:ASt} {w:World} {tm:List AV} {a:Act} {o:Oper}
theorem setRow_setRow (w:World) (b:Nat) (X Y:Array Value):(w.setRow b X).setRow b Y=w.setRow b Y:=by
 simp only[World.setRow]
 congr 1
 apply Array.ext_getElem?
 intro i
 rw[Array.getElem?_modify,Array.getElem?_modify,Array.getElem?_modify]
 by_cases h:b=i
 ·subst h
  simp only[if_true,Option.map_map]
  congr 1
  funext o
  cases o<;>rfl
 ·simp[h]
theorem K7 (w:World) {b c:Nat} (hbc:b ≠ c) (X Y:Array Value):(w.setRow b X).setRow c Y=(w.setRow c Y).setRow b X:=by
 simp only[World.setRow]
 congr 1
 apply Array.ext_getElem?
 intro i
 rw[Array.getElem?_modify,Array.getElem?_modify,Array.getElem?_modify,Array.getElem?_modify]
 by_cases h:b=i
 ·subst h
  simp[Ne.symm hbc]
 ·simp[h]
def um (w:World) (n m cap:Nat) (e:TypeId):Nat:=(w.tape w.drawn (.appendCap (n+m) cap e)) % (2 ^ 63-(n+m))
theorem Bi {t u ty e:TypeId} {ie:TypeInfo} {zv:Value} {base:Option Addr} {n cap m:Nat} {xv:Value} {old new:List Value} (hT:P.underlying t=some (.slice e)) (hU:(∃e',P.underlying u=some (.slice e'))\/P.underlying u=some .string)
  (hi:P.info? e=some ie) (hz:ie.zero=some zv) (hby:ie.bytes<=65536/\(ie.size=1->ie.bytes<=24)) (hlen:∀w,(Builtin.lenOf xv).run P w = .ok m w) (hnew:∀w',l8 w w'->(Builtin.firstCells ie.size m xv).run P w' = .ok new.toArray w')
  (hold:∀w',l8 w w'->(Builtin.firstCells ie.size n (.slice base n cap)).run P w' = .ok old.toArray w') (hneed:¬n+m<=cap) (hle:n+m<=1073741824\/ie.size=1/\n+m<=8796093022208) :
  (Builtin.append_ #[t,u] ty #[.slice base n cap,xv]).run P w =
   .ok (.slice (some ⟨w.heap.size,0,none⟩) (n+m) (n+m+um w n m cap e)) (({w with drawn:=w.drawn+1}:World).alloc (.cells (old++new++(Builtin.zeroCells zv.cells (um w n m cap e)).toList).toArray e)):=by
 have hmax:IntKind.i64.max=9223372036854775807:=by decide
 have h1:¬(((n+m:Nat):Int)>IntKind.i64.max):=by rw[hmax];omega
 have h2:¬Builtin.nextslicecap (n+m) cap*ie.bytes>2 ^ 48:=by
  rcases hle with hle|⟨hs,hle⟩
  ·have:=Nat.mul_le_mul (Eb (n+m) cap (by omega) hle) hby.1
   omega
  ·have:=Nat.mul_le_mul (Cq (n+m) cap (by omega) hle) (hby.2 hs)
   omega
 let w1:World:={w with drawn:=w.drawn+1}
 have hs1:l8 w w1:=λ_ _=>rfl
 have hcat:∀Z:Array Value,old.toArray++new.toArray++Z=(old++new++Z.toList).toArray:=λZ=>by apply Array.ext';simp
 have hask:∀b (w:World),(askRoom b).run P w = .ok () w:=by intro b w;unfold askRoom;split<;>simp[mark,Sem.run]
 have hch:(choose (.appendCap (n+m) cap e)).run P w = .ok (n+m+um w n m cap e) w1:=by
  simp[choose,Sem.run,Question.forced,Question.cut,w1,um]
 have hsub:n+m+um w n m cap e-(n+m)=um w n m cap e:=by omega
 unfold Builtin.append_
 simp only[List.getElem?_toArray,bw,bu,Sem.run_bind,gu hT,Result.andThen_ok,nj hi]
 rcases hU with⟨e',hU⟩|hU<;>simp only[gu hU,Sem.run_pure,Result.andThen_ok,dz,if_false,hlen,Sem.run_bind,if_neg hneed,h1,false_and,Ah hi,h2,hch,hask,hold w1 hs1,ee,if_true,hnew w1 hs1,vd hi hz,Sem.run_pure] <;>
  simp only[newRow,newObj,Sem.run_bind,Sem.run_pure,Result.andThen_ok,hcat,hsub]<;>rfl
structure Nq (P:Program) (g:Gh) (s:ASt) (w:World) (t u ty:TypeId) (es n:Nat) (X:Value) (ys:List Value) (v:AV) (s':ASt) where
 b:Nat
 cap:Nat
 el:TypeId
 pre:List Value
 rest:List Value
 W:List Value->World
 g':Gh
 oz:pre.length=n*es
 kh:n+1<=cap
 run:∀(xv:Value) (new:List Value),new.length=es->(∀c ∈ new,c.oneCell'=true)->(∀w,(Builtin.lenOf xv).run P w = .ok 1 w)->(∀w',l8 w w'->(Builtin.firstCells es 1 xv).run P w' = .ok new.toArray w') ->
  (Builtin.append_ #[t,u] ty #[X,xv]).run P w = .ok (.slice (some ⟨b,0,none⟩) (n+1) cap) (W new)
 heap:∀new,new.length=es->(W new).heap[b]? = some (.cells (pre++new++rest).toArray el (0,0))
 set:∀new new',new.length=es->new'.length=es->(W new).setRow b (pre++new'++rest).toArray=W new'
 inv:Inv g' s' (W ys)
 ext:Ext g s w g' s' (W ys)
 rep:Rep g' s' (W ys) v (.slice (some ⟨b,0,none⟩) (n+1) cap)
 mun:∀i,g'.mu i=g.mu i
 fresh:∀i,g'.mu i ≠ some b
theorem Ud {t u ty e:TypeId} {es:Nat} {ag:Bool} {z:AV} {l:List AV} {tl:Tl} {v q:AV} {s':ASt} {X:Value} {ys:List Value}
  (hT:P.underlying t=some (.slice e)) (hU:(∃e',P.underlying u=some (.slice e'))\/P.underlying u=some .string) (hE:tj P e=some (ag,es,z))
  (hX:Rep g s w (.sl l tl) X) (k3:ga g s w q.cells ys) (ha:Pt s es l tl [q]=some (v,s')) (hI:Inv g s w):Nonempty (Nq P g s w t u ty es l.length X ys v s'):=by
 obtain⟨hA,hz,hzl,ie,hie,hby,hes⟩:=qz hE
 obtain⟨zv,iz,h1,h2,h3⟩:=lu hz
 rw[hie]at h1;cases h1
 obtain⟨_,_,hpos,_⟩:=jm hA
 obtain⟨p,cap,b,off,cs,hu,hr,hc,hp,kh,htl⟩:=hX.n8
 subst hu
 have hns:∀id ver e,tl ≠ .tls id ver e:=by rintro id ver e rfl;simp[Pt]at ha
 have ha:tr s es none l tl [q]=some (v,s'):=by cases tl<;>first|exact ha|(exact absurd rfl (hns _ _ _))
 simp only[tr]at ha
 split at ha
 case isFalse=>simp at ha
 rename_i hcond
 obtain⟨hle,hll,hxx⟩:=hcond
 have hl':=Db hll
 obtain⟨hxl,hxo⟩:=D8 hxx
 have hql:q.cells.length=es:=hxl q (by simp)
 have hqo:q.cells.all ic=true:=by simpa[flat]using hxo
 have hcsl:cs.length=l.length*es:=by rw[<- hr.1,lh hl']
 have hysl:ys.length=es:=by rw[<- k3.1,hql]
 have hold:∀w',l8 w w'->(Builtin.firstCells ie.size l.length (.slice p l.length cap)).run P w' = .ok cs.toArray w':=λw' hs=>
  sy (by rw[hes];exact hcsl) (λk c hk=>(hc k c hk).1) (λhne=>hp (by rintro rfl;simp at hne)) hs (by omega)
 have hle':l.length+1<=1073741824\/es=1/\l.length+1<=8796093022208:=by simpa using hle
 have hfl:flat (l++[q])=flat l++q.cells:=by simp[flat]
 have hlens:(cs++ys).length=(l.length+1)*es:=by rw[ah,hcsl,hysl,Nat.add_mul,Nat.one_mul]
 have grow:¬l.length+1<=cap -> ∀{id v':Nat} {T':List Nat},id<T'.length->s.T.length<=T'.length->(∀i v,i ≠ id->s.T[i]? = some v->T'[i]? = some v)->(∀v,s.T[id]? = some v -> ∃v',T'[id]? = some v'/\v<v')->T'[id]? = some v' ->
   Nonempty (Nq P g s w t u ty es l.length (.slice p l.length cap) ys (.sl (l++[q]) (.tl id v')) {s with T:=T'}):=by
  intro hneed id v' T' t1 t2 t3 t4 t5
  have hzc:(Builtin.zeroCells zv.cells (um w l.length 1 cap e)).size=um w l.length 1 cap e*es:=by
   have hzr:ga g s w z.cells zv.cells.toList:=(l7 (g:=g) (s:=s) (w:=w) h3).cells (qt h3)
   have:zv.cells.size=es:=by have:=hzr.1;rw[hzl]at this;simpa using this.symm
   simp[Builtin.zeroCells,this]
  have hrun:∀(xv:Value) (new:List Value),new.length=es->(∀w,(Builtin.lenOf xv).run P w = .ok 1 w)->(∀w',l8 w w'->(Builtin.firstCells es 1 xv).run P w' = .ok new.toArray w')->_:=λxv new _ k1 k2=>
   Bi (P:=P) (w:=w) (ty:=ty) (base:=p) (n:=l.length) (m:=1) (cap:=cap) (xv:=xv) (old:=cs) (new:=new) hT hU hie h2 hby k1 (by rw[hes];exact k2) hold hneed (by rw[hes];exact hle')
  generalize hZ:(Builtin.zeroCells zv.cells (um w l.length 1 cap e)).toList=Z at hrun
  generalize hK:l.length+1+um w l.length 1 cap e=newCap at hrun
  have hZl:Z.length=(newCap-(l.length+1))*es:=by
   rw[<- hZ,<- hK,Nat.add_sub_cancel_left];simpa using hzc
  have hnc:l.length+1<=newCap:=by omega
  have htot:(cs++ys++Z).length=newCap*es:=by
   rw[ah,hlens,hZl,<- Nat.add_mul];congr 1;omega
  obtain⟨j1,j2⟩:=Gz (cs:=(cs++ys++Z).toArray) (el:=e) (d:=w.drawn+1) (es:=es) (cap:=newCap) (n:=l.length+1) hI t1 t2 t3 t4 (by simp only[List.size_toArray,htot];exact di _) hnc
  have hnew:ga g s w (flat (l++[q])) (cs++ys):=by rw[hfl];exact hr.append k3
  refine⟨{b:=w.heap.size,cap:=newCap,el:=e,pre:=cs,rest:=Z,W:=λnew=>({w with drawn:=w.drawn+1}:World).alloc (.cells (cs++new++Z).toArray e),g':=g.own id ⟨w.heap.size,es,newCap,l.length+1⟩,oz:=hcsl,kh:=hnc,run:=λxv new n1 _ k1 k2=>hrun xv new n1 k1 k2,heap:=λnew _=>je _ _,set:=λnew new' _ _=>World.setRow_alloc_new _ _ _ _,inv:=j1,ext:=j2,rep := ?_,mun:=λ_=>rfl,fresh:=λi h => ?_}⟩
  ·have hR:=hnew.mono j2
   refine .sl (b:=w.heap.size) (o:=0) (cs++ys) hR.1 hR.2 (λk c hk=>⟨?_, ?_⟩) (λ_=>rfl) (by simp) hnc ?_
   ·have hk':(cs++ys++Z)[k]? = some c:=by rw[ae (List.getElem?_eq_some_iff.1 hk).1];exact hk
    have:=je ({w with drawn:=w.drawn+1}:World) (.cells (cs++ys++Z).toArray e)
    simp only[World.cell?,this,dp]
    simpa using hk'
   ·have hklt:k<(l.length+1)*es:=by rw[<- hlens];exact(List.getElem?_eq_some_iff.1 hk).1
    rintro(⟨i,l0,e1,_⟩|⟨id',q0,e1,e2,e3⟩|hf)
    ·have:=(hI.lt i _ e1).2;omega
    ·simp only[Gh.own]at e1
     split at e1
     ·cases e1;simp only at e3;omega
     ·obtain⟨_,_,c0,el0,e4,_⟩:=hI.rf id' q0 e1
      have:=(Array.getElem?_eq_some_iff.1 e4).1;omega
    ·exact absurd (hI.u5 _ _ hf) (Nat.lt_irrefl _)
   ·exact⟨v',t5,di _,λ_=>⟨⟨w.heap.size,es,newCap,l.length+1⟩,by simp[Gh.own],rfl,by rw[hnew.1,hlens],rfl,rfl⟩⟩
  ·have:=(hI.lt i _ h).2;omega
 cases tl with
 | none=>simp at ha
 | al=>simp at ha
 | nil=>
  obtain⟨_,hn0,hc0⟩:=htl
  simp only[fe,ff]at ha;obtain⟨rfl,rfl⟩:=ha
  exact grow (by omega) (by simp) (by simp) (λi v _ h=>by rw[ae (List.getElem?_eq_some_iff.1 h).1];exact h) (λv h=>by have:=(List.getElem?_eq_some_iff.1 h).1;omega) (by simp)
 | cap c=>
  have hc0:cap=c:=htl.1
  simp only[ak,ao,dp]at ha
  split at ha
  ·simp only[fe,ff]at ha;obtain⟨rfl,rfl⟩:=ha
   exact grow (by omega) (by simp) (by simp) (λi v _ h=>by rw[ae (List.getElem?_eq_some_iff.1 h).1];exact h) (λv h=>by have:=(List.getElem?_eq_some_iff.1 h).1;omega) (by simp)
  ·simp at ha
 | lim c=>
  have hc0:cap=c:=htl
  simp only[ak,ao,dp]at ha
  split at ha
  ·simp only[fe,ff]at ha;obtain⟨rfl,rfl⟩:=ha
   exact grow (by omega) (by simp) (by simp) (λi v _ h=>by rw[ae (List.getElem?_eq_some_iff.1 h).1];exact h) (λv h=>by have:=(List.getElem?_eq_some_iff.1 h).1;omega) (by simp)
  ·simp at ha
 | tls id ver e=>exact absurd rfl (hns _ _ _)
 | tl id ver=>
  simp only at ha
  split at ha
  ·rename_i v0 hb0 hT0
   split at ha
   ·rename_i hv0
    obtain⟨hv0,hne⟩:=hv0
    subst hv0
    simp only[fe,ff]at ha;obtain⟨rfl,rfl⟩:=ha
    by_cases hneed:l.length+1<=cap
    ·obtain⟨v1,t1,t2,t3⟩:=htl
     rw[hT0]at t1;cases t1
     obtain⟨q0,q1,q2,q5,rfl,rfl⟩:=t3 rfl
     obtain⟨_,qn,C,el,qh,qs⟩:=hI.rf id q0 q1
     have hl0:0<l.length:=List.length_pos_iff.2 hne
     have hes0:q0.es=es:=by
      rw[lh hl',q2]at q5
      exact Nat.eq_of_mul_eq_mul_left hl0 q5
     have hC:w.heap[q0.b]? = some (.cells C.toList.toArray el (0,0)):=by simpa using qh
     have hneed':(l.length+1)*es<=q0.cap*es:=Nat.mul_le_mul_right _ hneed
     rw[hes0]at qs
     rw[Nat.add_mul,Nat.one_mul]at hneed'
     have hCl:C.toList.length=C.size:=by simp
     have hfit:l.length*es+es<=C.toList.length:=by rw[hCl];omega
     have hpl:(C.toList.take (l.length*es)).length=l.length*es:=by rw[b7];omega
     have hset:∀new:List Value,new.length=es->setAt C.toList (l.length*es) new=C.toList.take (l.length*es)++new++C.toList.drop (l.length*es+es):=λnew hn=>by unfold setAt;rw[hn]
     have hsl:(setAt C.toList (l.length*es) ys).length=C.toList.length:=by
      unfold setAt;simp only[ah,b7,b8];omega
     have oz:∀k,k<l.length*es->(setAt C.toList (l.length*es) ys)[k]? = C.toList[k]? := by
      intro k hk
      unfold setAt
      rw[aj,ae (by rw[b7];omega),bc,if_pos hk]
     obtain⟨j1,j2⟩:=Eh (cs':=setAt C.toList (l.length*es) ys) (n':=l.length+1) hI q1 hT0 hC hsl (by rw[q2,hes0];exact oz) (by omega) hneed (by rw[hes0,hCl];exact qs)
     have hnew:ga g s w (flat (l++[q])) (cs++ys):=by rw[hfl];exact hr.append k3
     have hpp:=hp hne
     simp only[fe,Addr.mk.injEq,and_true]at hpp
     obtain⟨hb0,ho0⟩:=hpp
     refine⟨{b:=q0.b,cap:=q0.cap,el:=el,pre:=C.toList.take (l.length*es),rest:=C.toList.drop (l.length*es+es),W:=λnew=>w.setRow q0.b (C.toList.take (l.length*es)++new++C.toList.drop (l.length*es+es)).toArray,g':=g.own id ⟨q0.b,q0.es,q0.cap,l.length+1⟩,oz:=hpl,kh:=hneed,run:=λxv new n1 no k1 k2 => ?_,heap:=λnew _=>setRow_heap w q0.b _ _ el (0,0) qh,set:=λnew new' _ _=>setRow_setRow _ _ _ _,inv := ?_,ext := ?_,rep := ?_,mun:=λ_=>rfl,fresh:=λi h=>hI.s8 id q0 i q1 h}⟩
     ·have hrun:=uw (P:=P) (w:=w) (ty:=ty) (u:=u) (n:=l.length) (cap:=q0.cap) (m:=1) (new:=new) hT hU hie k1 (by rw[hes];exact k2 w λ_ _=>rfl) hneed hC (by rw[hes,n1];exact hfit) no
      rw[hes,hset new n1]at hrun
      exact hrun
     ·rw[<- hset ys hysl];exact j1
     ·rw[<- hset ys hysl];exact j2
     ·rw[<- hset ys hysl]
      have hR:=hnew.mono j2
      refine .sl (b:=q0.b) (o:=0) (cs++ys) hR.1 hR.2 (λk c hk=>⟨?_, ?_⟩) (λ_=>rfl) (by simp) hneed ?_
      ·have hst:(w.setRow q0.b (setAt C.toList (l.length*es) ys).toArray).heap[q0.b]? = some (.cells (setAt C.toList (l.length*es) ys).toArray el (0,0)):=setRow_heap w q0.b _ _ el (0,0) qh
       simp only[World.cell?,hst,dp]
       by_cases hkl:k<cs.length
       ·rw[ae hkl]at hk
        have:=(hc k c hk).1
        rw[<- hb0,<- ho0,dp]at this
        simp only[World.cell?,qh]at this
        have h9:=oz k (by rw[<- hcsl];exact hkl)
        simp only[Array.getElem?_toList]at h9
        simp at this ⊢
        rw[h9];exact this
       ·rw[af (by omega),hcsl]at hk
        rw[hcsl]at hkl
        unfold setAt
        have hk2:=(List.getElem?_eq_some_iff.1 hk).1
        simp
        rw[af (by omega),hpl,ae hk2]
        exact hk
      ·have hklt:k<(l.length+1)*es:=by rw[<- hlens];exact(List.getElem?_eq_some_iff.1 hk).1
       rintro(⟨i,l0,e1,_⟩|⟨id',q',e1,e2,e3⟩|hf)
       ·exact hI.s8 id q0 i q1 e1
       ·simp only[Gh.own]at e1
        split at e1
        ·cases e1;simp only[hes0]at e3;omega
        ·rename_i hid;exact hid (hI.og _ _ q' q0 e1 q1 e2)
       ·exact hI.u9 id q0 _ q1 hf
      ·exact⟨v0+1,by have:=(List.getElem?_eq_some_iff.1 hT0).1;simp[this],di _,λ_=>⟨⟨q0.b,q0.es,q0.cap,l.length+1⟩,by simp[Gh.own],rfl,by simp only[hes0,hfl,ah,lh hl',hql,Nat.add_mul,Nat.one_mul],rfl,rfl⟩⟩
    ·have hlt:=(List.getElem?_eq_some_iff.1 hT0).1
     exact grow hneed (by simpa using hlt) (by simp) (λi v hi h=>by rw[b9,if_neg (Ne.symm hi)];exact h) (λv h=>⟨v0+1,by simp[hlt],by rw[hT0]at h;cases h;omega⟩) (by simp[hlt])
   ·simp at ha
  ·simp at ha
end
end Go.Proofs.Eng
namespace Go.Proofs.Eng
open Go.RowKit
variable [DrK]
section
variable {P:Program} {call:ia} {md:FuncId->Md} {bsf:Bf} {ops:Array Oper} {ps:List PI}
theorem Ag (hF:jo P bsf ops ps) {Q:Exit->Act->World->Prop} {k m:Nat} (hN:ops.size=k+3+m) (σ:Nat->Nat->Act × World)
  (hA:waits ops (k+2) (k+1)=true) (hB:∀j,j+1<m->waits ops (k+3+j+1) (k+3+j)=true)
  (goA1:∀q,q<=m -> ∀K:Act->World->Prop,K (σ 1 q).1 (σ 1 q).2->wpOp P ops Q (k+1) K (σ 0 q).1 (σ 0 q).2)
  (goA2:∀q,q<=m -> ∀K:Act->World->Prop,K (σ 2 q).1 (σ 2 q).2->wpOp P ops Q (k+2) K (σ 1 q).1 (σ 1 q).2)
  (goB:∀p q,p<=2->q<m -> ∀K:Act->World->Prop,K (σ p (q+1)).1 (σ p (q+1)).2->wpOp P ops Q (k+3+q) K (σ p q).1 (σ p q).2)
  (hQ:Q .normal (σ 2 m).1 (σ 2 m).2) :
  ∀(fuel p q:Nat) (listed:Array Bool),p<=2->q<=m->fuel+(k+1+p+q)=ops.size->listed.size=ops.size ->
   (∀j,listed.getD j false=true ↔ j<k+1+p\/(k+3<=j/\j<k+3+q))->wpAny P .any ops Q fuel listed (σ p q).1 (σ p q).2
 | 0,p,q,listed,hp,hq,hf,hsz,hl=>by
  have hp2:p=2:=by omega
  have hqm:q=m:=by omega
  subst hp2;subst hqm
  refine⟨?_,hQ⟩
  rw[List.eq_nil_iff_forall_not_mem]
  intro i hi
  have h1:=re hi
  have h2:=qb hsz hi
  have h3:=(hl i).2 (by omega)
  rw[h3]at h2;cases h2
 | fuel+1,p,q,listed,hp,hq,hf,hsz,hl=>by
  refine⟨λhnil => ?_,λi hi => ?_⟩
  ·have hex:∃i,i<ops.size/\listed.getD i false=false:=by
    by_cases h:p<2
    ·refine⟨k+1+p,by omega, ?_⟩
     cases hh:listed.getD (k+1+p) false with
     | false=>rfl
     | true=>have:=(hl _).1 hh;omega
    ·refine⟨k+3+q,by omega, ?_⟩
     cases hh:listed.getD (k+3+q) false with
     | false=>rfl
     | true=>have:=(hl _).1 hh;omega
   obtain⟨i,h1,h2⟩:=hex
   obtain⟨j,_,hj⟩:=ph hF hsz i h1 h2
   rw[hnil]at hj;simp at hj
  ·have h1:=re hi
   have h2:=qb hsz hi
   have hno:¬(i<k+1+p\/(k+3<=i/\i<k+3+q)):=λh=>by rw[(hl i).2 h]at h2;cases h2
   obtain⟨_,o',ho',hall⟩:=mem_ready.1 hi
   have hset:∀j,(listed.setIfInBounds i true).getD j false=true ↔ j=i\/listed.getD j false=true:=by
    intro j
    by_cases hji:j=i
    ·subst hji;simp[hsz,h1]
    ·rw[getD_set_ne false (λe=>hji e.symm)];simp[hji]
   by_cases hi3:i<k+3
   ·have hi12:i=k+1\/i=k+2:=by omega
    rcases hi12 with rfl|rfl
    ·have hp0:p=0:=by omega
     subst hp0
     refine goA1 q hq _ (Ag hF hN σ hA hB goA1 goA2 goB hQ fuel 1 q _ (by omega) hq (by omega) (by simpa using hsz) λj => ?_)
     rw[hset,hl];omega
    ·obtain⟨o,ho,e,he,heo,hb⟩:=zo hA
     rw[ho']at ho;cases ho
     have:=hall e he hb
     rw[heo,hl]at this
     have hp1:p=1:=by omega
     subst hp1
     refine goA2 q hq _ (Ag hF hN σ hA hB goA1 goA2 goB hQ fuel 2 q _ (by omega) hq (by omega) (by simpa using hsz) λj => ?_)
     rw[hset,hl];omega
   ·obtain⟨r,rfl⟩:∃r,i=k+3+r:=⟨i-(k+3),by omega⟩
    have hrq:r=q:=by
     by_cases hr:r=q
     ·exact hr
     ·obtain⟨o,ho,e,he,heo,hb⟩:=zo (hB (r-1) (by omega))
      rw[show k+3+(r-1)+1=k+3+r by omega]at ho
      rw[ho']at ho;cases ho
      have:=hall e he hb
      rw[heo,hl]at this
      omega
    subst hrq
    refine goB p r hp (by omega) _ (Ag hF hN σ hA hB goA1 goA2 goB hQ fuel p (r+1) _ hp (by omega) (by omega) (by simpa using hsz) λj => ?_)
    rw[hset,hl];omega
theorem J7 {o:Oper} {x y:X} {r es:Nat} (h:Lu P o=some (x,y,r,es)) :
  ∃x0 y0 t u e e' ag z,o.op = .call {callee:=.builtin .append,args := #[x0,y0],argTypes := #[t,u]}/\o.guard=none/\o.dst=some r/\P.underlying t=some (.slice e)/\P.underlying u=some (.slice e')/\gh x0=some x/\gh y0=some y/\tj P e=some (ag,es,z):=by
 unfold Lu at h
 split at h
 ·rename_i args ts r' hop hg hd
  split at h
  ·rename_i x0 y0 t u ha hts
   split at h
   ·rename_i e e' x' y' h1 h2 h3 h4
    obtain⟨z,hz,e0⟩:=fp h
    obtain⟨ag,n,z⟩:=z
    simp only[ff]at e0
    obtain⟨rfl,rfl,rfl,rfl⟩:=e0
    have ha':args = #[x0,y0]:=by rw[<- args.toArray_toList,ha]
    have hts':ts = #[t,u]:=by rw[<- ts.toArray_toList,hts]
    subst ha';subst hts'
    exact⟨x0,y0,t,u,e,e',ag,z,hop,hg,hd,h1,h2,h3,h4,hz⟩
   ·simp at h
  ·simp at h
 ·simp at h
theorem Kb {o:Oper} {n:X} {r d es:Nat} (h:Ld P r o=some (n,d,es)) :
  ∃t n0 e ag,o.op = .indexAddr t (.tmp r) n0/\o.guard=none/\o.dst=some d/\P.underlying t=some (.slice e)/\gh n0=some n/\ru P e=some (ag,es):=by
 unfold Ld at h
 split at h
 ·rename_i t r' n0 d' hop hg hd
  split at h
  ·rename_i hr;subst hr
   split at h
   ·rename_i e n' h1 h2
    obtain⟨z,hz,e0⟩:=fp h
    obtain⟨ag,es'⟩:=z
    simp only[ff]at e0
    obtain⟨rfl,rfl,rfl⟩:=e0
    exact⟨t,n0,e,ag,hop,hg,hd,h1,h2,hz⟩
   ·simp at h
  ·simp at h
 ·simp at h
theorem J9 {o:Oper} {v:X} {d es:Nat} (h:Kw P d o=some (v,es)):∃t v0,o.op = .store t (.tmp d) v0/\o.guard=none/\o.dst=none/\Ig P t=some es/\gh v0=some v:=by
 unfold Kw at h
 split at h
 ·rename_i t d' v0 hop hg hd
  split at h
  ·rename_i hr;subst hr
   split at h
   ·rename_i es' v' h1 h2
    simp only[fe,ff]at h
    obtain⟨rfl,rfl⟩:=h
    exact⟨t,v0,hop,hg,hd,h1,h2⟩
   ·simp at h
  ·simp at h
 ·simp at h
theorem Fl {o:Oper} {r p:Nat} (h:Dh P r o=some p):∃t,o.op = .store t (.tmp p) (.tmp r)/\o.guard=none/\o.dst=none/\Ig P t=some 1:=by
 unfold Dh at h
 split at h
 ·rename_i t p' r' hop hg hd
  split at h
  ·rename_i hr
   obtain⟨rfl,h1⟩:=hr
   simp only[fe]at h;subst h
   exact⟨t,hop,hg,hd,h1⟩
  ·simp at h
 ·simp at h
theorem Qa {o:Oper} {x d k:Nat} (h:Nf P o=some (x,d,k)):o.guard=none/\o.dst=some d /\
  ∀(a:Act) (b off:Nat) (w:World),a.eval (.tmp x) = .pointer (some ⟨b,off,none⟩)->(execOp a.eval o).run P w = .ok (.value (.pointer (some ⟨b,off+k,none⟩))) w:=by
 unfold Nf at h
 split at h
 ·rename_i x' d' hop hg hd
  simp only[fe,ff]at h
  obtain⟨rfl,rfl,rfl⟩:=h
  exact⟨hg,hd,λa b off w ha=>by simp[execOp,hop,ha]⟩
 ·rename_i t x' f d' hop hg hd
  split at h
  ·rename_i fs hT
   split at h
   ·rename_i fd hf
    obtain⟨z,hA,e0⟩:=fp h
    obtain⟨ag,n⟩:=z
    simp only[ff]at e0
    obtain⟨rfl,rfl,rfl⟩:=e0
    refine⟨hg,hd,λa b off w ha => ?_⟩
    obtain⟨_,h2,h3,_⟩:=jm hA
    have key:(fieldPlace ⟨b,off,none⟩ fd).run P w = .ok ⟨b,off+fd.offset,none⟩ w:=by
     simp[fieldPlace,h2,show ¬n=0 by omega,l5]
    simp[execOp,hop,ha,Instr.fieldAt,gu hT,hf,Instr.sureAddr,key]
   ·simp at h
  ·simp at h
 ·simp at h
def rj (a:Act):List (Nat × Value)->Act
 | []=>a
 | (d,u)::l=>rj (a.put (some d) u) l
theorem Dy {m:Nat}:∀{L:List (Nat × Value)} {a:Act},m ∉ L.map (·.1)->(rj a L).tmps[m]? = a.tmps[m]?
 | [],_,_=>rfl
 | (d,u)::L,a,h=>by
  simp only[bq,List.mem_cons,not_or]at h
  rw[rj,Dy h.2]
  simp only[Act.put]
  rw[Array.getElem?_setIfInBounds_ne (λe=>h.1 e.symm)]
theorem Pv {L:List (Nat × Value)} {a:Act} {q:Nat} {d:Nat} {u:Value} (h:L[q]? = some (d,u)):rj a (L.take (q+1))=(rj a (L.take q)).put (some d) u:=by
 induction L generalizing a q with
 | nil=>simp at h
 | cons x L ih=>
  obtain⟨d',u'⟩:=x
  cases q with
  | zero=>simp at h;obtain⟨rfl,rfl⟩:=h;simp[rj]
  | succ q=>simp only[List.take_succ_cons,rj];exact ih (by simpa using h)
theorem G1 {L:List (Nat × Value)} {a:Act}:(rj a L).tmps.size=a.tmps.size:=by
 induction L generalizing a with
 | nil=>rfl
 | cons x L ih=>obtain⟨d,u⟩:=x;rw[rj,ih];simp[Act.put]
theorem Iq {L:List (Nat × Value)} {a:Act}:(rj a L).defers=a.defers:=by
 induction L generalizing a with
 | nil=>rfl
 | cons x L ih=>obtain⟨d,u⟩:=x;rw[rj,ih];rfl
theorem yz {a:Act} {d m:Nat} {u:Value} (h:d ≠ m):(a.put (some d) u).tmps[m]? = a.tmps[m]? := by
 simp only[Act.put]
 rw[Array.getElem?_setIfInBounds_ne h]
theorem rk {a a':Act} {m:Nat} (h:a'.tmps[m]? = a.tmps[m]?):a'.eval (.tmp m)=a.eval (.tmp m):=by
 simp only[Act.eval,Array.getD_eq_getD_getElem?,h]
theorem Lb {a a':Act} {x0:Operand} {x:X} (hx:gh x0=some x) (h:∀m,x = .t m->a'.tmps[m]? = a.tmps[m]?):a'.eval x0=a.eval x0:=by
 cases x0 with
 | tmp m=>simp only[gh,fe]at hx;exact rk (h m hx.symm)
 | const v=>rfl
 | func f=>rfl
 | «global» g=>rfl
theorem U1 {r d:Nat} {bd:List Nat} {x:X} (h:okX r d bd x=true):∀m,x = .t m->m ≠ r/\m ≠ d/\m ∉ bd:=by
 rintro m rfl
 simpa[okX,and_assoc]using h
def N3 (call:ia) (md:FuncId->Md) (l:List PI) (ex:gg) (st':St) (g:Gh) (w:World) (Qs:List (Nat × Nat × Nat)) (st:St) (a:Act):Prop:=
 ∃L:List (Nat × Value),L.map (·.1)=Qs.map (·.2.1)/\(∀(j:Nat) (q:Nat × Nat × Nat),Qs[j]? = some q -> ∃b off,(rj a (L.take j)).eval (.tmp q.1) = .pointer (some ⟨b,off,none⟩)/\L[j]? = some (q.2.1,.pointer (some ⟨b,off+q.2.2,none⟩))) /\
   ∃st2:St,kg call md l st2=some (ex,st')/\st2.s=st.s/\st2.df=st.df/\ga g st.s w st2.tm (rj a L).tmps.toList
theorem Gk {l:List PI} {ex:gg} {st':St} {g:Gh} {w:World}:∀{Qs:List (Nat × Nat × Nat)} {st:St} {a:Act},ga g st.s w st.tm a.tmps.toList->kg call md (Qs.map piQ++l) st=some (ex,st')->N3 call md l ex st' g w Qs st a
 | [],st,a,hr,h=>⟨[],rfl,by simp,st,h,rfl,rfl,hr⟩
 | q::Qs,st,a,hr,h=>by
  obtain⟨x,d,k⟩:=q
  have step:∀v u,Rep g st.s w v u->iw call md false (piQ (x,d,k)) st=some (.normal,{st with tm:=put st.tm (some d) v,s:=st.s})->(∃b off,a.eval (.tmp x) = .pointer (some ⟨b,off,none⟩)/\u = .pointer (some ⟨b,off+k,none⟩))->N3 call md l ex st' g w ((x,d,k)::Qs) st a:=λv u hv hs hu=>by
   simp only[bq,bn,kg,hs]at h
   obtain⟨L,h1,h2,st2,h3,h4,h5,h6⟩:=Gk (a:=a.put (some d) u) (oa hr hv (some d)) h
   obtain⟨b,off,e1,e2⟩:=hu
   exact⟨(d,u)::L,by simp[h1],λj q hj=>by
    cases j with
    | zero=>
     simp only[bw,fe]at hj;subst hj
     exact⟨b,off,by simpa[rj]using e1,by simp[e2]⟩
    | succ j=>
     obtain⟨b',off',e3,e4⟩:=h2 j q (by simpa using hj)
     exact⟨b',off',by simpa[rj]using e3,by simpa using e4⟩,st2,h3,h4,h5,by simpa[rj]using h6⟩
  have hop:opA st.tm st.s (.fy k (.t x))=none->False:=λhn=>by
   simp only[bq,bn,kg,iw,piQ,iu,hn]at h
   simp at h
  cases hx:evX st.tm (.t x)with
  | none=>exact(hop (by simp[opA,hx])).elim
  | some pv=>
   have hrep:=fx (x:=.tmp x) (y:=.t x) rfl hx hr
   cases pv with
   | ptr i off=>
    obtain⟨b,hb,hu⟩:=hrep.mj
    exact step (.ptr i (off+k)) _ (.ptr hb) (by simp[iw,piQ,iu,opA,hx]) ⟨b,off,hu,rfl⟩
   | ip c off=>
    obtain⟨b,o,cs,hu,h1,h2⟩:=hrep.Bq
    by_cases hle:off+k<=c.length
    ·refine step (.ip c (off+k)) (.pointer (some ⟨b,(o+off)+k,none⟩)) ?_ (by simp[iw,piQ,iu,opA,hx,hle]) ⟨b,o+off,hu,rfl⟩
     rw[dv]
     exact .ip cs h1.1 h1.2 h2
    ·exact(hop (by simp[opA,hx,hle])).elim
   | _=>exact(hop (by simp[opA,hx])).elim
theorem xo {o:Oper} {i:Nat} {a:Act} {w w':World} {u:Value} {Q:Exit->Act->World->Prop} {K:Act->World->Prop} (ho:ops[i]? = some o) (hg:o.guard=none) (hr:(execOp a.eval o).run P w = .ok (.value u) w') (hK:K (a.put o.dst u) w'):wpOp P ops Q i K a w:=by
 refine uk ho ?_
 rw[if_pos (by simp[Region.wanted,hg])]
 unfold Oper.wp
 rw[hr]
 exact hK
theorem Dw {o:Oper} {i:Nat} {a:Act} {w w':World} {Q:Exit->Act->World->Prop} {K:Act->World->Prop} (ho:ops[i]? = some o) (hg:o.guard=none) (hr:(execOp a.eval o).run P w = .ok .skip w') (hK:K (a.put o.dst undef) w'):wpOp P ops Q i K a w:=by
 refine uk ho ?_
 rw[if_pos (by simp[Region.wanted,hg])]
 unfold Oper.wp
 rw[hr]
 exact hK
theorem Ru (hF:jo P bsf ops ps) {k:Nat} (hk:k<ops.size) (hlater:∀j,k<j->j<ops.size -> ∃o:Oper,ops[j]? = some o /\ ∃e ∈ o.after,k<=e.on/\Region.binds .any e=true) {b:PI} {l:List PI} (htl:Uk P ops k=some (b,l))
  {st1 st':St} {ex:gg} (hs:kg call md (b::l) st1=some (ex,st')) {Q:Exit->Act->World->Prop} {g:Gh} {w:World} {a:Act} (hQ:QOK g st1.s w ex st' Q) (hR:jv g w st1 a) {fuel:Nat} {listed:Array Bool} (hfuel:fuel+k=ops.size)
  (hsz:listed.size=ops.size) (hfst:∀j,j<k->listed.getD j false=true) (hrest:∀j,k<=j->listed.getD j false=false):wpAny P .any ops Q fuel listed a w:=by
 unfold Uk at htl
 split at htl
 case h_2=>simp at htl
 rename_i o0 o1 o2 os hdrop
 split at htl
 case h_2=>simp at htl
 rename_i x y r es oL Qs hAp hLast hQs
 split at htl
 case h_2=>simp at htl
 rename_i n d es1 p hIx hLa
 split at htl
 case h_2=>simp at htl
 rename_i v es2 hSt
 simp only at htl
 split at htl
 case isFalse=>simp at htl
 rename_i hcond
 obtain⟨rfl,rfl,hrd,hrb,hdb,hdx,hrx,hokn,hokv,hw12,hwB⟩:=hcond
 simp only[fe,ff]at htl
 obtain⟨rfl,rfl⟩:=htl
 have hget:∀j,ops[k+j]? = (o0::o1::o2::os)[j]? := λj=>by rw[<- hdrop,ba,Array.getElem?_toList]
 have g0:ops[k]? = some o0:=hget 0
 have g1:ops[k+1]? = some o1:=hget 1
 have g2:ops[k+2]? = some o2:=hget 2
 have gB:∀j,ops[k+3+j]? = os[j]? := λj=>by rw[dv,hget,Nat.add_comm 3 j];rfl
 have hlen:ops.size=k+3+os.length:=by
  have:=congrArg List.length hdrop
  simp only[b8,Array.length_toList,ak]at this
  omega
 obtain⟨hQl,hQg⟩:=sx hQs
 have hone:os ≠ []:=by rintro rfl;simp at hLast
 have hosl:os.length=Qs.length+1:=by
  rw[List.length_dropLast]at hQl
  have:=List.length_pos_iff.2 hone
  omega
 have hoL:os[Qs.length]? = some oL:=by
  rw[List.getLast?_eq_getElem?]at hLast
  rw[<- hLast];congr 1;omega
 have hoQ:∀j,j<Qs.length -> ∃o q,os[j]? = some o/\Qs[j]? = some q/\Nf P o=some q:=λj hj=>by
  have h1:j<os.dropLast.length:=by omega
  have h2:=aa h1
  have h3:=aa hj
  refine⟨os.dropLast[j],Qs[j], ?_,h3,hQg j _ _ h2 h3⟩
  rw[<- h2,List.getElem?_dropLast,if_pos (by omega)]
 obtain⟨x0,y0,t,u,e,e',ag,z,p1,p2,p3,p4,p5,p6,p7,p8⟩:=J7 hAp
 obtain⟨t1,n0,e1,ag1,i1,i2,i3,i4,i5,i6⟩:=Kb hIx
 obtain⟨t2,v0,s1,s2,s3,s4,s5⟩:=J9 hSt
 obtain⟨t3,l1,l2,l3,l4⟩:=Fl hLa
 simp only[kg]at hs
 have hap:∃lx tl ze kd q qd va sa,evX st1.tm x=some (.sl lx tl)/\(evX st1.tm y).bind (zk st1.s)=some [ze]/\evX st1.tm n=some (.v (.int kd lx.length))/\evX st1.tm v=some q/\evX st1.tm (.t d)=some qd /\
   ze.cells.length=es/\ze.cells.all ic=true/\Pt st1.s es lx tl [q]=some (va,sa)/\kg call md (Qs.map piQ++[⟨none,none,.store 1 (.t p) (.t r),0,[]⟩,⟨some d,none,.mov (.c .unk),0,[]⟩]) {st1 with tm:=put st1.tm (some r) va,s:=sa}=some (ex,st'):=by
  simp only[iw,iu]at hs
  cases hop:opA st1.tm st1.s (.Po es x y n v (.t d))with
  | none=>rw[hop]at hs;simp at hs
  | some rr=>
   rw[hop]at hs
   simp only[opA]at hop
   split at hop
   ·rename_i lx tl ze kd kk q qd h1 h2 h3 h4 h5
    split at hop
    ·rename_i hc
     obtain⟨⟨va,sa⟩,h6,rfl⟩:=fp hop
     obtain⟨hc1,hc2,hc3⟩:=hc
     subst hc1
     exact⟨lx,tl,ze,kd,q,qd,va,sa,h1,h2,h3,h4,h5,hc2,hc3,h6,hs⟩
    ·simp at hop
   ·simp at hop
 obtain⟨lx,tl,ze,kd,q,qd,va,sa,h1,h2,h3,h4,h5,h6,h7,h8,hs9⟩:=hap
 obtain⟨yv,h2a,h2b⟩:=nc h2
 have hX:=fx p6 h1 hR.tm
 have hY:=fx p7 h2a hR.tm
 have hN:=(fx i5 h3 hR.tm).ke
 have hV:=fx s5 h4 hR.tm
 obtain⟨hA1,hz1,hzl,ie,hie,hby,hes⟩:=qz p8
 obtain⟨_,_,hpos,_⟩:=jm hA1
 obtain⟨zs,k1,k2,k3⟩:=D6 (P:=P) (es:=es) h2b hY hR.inv (by simpa using h6) hpos
 have hzs:ga g st1.s w ze.cells zs:=by simpa[flat]using k3
 have hzsl:zs.length=es:=by rw[<- hzs.1,h6]
 have hqc:q.cells.length=es/\q.cells.all ic=true:=by
  have h8:tr st1.s es none lx tl [q]=some (va,sa):=by cases tl<;>first|exact h8|(simp[Pt]at h8)
  simp only[tr]at h8
  split at h8
  ·rename_i hc
   have:=hc.2.2
   simpa using this
  ·simp at h8
 have hqk:q ≠ .unk:=by rintro rfl;simp[AV.cells,ic]at hqc
 have hys:=hV.cells hqk
 generalize hysd:(a.eval v0).cells.toList=ys at hys
 have hysl:ys.length=es:=by rw[<- hys.1,hqc.1]
 have hyone:∀c ∈ ys,c.oneCell'=true:=hys.vm hqc.2
 obtain⟨core⟩:=Ud (ty:=o0.type) p4 (.inl ⟨e',p5⟩) p8 hX hys h8 hR.inv
 generalize hRv:Value.slice (some ⟨core.b,0,none⟩) (lx.length+1) core.cap=Rv
 have hrun0:(execOp a.eval o0).run P w = .ok (.value Rv) (core.W zs):=by
  have:=core.run (a.eval y0) zs hzsl (hzs.vm h7) k1 k2
  simp only[execOp,p1,resolve,invoke,builtin,Sem.run_bind,Sem.run_pure,Result.andThen_ok,List.map_toArray,bq,List.map_nil,this,hRv]
 obtain⟨fuel',rfl⟩:∃f,fuel=f+1:=⟨fuel-1,by omega⟩
 refine⟨λhnil => ?_,λi hi => ?_⟩
 ·obtain⟨j,_,hj⟩:=ph hF hsz k hk (hrest k (di _))
  rw[hnil]at hj;simp at hj
 have hi1:=re hi
 have hi2:=qb hsz hi
 have hik:i=k:=by
  rcases Nat.lt_trichotomy i k with h|h|h
  ·have:=hfst i h;rw[hi2]at this;cases this
  ·exact h
  ·obtain⟨o,ho,e,he,hon,hbd⟩:=hlater i h hi1
   obtain⟨_,o',ho',hall⟩:=mem_ready.1 hi
   rw[ho]at ho';cases ho'
   have:=hall e he hbd
   rw[hrest _ hon]at this;cases this
 subst hik
 refine xo g0 p2 hrun0 ?_
 rw[p3]
 generalize ha1:a.put (some r) Rv=a1
 have hRep1:ga core.g' sa (core.W ys) (put st1.tm (some r) va) a1.tmps.toList:=by
  rw[<- ha1]
  exact oa (hR.tm.mono core.ext) (by rw[<- hRv];exact core.rep) (some r)
 obtain⟨L,L1,L2,st3,L3,L4,L5,L6⟩:=Gk (st:={st1 with tm:=put st1.tm (some r) va,s:=sa}) hRep1 hs9
 replace L4:st3.s=sa:=L4
 replace L5:st3.df=st1.df:=L5
 replace L6:ga core.g' sa (core.W ys) st3.tm (rj a1 L).tmps.toList:=L6
 have hLl:L.length=Qs.length:=by have:=congrArg List.length L1;simpa using this
 have hrL:∀j,r ∉ (L.take j).map (·.1):=λj hm=>hrb (by rw[<- L1];exact(List.map_subset _ (List.take_subset _ _)) hm)
 have hdL:∀j,d ∉ (L.take j).map (·.1):=λj hm=>hdb (by rw[<- L1];exact(List.map_subset _ (List.take_subset _ _)) hm)
 have hst3:∃pv rv sb,evX st3.tm (.t p)=some pv/\evX st3.tm (.t r)=some rv/\uo sa 1 rv pv=some sb/\ex = .normal/\st' = {tm:=put st3.tm (some d) .unk,df:=st1.df,s:=sb}:=by
  simp only[kg,iw,iu]at L3
  cases hop:opA st3.tm st3.s (.store 1 (.t p) (.t r))with
  | none=>rw[hop]at L3;simp at L3
  | some rr=>
   rw[hop]at L3
   simp only[opA]at hop
   split at hop
   ·rename_i pv rv e1 e2
    obtain⟨sb,e3,rfl⟩:=fp hop
    simp only[opA,evX,fh,put,fe,ff]at L3
    rw[L4]at e3
    exact⟨pv,rv,sb,e1,e2,e3,L3.1.symm,by rw[<- L3.2,L5];rfl⟩
   ·simp at hop
 obtain⟨pv,rv,sb,e1',e2',e3',rfl,rfl⟩:=hst3
 unfold uo at e3'
 split at e3'
 case h_2=>simp at e3'
 rename_i ib off
 split at e3'
 case h_2=>simp at e3'
 rename_i lb hHb
 split at e3'
 case isFalse=>simp at e3'
 rename_i hcb
 simp only[fe]at e3'
 subst e3'
 obtain⟨b',hb',hpv⟩:=(fx (x:=.tmp p) (y:=.t p) rfl e1' L6).mj
 have hbb:core.b ≠ b':=λe=>core.fresh ib (by rw[hb',e])
 have hrlt:r<a.tmps.size:=by
  have h9:r<st3.tm.length:=by
   have:=(List.getElem?_eq_some_iff.1 (show st3.tm[r]? = some rv from e2')).1;exact this
  rw[L6.1,Array.length_toList,G1,<- ha1]at h9
  simpa[Act.put]using h9
 have hdlt:d<a.tmps.size:=by
  have h9:d<st1.tm.length:=(List.getElem?_eq_some_iff.1 (show st1.tm[d]? = some qd from h5)).1
  rw[hR.tm.1,Array.length_toList]at h9;exact h9
 have hevR:∀j,(rj a1 (L.take j)).eval (.tmp r)=Rv:=λj=>by
  rw[rk (Dy (hrL j)),<- ha1]
  simp[Act.eval,Act.put,hrlt]
 obtain⟨cs,el,⟨rs,hc1⟩,hc2⟩:=core.inv.obj ib b' _ hb' hHb
 have hlb:off+1<=cs.length:=by have:=hc2.1;omega
 have hRone:Rv.cells.toList=[Rv]/\Rv.cells.size=1/\Rv.oneCell'=true:=by rw[<- hRv];exact⟨rfl,rfl,rfl⟩
 generalize hrows:((cs++rs).toArray.toList.take (off+0)++[Rv]++(cs++rs).toArray.toList.drop (off+0+[Rv].length)).toArray=rows
 have hsz3:∀w,(sizeOf t3).run P w = .ok 1 w:=λw=>by
  unfold Ig at l4
  cases hi:P.info? t3 with
  | none=>rw[hi]at l4;simp at l4
  | some it=>rw[hi]at l4;simp only[fh,fe]at l4;rw[<- l4];exact nj hi w
 have hlastrun:∀(a2:Act) (w2:World),a2.eval (.tmp p) = .pointer (some ⟨b',off,none⟩)->a2.eval (.tmp r)=Rv->w2.heap[b']? = some (.cells (cs++rs).toArray el (0,0))->(execOp a2.eval oL).run P w2 = .ok .skip (w2.setRow b' rows):=by
  intro a2 w2 q1 q2 q3
  have hst:=run_storeCells_at (P:=P) b' off el [Rv] 0 (cs++rs).toArray w2 q3 (by simp only[List.length_singleton,List.size_toArray,ah];omega) (by simpa using hRone.2.2)
  rw[hrows]at hst
  simp only[execOp,l1,q1,q2,Instr.storeAt,Instr.sureAddr,Sem.run_bind,Sem.run_pure,Result.andThen_ok,storeVar,hsz3,hRone.2.1,ne_eq,not_true,if_false,hRone.1,hst]
 have hsz2:∀w,(sizeOf t2).run P w = .ok es w:=λw=>by
  unfold Ig at s4
  cases hi:P.info? t2 with
  | none=>rw[hi]at s4;simp at s4
  | some it=>rw[hi]at s4;simp only[fh,fe]at s4;rw[<- s4];exact nj hi w
 have hvsz:(a.eval v0).cells.size=es:=by rw[<- Array.length_toList,hysd,hysl]
 have helrun:∀(a2:Act) (w2:World),a2.eval (.tmp d) = .pointer (some ⟨core.b,lx.length*es,none⟩)->a2.eval v0=a.eval v0->w2.heap[core.b]? = some (.cells (core.pre++zs++core.rest).toArray core.el (0,0)) ->
   (execOp a2.eval o2).run P w2 = .ok .skip (w2.setRow core.b (core.pre++ys++core.rest).toArray):=by
  intro a2 w2 q1 q2 q3
  have hst:=run_storeCells_at (P:=P) core.b (lx.length*es) core.el ys 0 (core.pre++zs++core.rest).toArray w2 q3 (by simp only[List.size_toArray,ah,core.oz];omega) hyone
  have htake:(core.pre++zs++core.rest).take (lx.length*es+0)=core.pre:=by rw[Nat.add_zero,aj,List.take_left' core.oz]
  have hdrop':(core.pre++zs++core.rest).drop (lx.length*es+0+ys.length)=core.rest:=List.drop_left' (by simp only[ah,core.oz];omega)
  rw[List.toList_toArray,htake,hdrop']at hst
  simp only[execOp,s1,q1,q2,Instr.storeAt,Instr.sureAddr,Sem.run_bind,Sem.run_pure,Result.andThen_ok,storeVar,hsz2,hvsz,ne_eq,not_true,if_false,hysd,hst]
 have hixrun:∀(a2:Act) (w2:World),a2.eval (.tmp r)=Rv->a2.eval n0=a.eval n0->(execOp a2.eval o1).run P w2 = .ok (.value (.pointer (some ⟨core.b,lx.length*es,none⟩))) w2:=by
  intro a2 w2 q1 q2
  obtain⟨_,q3,_⟩:=jm i6
  rw[<- hRv]at q1
  simp only[execOp,i1,q1,q2,hN,Instr.indexAt,asIntOf,Sem.run_bind,Sem.run_pure,Result.andThen_ok,gu i4]
  simp[q3,l5,gu i4]
  intro h;omega
 let A:Value:=.pointer (some ⟨core.b,lx.length*es,none⟩)
 let act:Nat->Nat->Act:=λp q=>if p=0 then rj a1 (L.take q)else(rj a1 (L.take q)).put (some d) A
 let w0:Nat->World:=λp=>if p=2 then core.W ys else core.W zs
 let wd:Nat->Nat->World:=λp q=>if q=Qs.length+1 then(w0 p).setRow b' rows else w0 p
 have hheap:∀p,(w0 p).heap[b']? = some (.cells (cs++rs).toArray el (0,0)):=by
  intro p
  simp only[w0]
  split
  ·exact hc1
  ·rw[<- core.set zs ys hzsl hysl,setRow_other _ _ _ _ (λe=>hbb e.symm)]at hc1;exact hc1
 have hother:∀m,m ≠ d -> ∀p q,(act p q).tmps[m]? = (rj a1 (L.take q)).tmps[m]? := by
  intro m hm p q
  simp only[act]
  split
  ·rfl
  ·exact yz (λe=>hm e.symm)
 have hold:∀{x0:Operand} {x:X},gh x0=some x->okX r d (Qs.map (·.2.1)) x=true -> ∀p q,(act p q).eval x0=a.eval x0:=by
  intro x0 x hx hok p q
  refine Lb hx λm hm => ?_
  obtain⟨m1,m2,m3⟩:=U1 hok m hm
  rw[hother m m2,Dy (λh=>m3 (by rw[<- L1];exact(List.map_subset _ (List.take_subset _ _)) h)),<- ha1]
  exact yz (λe=>m1 e.symm)
 have hactR:∀p q,(act p q).eval (.tmp r)=Rv:=λp q=>by rw[rk (hother r hrd p q)];exact hevR q
 have hsetl:∀j,(listed.setIfInBounds i true).getD j false=true ↔ j=i\/listed.getD j false=true:=by
  intro j
  by_cases hji:j=i
  ·subst hji;simp[hsz,hi1]
  ·rw[getD_set_ne false (λe=>hji e.symm)];simp[hji]
 have hstart:=Ag (Q:=Q) hF (k:=i) (m:=Qs.length+1) (by omega) (λp q=>(act p q,wd p q)) hw12 (λj hj=>by
   rw[aw]at hwB
   exact hwB j (by simp;omega)) (λq hq K hK => ?_) (λq hq K hK => ?_) (λp' q hp hq K hK => ?_) ?_ fuel' 0 0 (listed.setIfInBounds i true) (by omega) (by omega) (by omega) (by simpa using hsz) λj => ?_
 ·simpa[act,wd,w0,rj]using hstart
 ·-- the element's place
  refine xo g1 i2 (hixrun _ _ (hactR 0 q) (hold i5 hokn 0 q)) ?_
  rw[i3]
  exact hK
 ·-- the element
  have hd:(act 1 q).eval (.tmp d)=A:=by
   simp only[act,if_neg (show ¬(1=0) by omega)]
   have:d<(rj a1 (L.take q)).tmps.size:=by rw[G1,<- ha1];simpa[Act.put]using hdlt
   simp[Act.eval,Act.put,this]
  have hh:(wd 1 q).heap[core.b]? = some (.cells (core.pre++zs++core.rest).toArray core.el (0,0)):=by
   simp only[wd,w0,if_neg (show ¬(1=2) by omega)]
   split
   ·rw[setRow_other _ _ _ _ hbb];exact core.heap zs hzsl
   ·exact core.heap zs hzsl
  refine Dw g2 s2 (helrun _ _ hd (hold s5 hokv 1 q) hh) ?_
  rw[s3]
  have he:(wd 1 q).setRow core.b (core.pre++ys++core.rest).toArray=wd 2 q:=by
   simp only[wd,w0,if_neg (show ¬(1=2) by omega),if_true]
   split
   ·rw[K7 _ (λe=>hbb e.symm),core.set zs ys hzsl hysl]
   ·exact core.set zs ys hzsl hysl
  rw[he]
  exact hK
 ·-- the variable
  by_cases hqQ:q<Qs.length
  ·obtain⟨o,qq,o1',o2',o3'⟩:=hoQ q hqQ
   obtain⟨x1,d1,kk⟩:=qq
   obtain⟨r1,r2,r3⟩:=Qa o3'
   obtain⟨b1,off1,r4,r5⟩:=L2 q _ o2'
   simp only at r4 r5
   have hx1:x1 ∈ Qs.map (·.1):=List.mem_map.2 ⟨_,aq o2',rfl⟩
   have hd1:d1 ∈ Qs.map (·.2.1):=List.mem_map.2 ⟨_,aq o2',rfl⟩
   have hxd:x1 ≠ d:=λe=>hdx (by rw[<- e];exact List.mem_cons_of_mem _ hx1)
   have hdd:d1 ≠ d:=λe=>hdb (by rw[<- e];exact hd1)
   refine xo (by rw[gB];exact o1') r1 (r3 (act p' q) b1 off1 (wd p' q) (by rw[rk (hother x1 hxd p' q)];exact r4)) ?_
   rw[r2]
   have hact:(act p' q).put (some d1) (.pointer (some ⟨b1,off1+kk,none⟩))=act p' (q+1):=by
    simp only[act,Pv r5]
    split
    ·rfl
    ·exact Act.put_comm _ _ _ (λdd e=>by cases e;intro e';cases e';exact hdd rfl)
   have hwd:wd p' q=wd p' (q+1):=by simp only[wd,if_neg (show ¬q=Qs.length+1 by omega),if_neg (show ¬q+1=Qs.length+1 by omega)]
   rw[hact,hwd]
   exact hK
  ·have hqe:q=Qs.length:=by omega
   subst hqe
   have hpd:p ≠ d:=λe=>hdx (by rw[<- e];exact List.mem_cons_self)
   have hLt:L.take Qs.length=L:=by rw[<- hLl,List.take_length]
   have hev:(act p' Qs.length).eval (.tmp p) = .pointer (some ⟨b',off,none⟩):=by rw[rk (hother p hpd p' _),hLt];exact hpv
   have hw':wd p' Qs.length=w0 p':=by simp only[wd,if_neg (show ¬Qs.length=Qs.length+1 by omega)]
   refine Dw (by rw[gB];exact hoL) l2 (by rw[hw'];exact hlastrun _ _ hev (hactR p' _) (hheap p')) ?_
   rw[l3]
   have hact:act p' Qs.length=act p' (Qs.length+1):=by
    simp only[act,hLt,au (show L.length<=Qs.length+1 by omega)]
   have hwd:(w0 p').setRow b' rows=wd p' (Qs.length+1):=by simp only[wd,if_true]
   rw[hwd,show (act p' Qs.length).put none undef=act p' (Qs.length+1)from hact]
   exact hK
 ·-- the end
  have hLt:L.take (Qs.length+1)=L:=au (by omega)
  have hact:act 2 (Qs.length+1)=(rj a1 L).put (some d) A:=by simp only[act,if_neg (show ¬(2=0) by omega),hLt]
  have hwd:wd 2 (Qs.length+1)=(core.W ys).setRow b' rows:=by simp only[wd,w0,if_true]
  have hp3:gh (.tmp p)=some (.t p):=rfl
  have hr3:gh (.tmp r)=some (.t r):=rfl
  obtain⟨g2',u2,w2',q1,q2,q3,q4,q5⟩:=Kg (P:=P) (g:=core.g') (s:=sa) (w:=core.W ys) (a:=rj a1 L) (o:=oL) l1 l4 hp3 hr3 e1' e2' hHb hcb.1 hcb.2.1 hcb.2.2 core.inv L6
  have hrunL:=hlastrun (rj a1 L) (core.W ys) hpv (by have:=hevR L.length;rwa [List.take_length]at this) hc1
  have hw2:w2'=(core.W ys).setRow b' rows:=by
   rcases q1 with q1|⟨q1,_⟩
   ·rw[hrunL]at q1;cases q1
   ·rw[hrunL]at q1;cases q1;rfl
  subst hw2
  simp only[hact,hwd]
  refine hQ g2' _ _ .normal (core.ext.trans q3) ⟨q2, ?_, ?_⟩ trivial
  ·exact oa (L6.mono q3) (.unk A) (some d)
  ·rw[put_defers,Iq,<- ha1,put_defers]
   exact hR.df.mono (core.ext.trans q3)
 ·rw[hsetl]
  constructor
  ·rintro(rfl|h)
   ·omega
   ·have:¬i<=j:=λhij=>by rw[hrest j hij]at h;cases h
    omega
  ·intro h
   have:j<i+1:=by omega
   rcases dj j i with h'|h'
   ·exact .inr (hfst j h')
   ·exact .inl (by omega)
end
end Go.Proofs.Eng
namespace Go.Proofs.Eng
open Go.RowKit
variable [DrK]
theorem a1z {a b:Value} (h:eqV a b=true):a=b:=by
 unfold eqV at h
 split at h
 ·simp only[dy,decide_eq_true_eq,beq_iff_eq]at h;rw[h.1,h.2]
 ·rw[(bytes_beq _ _).1 h]
 ·simp only[beq_iff_eq]at h;rw[h]
 ·rfl
 ·cases h
mutual
theorem Ik:∀{a b:AV},ml a b=true->a=b
 | .v a,b,h=>by
  cases b<;>simp only[ml]at h<;>first|(cases h;done)|rw[a1z h]
 | .ptr i o,b,h=>by
  cases b<;>simp only[ml,dy,beq_iff_eq]at h<;>first|(cases h;done)|rw[h.1,h.2]
 | .mp i,b,h=>by
  cases b<;>simp only[ml,beq_iff_eq]at h<;>first|(cases h;done)|rw[h]
 | .sl l t,b,h=>by
  cases b<;>simp only[ml,dy,decide_eq_true_eq]at h<;>first|(cases h;done)|rw[h.1,Es h.2]
 | .agg l,b,h=>by
  cases b<;>simp only[ml]at h<;>first|(cases h;done)|rw[Es h]
 | .ip ..,b,h=>by cases b<;>simp[ml]at h
 | .bs ..,b,h=>by
  cases b<;>simp only[ml,dy,beq_iff_eq]at h<;>first|(cases h;done)|skip
  obtain⟨⟨⟨⟨rfl,rfl⟩,rfl⟩,rfl⟩,rfl⟩:=h
  rfl
 | .fn ..,b,h=>by cases b<;>simp[ml]at h
 | .bm ..,b,h=>by cases b<;>simp[ml]at h
 | .tup _,b,h=>by cases b<;>simp[ml]at h
 | .iface ..,b,h=>by cases b<;>simp[ml]at h
 | .unk,b,h=>by cases b<;>simp[ml]at h
theorem Es:∀{l m:List AV},k9 l m=true->l=m
 | [],m,h=>by cases m<;>simp only[k9]at h<;>first|rfl|(cases h;done)
 | x::l,m,h=>by
  cases m with
  | nil=>simp only[k9]at h;cases h
  | cons y m=>
   simp only[k9,dy]at h
   rw[Ik h.1,Es h.2]
end
section
variable {P:Program} {call:ia} {md:FuncId->Md} {bsf:Bf} {ops:Array Oper} {ps:List PI} {m n:Nat}
structure ra (E:List PI) (v:Nat->AV) (tm0:List AV) (Lk:Nat->Bool) (tm:List AV):Prop where
 len:tm.length=tm0.length
 out:∀d,(∀(j:Nat) (i:PI),E[j]? = some i->i.dst=some d->Lk j=false)->tm[d]? = tm0[d]?
 inn:∀(j:Nat) (i:PI) (d:Nat),E[j]? = some i->i.dst=some d->Lk j=true->tm[d]? = if d<tm0.length then some (v j)else none
theorem ra.put {E:List PI} {v:Nat->AV} {tm0 tm:List AV} {Lk:Nat->Bool} (h:ra E v tm0 Lk tm) {k:Nat} {i:PI} (hi:E[k]? = some i) (hk:Lk k=false) (hd:∀(j:Nat) (q:PI) (d:Nat),E[j]? = some q->q.dst=some d->i.dst=some d->j=k) :
  ra E v tm0 (λj=>Lk j||j==k) (put tm i.dst (v k)):=by
 refine⟨by rw[zz];exact h.len,λd hd2 => ?_,λj q d hj hq hl => ?_⟩
 ·have hne:i.dst ≠ some d:=λe=>by have:=hd2 k i hi e;simp at this
  rw[l9 hne]
  exact h.out d λj q hj hq=>by have:=hd2 j q hj hq;simp only[Bool.or_eq_false_iff]at this;exact this.1
 ·by_cases hid:i.dst=some d
  ·have hjk:=hd j q d hj hq hid
   subst hjk
   rw[hid,lz,h.len]
  ·rw[l9 hid]
   have:Lk j=true:=by
    simp only[ei,beq_iff_eq]at hl
    rcases hl with hl|rfl
    ·exact hl
    ·rw[hi]at hj;cases hj;exact absurd hq hid
   exact h.inn j q d hj hq this
theorem ra.eq {E:List PI} {v:Nat->AV} {tm0 tm tm':List AV} {Lk Lk':Nat->Bool} (h:ra E v tm0 Lk tm) (h':ra E v tm0 Lk' tm') (d:Nat) (hd:∀(j:Nat) (i:PI),E[j]? = some i->i.dst=some d->Lk j=Lk' j):tm[d]? = tm'[d]? := by
 by_cases hx:∃(j:Nat) (i:PI),E[j]? = some i/\i.dst=some d/\Lk j=true
 ·obtain⟨j,i,h1,h2,h3⟩:=hx
  rw[h.inn j i d h1 h2 h3,h'.inn j i d h1 h2 (by rw[<- hd j i h1 h2];exact h3)]
 ·have h1:∀(j:Nat) (i:PI),E[j]? = some i->i.dst=some d->Lk j=false:=λj i hj hi=>by
   cases hl:Lk j with
   | false=>rfl
   | true=>exact absurd ⟨j,i,hj,hi,hl⟩ hx
  rw[h.out d h1,h'.out d λj i hj hi=>by rw[<- hd j i hj hi];exact h1 j i hj hi]
theorem Bz:∀{l:List PI} {a b:St},qg call md l a=some b->B0 call md l a b
 | [],a,b,h=>by simp only[qg,fe]at h;exact h
 | i::l,a,b,h=>by
  simp only[qg]at h
  split at h
  ·rename_i st hs
   exact⟨st,hs,Bz h⟩
  ·cases h
theorem Fq {i:PI} {tm:List AV} {s s':ASt} {x:AV ⊕ AV} (hk:(i.op.kd = .S\/i.op.kd = .C)\/i.op.kd = .R) (h:jl call md i tm s=some (x,s')):s'=s:=by
 rcases hk with hk|hk
 ·exact(ov hk h).1
 ·obtain⟨H,T⟩:=s
  exact(A5 hk h).1
theorem Gi {tm:List AV} {s:ASt} {o:PO} {f:FuncId} {args:List AV} (h:opA tm s o=some (.call f args)):o.kd = .C:=by
 cases o with
 | call f l=>rfl
 | _=>exfalso;simp only[opA]at h;(repeat' (split at h))<;>first|(simp at h;done)|(simp[Option.bind_eq_some_iff]at h;done)
theorem Fa {i:PI} {tm tm':List AV} {s:ASt} {df df':List (FuncId × List AV)} {ex:gg} {st':St} (hg:i.g=none) (hk:i.op.a3n=true) (hx:∀x ∈ i.op.xs,evX tm x=evX tm' x) (h:iw call md false i ⟨tm',df,s⟩=some (ex,st')) :
  (ex = .normal -> ∃v,st'=⟨Go.Proofs.Eng.put tm' i.dst v,df,st'.s⟩/\iw call md false i ⟨tm,df',s⟩=some (.normal,⟨Go.Proofs.Eng.put tm i.dst v,df',st'.s⟩))/\(∀v,ex = .pan v->iw call md false i ⟨tm,df',s⟩=some (.pan v,⟨tm,df',st'.s⟩))/\(ex = .normal \/ ∃v,ex = .pan v):=by
 have hop:=vo (s:=s) (po:=i.op) hx
 cases hc:i.op with
 | call f l=>
  unfold iw at h ⊢
  simp only[hg,iu]at h ⊢
  rw[hop]
  cases ho:opA tm' s i.op with
  | none=>rw[ho]at h;simp at h
  | some r=>
   rw[ho]at h
   cases r with
   | call f args=>
    simp only at h ⊢
    cases hca:me call md false s f args with
    | none=>rw[hca]at h;simp at h
    | some x=>
     obtain⟨o,s1⟩:=x
     rw[hca]at h
     cases o with
     | ret v=>
      simp only[fe,ff]at h
      obtain⟨rfl,rfl⟩:=h
      exact⟨λ_=>⟨v,rfl,rfl⟩,λv e=>(by cases e),.inl rfl⟩
     | pan v=>
      simp only[fe,ff]at h
      obtain⟨rfl,rfl⟩:=h
      exact⟨λe=>(by cases e),λw e=>(by cases e;rfl),.inr ⟨v,rfl⟩⟩
   | _=>exfalso;rw[hc]at ho;simp only[opA]at ho;(repeat' (split at ho))<;>simp at ho
 | app es bs x y=>
  rw[hc]at hk
  cases bs with
  | none=>cases hk
  | some b=>
   unfold iw at h ⊢
   simp only[hg,iu]at h ⊢
   rw[hop]
   cases ho:opA tm' s i.op with
   | none=>rw[ho]at h;simp at h
   | some r=>
    rw[ho]at h
    cases r with
    | val v s1=>
     simp only[fe,ff]at h
     obtain⟨rfl,rfl⟩:=h
     exact⟨λ_=>⟨v,rfl,rfl⟩,λv e=>(by cases e),.inl rfl⟩
    | _=>exfalso;rw[hc]at ho;simp only[opA]at ho;(repeat' (split at ho))<;>first|(simp at ho;done)|(obtain⟨_,_,e⟩:=fp ho;cases e)
 | clone es ag tl x=>
  unfold iw at h ⊢
  simp only[hg,iu]at h ⊢
  rw[hop]
  cases ho:opA tm' s i.op with
  | none=>rw[ho]at h;simp at h
  | some r=>
   rw[ho]at h
   cases r with
   | val v s1=>
    simp only[fe,ff]at h
    obtain⟨rfl,rfl⟩:=h
    exact⟨λ_=>⟨v,rfl,rfl⟩,λv e=>(by cases e),.inl rfl⟩
   | _=>exfalso;rw[hc]at ho;simp only[opA]at ho;(repeat' (split at ho))<;>simp at ho
 | _=>rw[hc]at hk;cases hk
structure Da (ops:Array Oper) (ps:List PI) (m n:Nat):Prop where
 sg:l6 ops [] m n
 dst:∀(i j:Nat) (p q:PI) (d:Nat),m<=i->i<n->m<=j->j<n->ps[i]? = some p->ps[j]? = some q->q.dst=some d->(i=j\/p.dst ≠ some d)/\True
theorem l6.none {ops:Array Oper} {m n:Nat} (h1:n<=ops.size) (h2:m<=n) (h3:n=ops.size \/ ∀i,m<=i->i<n -> ∃j,i<j/\j<=n /\ ∃o:Oper,ops[j]? = some o /\ ∃e ∈ o.after,e.on=i/\Region.binds .any e=true) (h4:∀j,n<j->j<ops.size -> ∃o:Oper,ops[j]? = some o /\ ∃e ∈ o.after,n<=e.on/\Region.binds .any e=true):l6 ops [] m n:=
 ⟨h1,h2,λi p _ _ h=>by simp at h,λi j p q _ _ _ h=>by simp at h,λi j p q d _ _ _ _ h=>by simp at h,h3,h4⟩
theorem l6.pc {ops:Array Oper} {ps:List PI} {m n:Nat} (h:l6 ops ps m n):Da ops ps m n:=⟨.none h.le h.mle h.sink h.later,λi j p q d h1 h2 h3 h4 h5 h6 h7=>⟨(h.dst i j p q d h1 h2 h3 h4 h5 h6 h7).1,trivial⟩⟩
structure Nk (call:ia) (md:FuncId->Md) (E:List PI) (c e:Nat) (st:St) (s1 s2:ASt) (ex:gg) (v:Nat->AV) (TM:Nat->List AV):Prop where
 pl:∀(j:Nat) (p:PI),E[j]? = some p->j ≠ c->j ≠ e->(p.op.kd = .S\/p.op.kd = .C)\/p.op.kd = .R
 lt:c<e
 app:∀(p:PI),E[e]? = some p->ex = .normal->p.op.kd = .T/\jl call md p (TM e) s1=some (.inl (v e),s2)
 a1h:E[e]? = none->s2=s1
 gn:∀(j:Nat) (p:PI),E[j]? = some p->p.g=none
 rel:∀(j:Nat),j<=c\/(ex = .normal/\j<=E.length)->ra E v st.tm (λk=>decide (k<j)) (TM j)
 a78:∀(j:Nat) (p:PI),E[j]? = some p->j<c->jl call md p (TM j) st.s=some (.inl (v j),st.s)
 a6t:∀(j:Nat) (p:PI),E[j]? = some p->c<j->j ≠ e->ex = .normal->jl call md p (TM j) s1=some (.inl (v j),s1)
 cal:∃(p:PI) (stc:St),E[c]? = some p/\p.op.a3n=true/\iw call md false p ⟨TM c,st.df,st.s⟩=some (ex,stc)/\stc.s=s1/\(ex = .normal->stc.tm=put (TM c) p.dst (v c)) /\
  (∀(j:Nat) (q:PI),E[j]? = some q->c<j->p.ix ∈ q.pre)/\(ex = .normal -> ∀(j:Nat) (q:PI),E[j]? = some q->j<c->q.ix ∈ p.pre\/q.op.kd = .S\/m8 (TM c) st.s s1 q.op=true)
theorem Uo {i:PI} {tm:List AV} {s1 s2:ASt} {x:AV} (hk:(i.op.kd = .S\/i.op.kd = .C)\/i.op.kd = .R) (hH:s2.H=s1.H) (h:jl call md i tm s1=some (.inl x,s1)):jl call md i tm s2=some (.inl x,s2):=by
 rcases hk with hk|hk
 ·exact(ov hk h).2 s2
 ·obtain⟨H,T⟩:=s1
  obtain⟨H2,T2⟩:=s2
  simp only at hH
  subst hH
  exact(A5 hk h).2 T2
theorem R7 {i:PI} {tm:List AV} {s1 s2:ASt} {x:AV} (hk:i.op.kd = .T) (hg:i.g=none) (h:jl call md i tm s1=some (.inl x,s2)):s2.H=s1.H:=by
 unfold jl at h
 rw[hg]at h
 simp only[iu]at h
 obtain⟨H,T⟩:=s1
 cases ho:opA tm ⟨H,T⟩ i.op with
 | none=>rw[ho]at h;simp at h
 | some r=>
  obtain⟨v,T',rfl⟩:=Rr hk ho
  rw[ho]at h
  simp only[fe,ff]at h
  rw[<- h.2]
structure Perm (E ps:List PI) (m n:Nat) (σ:Nat->Nat):Prop where
 inn:∀j,j<E.length->m<=σ j/\σ j<n
 out:∀j,E.length<=j->n<=σ j
 inj:∀i j,i<E.length->j<E.length->σ i=σ j->i=j
 sur:∀i,m<=i->i<n -> ∃j,j<E.length/\σ j=i
 to:∀(j:Nat) (p:PI),E[j]? = some p->p.ix=σ j/\ps[σ j]? = some p
 ord:∀(j:Nat) (p:PI) (k:Nat),E[j]? = some p->k ∈ p.pre->m<=k -> ∃i,i<j/\σ i=k
theorem Fi (hS:Sound P call) (hF:jo P bsf ops ps) (hG:Da ops ps m n) (hTS:∀(i j:Nat) (p q:PI) (d:Nat),m<=i->i<n->m<=j->j<n->ps[i]? = some p->ps[j]? = some q->q.dst=some d->p.looks d=true->j ∈ p.pre) {E:List PI} {c e:Nat} {st:St} {s1 s2:ASt} {ex:gg} {v:Nat->AV} {TM:Nat->List AV} {σ:Nat->Nat} (hσ:Perm E ps m n σ)
  (hr:Nk call md E c e st s1 s2 ex v TM) {Q:Exit->Act->World->Prop} {g0:Gh} {w0:World} (hpan:∀x,ex = .pan x->QOK g0 st.s w0 (.pan x) {st with tm:=kq E st.tm,s:=s1} Q)
  (hnext:ex = .normal -> ∀(fuel:Nat) (listed:Array Bool) (a:Act) (g:Gh) (w:World),fuel+n=ops.size->listed.size=ops.size->ll ops listed->(∀j,j<n->listed.getD j false=true)->(∀j,n<=j->listed.getD j false=false)->jv g w ⟨TM E.length,st.df,s2⟩ a->Ext g0 st.s w0 g s2 w->wpAny P .any ops Q fuel listed a w) :
  ∀(fuel:Nat) (listed:Array Bool) (a:Act) (g:Gh) (w:World) (tm:List AV) (s:ASt),listed.size=ops.size->fuel+List.countP (λj=>listed.getD j false) (List.range ops.size)=ops.size->ll ops listed->(∀j,j<m->listed.getD j false=true)->(∀j,n<=j->listed.getD j false=false) ->
   (listed.getD (σ c) false=true->ex = .normal/\s=if listed.getD (σ e) false=true then s2 else s1)->(listed.getD (σ c) false=false->s=st.s)->ra E v st.tm (λj=>listed.getD (σ j) false) tm->jv g w ⟨tm,st.df,s⟩ a->Ext g0 st.s w0 g s w->wpAny P .any ops Q fuel listed a w:=by
 obtain⟨pc,stc,hc1,hcC,hc2,hc3,hc4,hc5,hc6⟩:=hr.cal
 have hcl:c<E.length:=(List.getElem?_eq_some_iff.1 hc1).1
 have hE:=hσ.to
 have hin':=hσ.inn
 have hout:=hσ.out
 have hne':∀a b,a<E.length->b ≠ a->σ b ≠ σ a:=λa b ha hb e=>by
  rcases dj b E.length with h|h
  ·exact hb (hσ.inj b a h ha e)
  ·have:=hout b h;have:=(hin' a ha).2;omega
 have hnle:=hG.sg.le
 have hce:=hr.lt
 have hend:∀{listed:Array Bool},(∀j,j<n->listed.getD j false=true)->(∀j,n<=j->listed.getD j false=false)->(if listed.getD (σ e) false=true then s2 else s1)=s2:=λ{listed} h1 h2=>by
  rcases dj e E.length with h|h
  ·rw[if_pos (h1 _ (hin' e h).2)]
  ·rw[if_neg (by rw[h2 _ (hout e h)];exact eu)]
   exact(hr.a1h (cx h)).symm
 have hecl:∀{listed:Array Bool},ll ops listed->(∀j,n<=j->listed.getD j false=false)->listed.getD (σ e) false=true->listed.getD (σ c) false=true:=λ{listed} hC h2 he=>by
  rcases dj e E.length with h|h
  ·have hEe:E[e]? = some E[e]:=aa h
   have h3:=hc5 e _ hEe hce
   have h4:=(lf hF hC (σ e) _ (hE e _ hEe).2 (λo2 e2 ho2 he2 hb=>hC (σ e) o2 e2 he ho2 he2 hb) _ h3).1
   rw[(hE c pc hc1).1]at h4
   exact h4
  ·rw[h2 _ (hout e h)]at he;cases he
 intro fuel
 induction fuel with
 | zero=>
  intro listed a g w tm s hsz hcount hC hfst hrest hs1 hs0 hT hR hX
  have hall:∀j,j<ops.size->listed.getD j false=true:=by
   intro j hj
   have h1:List.countP (λj=>listed.getD j false) (List.range ops.size)=(List.range ops.size).length:=by simpa using hcount
   exact List.countP_eq_length.1 h1 j (List.mem_range.2 hj)
  have hno:n=ops.size:=by
   rcases dj n ops.size with h|h
   ·have:=hall n h;rw[hrest n (di _)]at this;cases this
   ·omega
  obtain⟨he,hss⟩:=hs1 (hall _ (by have:=(hin' c hcl).2;omega))
  rw[hend (λj hj=>hall j (by omega)) hrest]at hss
  subst hss
  have htm:tm=TM E.length:=by
   apply List.ext_getElem?
   intro d
   exact hT.eq (hr.rel E.length (.inr ⟨he,di _⟩)) d λj i hj _=>by
    have hjl:=(List.getElem?_eq_some_iff.1 hj).1
    rw[hall _ (by have:=(hin' j hjl).2;omega)];simp[hjl]
  subst htm
  exact hnext he 0 listed a g w (by omega) hsz hC (λj hj=>hall j (by omega)) hrest hR hX
 | succ fuel ih=>
  intro listed a g w tm s hsz hcount hC hfst hrest hs1 hs0 hT hR hX
  by_cases hall:∀j,j<n->listed.getD j false=true
  ·obtain⟨he,hss⟩:=hs1 (hall _ (hin' c hcl).2)
   rw[hend hall hrest]at hss
   subst hss
   have htm:tm=TM E.length:=by
    apply List.ext_getElem?
    intro d
    exact hT.eq (hr.rel E.length (.inr ⟨he,di _⟩)) d λj i hj _=>by
     have hjl:=(List.getElem?_eq_some_iff.1 hj).1
     rw[hall _ (hin' j hjl).2];simp[hjl]
   subst htm
   have hcn:List.countP (λj=>listed.getD j false) (List.range ops.size)=n:=u7 ops.size hnle λj _=>⟨λh=>(by
    rcases dj j n with h'|h'
    ·exact h'
    ·rw[hrest j h']at h;cases h),hall j⟩
   exact hnext he (fuel+1) listed a g w (by omega) hsz hC hall hrest hR hX
  ·have hex:∃j0,j0<n/\listed.getD j0 false=false:=by
    have:=Classical.not_forall.1 hall
    obtain⟨j0,hj0⟩:=this
    obtain⟨h1,h2⟩:=Classical.not_imp.1 hj0
    exact⟨j0,h1,by simpa using h2⟩
   obtain⟨j0,hj0,hl0⟩:=hex
   refine⟨λhnil => ?_,λi hi => ?_⟩
   ·obtain⟨j,_,hj⟩:=ph hF hsz j0 (by omega) hl0
    rw[hnil]at hj;simp at hj
   have hin:=zu hG.sg hC hfst hrest hi hj0 hl0
   have hiu:=qb hsz hi
   have him:m<=i:=by
    rcases dj i m with h|h
    ·rw[hfst i h]at hiu;cases hiu
    ·exact h
   obtain⟨j,hjl,rfl⟩:=hσ.sur i him hin
   obtain⟨p,hEj⟩:∃p,E[j]? = some p:=⟨_,aa hjl⟩
   have hps:=(hE j p hEj).2
   obtain⟨o,ho,q1,q2,q3⟩:=hF.Wm (σ j) _ hps
   rw[dp]at ho
   obtain⟨_,o',ho',hallr⟩:=mem_ready.1 hi
   rw[ho]at ho';cases ho'
   have oz:∀k ∈ p.pre,listed.getD k false=true/\k<σ j:=lf hF hC (σ j) p hps (λo2 e ho2 he hb=>by rw[ho]at ho2;cases ho2;exact hallr e he hb)
   have hdd:∀(k:Nat) (q:PI) (d:Nat),E[k]? = some q->q.dst=some d->p.dst=some d->k=j:=λk q d hk hq hp=>by
    have hkl:=(List.getElem?_eq_some_iff.1 hk).1
    have:=(hG.dst (σ j) (σ k) p q d him hin (hin' k hkl).1 (hin' k hkl).2 hps (hE k q hk).2 hq).1
    rcases this with h|h
    ·exact hσ.inj k j hkl hjl h.symm
    ·exact absurd hp h
   have look:∀{Lk':Nat->Bool} {tm':List AV},ra E v st.tm Lk' tm'->(∀k,k<j->listed.getD (σ k) false=true->Lk' k=true) -> ∀d,p.looks d=true->tm[d]? = tm'[d]? := λhT' hL d hd=>hT.eq hT' d λk q hk hq=>by
    have hkl:=(List.getElem?_eq_some_iff.1 hk).1
    have hm':=hTS (σ j) (σ k) p q d him hin (hin' k hkl).1 (hin' k hkl).2 hps (hE k q hk).2 hq hd
    obtain⟨h1,h2⟩:=oz _ hm'
    obtain⟨i',h3,h4⟩:=hσ.ord j p _ hEj hm' (hin' k hkl).1
    have:=hσ.inj i' k (by omega) hkl h4
    rw[h1,hL k (by omega) h1]
   have hcount':∀x,x=σ j->fuel+List.countP (λk=>(listed.setIfInBounds x true).getD k false) (List.range ops.size)=ops.size:=by
    rintro _ rfl
    have h1:=count_set (p:=λk=>listed.getD k false) hiu ops.size
    rw[if_pos (by omega)]at h1
    have h2:List.countP (λk=>(listed.setIfInBounds (σ j) true).getD k false) (List.range ops.size)=List.countP (λk=>listed.getD k false||k==σ j) (List.range ops.size):=by
     congr 1
     funext k
     by_cases e:k=σ j
     ·subst e;simp[hsz,show σ j<ops.size by omega]
     ·rw[getD_set_ne false (λh=>e h.symm)];simp[e]
    rw[h2,h1];omega
   have hget:∀k,(listed.setIfInBounds (σ j) true).getD k false=(listed.getD k false||k==σ j):=λk=>by
    by_cases e:k=σ j
    ·subst e;simp[hsz,show σ j<ops.size by omega]
    ·rw[getD_set_ne false (λh=>e h.symm)];simp[e]
   have hTn:∀u,u=v j->ra E v st.tm (λk=>(listed.setIfInBounds (σ j) true).getD (σ k) false) (Go.Proofs.Eng.put tm p.dst u):=by
    rintro _ rfl
    have h1:=hT.put hEj hiu hdd
    have h2:(λk=>(listed.setIfInBounds (σ j) true).getD (σ k) false) = λk=>listed.getD (σ k) false||k==j:=by
     funext k
     rw[hget]
     have:(σ k==σ j)=(k==j):=by
      by_cases e:k=j
      ·subst e;simp
      ·rw[beq_false_of_ne e,beq_false_of_ne (hne' j k hjl e)]
     rw[this]
    rw[h2];exact h1
   have hC':=w8 hC hi
   refine uk ho ?_
   by_cases hjc:j=c
   ·subst hjc
    rw[hc1]at hEj;cases hEj
    have hss:=hs0 hiu
    subst hss
    obtain⟨x1,x2,x3⟩:=Fa (call:=call) (md:=md) (tm:=tm) (df':=st.df) (hr.gn _ _ hc1) hcC (qf (look (hr.rel j (.inl (di _))) λk hk _=>by simp[hk])).1 hc2
    rcases x3 with rfl|⟨x,rfl⟩
    ·obtain⟨u,y1,y2⟩:=x1 rfl
     have hu:Go.Proofs.Eng.put tm pc.dst u=Go.Proofs.Eng.put tm pc.dst (v j):=by
      cases hd:pc.dst with
      | none=>rfl
      | some d=>
       have h4:=hc4 rfl
       rw[y1,hd]at h4
       simp only at h4
       have h5:=congrArg (λl:List AV=>l[d]?) h4
       simp only[lz]at h5
       have hlen:(TM j).length=tm.length:=by rw[(hr.rel j (.inl (di _))).len,hT.len]
       by_cases hdl:d<(TM j).length
       ·rw[if_pos hdl,if_pos hdl]at h5
        simp only[fe]at h5
        rw[h5]
       ·simp only[Go.Proofs.Eng.put]
        rw[List.set_eq_of_length_le (by omega),List.set_eq_of_length_le (by omega)]
     rw[hu,hc3]at y2
     refine o8 hS q1 q2 q3 y2 hR (λ_ g' a' w' hE' hR' _ => ?_) (λv e=>by cases e)
     have hne:listed.getD (σ e) false=false:=by
      cases h9:listed.getD (σ e) false with
      | false=>rfl
      | true=>rw[hecl hC hrest h9]at hiu;cases hiu
     exact ih _ a' g' w' _ s1 (by simpa using hsz) (hcount' _ rfl) hC' (λk hk=>by rw[hget,hfst k hk];rfl) (λk hk=>by rw[hget,hrest k hk];simp;omega) (λ_=>⟨rfl,by rw[hget,hne,beq_false_of_ne (hne' j e hjl (by omega))];rfl⟩) (λh=>by rw[hget]at h;simp at h) (hTn _ rfl) hR' (hX.trans hE')
    ·have y2:=x2 x rfl
     rw[hc3]at y2
     refine o8 hS q1 q2 q3 y2 hR (λe=>by cases e) (λx' e g' a' w' u hE' hR' hu => ?_)
     cases e
     refine hpan x rfl g' a' w' _ (hX.trans hE') ⟨hR'.inv, ?_,hR'.df⟩ ⟨u,rfl,hu⟩
     have hRt:=hR'.tm
     refine⟨by rw[ur,<- hRt.1];exact hT.len.symm,λd x y e1 e2 => ?_⟩
     rcases A2 E st.tm d with⟨h1,h2⟩|h1|⟨h1,_⟩
     ·rw[h1]at e1
      have h3:=hT.out d λk q hk hq=>absurd hq (h2 q (aq hk))
      rw[<- h3]at e1
      exact hRt.2 d x y e1 e2
     ·rw[h1]at e1;cases e1;exact .unk _
     ·rw[h1]at e1;cases e1
   by_cases hje:j=e
   ·subst hje
    have hgn:=hr.gn j p hEj
    have hpc:=hc5 j p hEj hce
    have hcl:=(oz _ hpc).1
    rw[(hE c pc hc1).1]at hcl
    obtain⟨he,hss⟩:=hs1 hcl
    rw[if_neg (by rw[hiu];exact eu)]at hss
    subst hss
    obtain⟨hkT,hv⟩:=hr.app p hEj he
    obtain⟨r1,r2⟩:=qf (look (hr.rel j (.inr ⟨he,by have:=(List.getElem?_eq_some_iff.1 hEj).1;omega⟩)) λk hk _=>by simp[hk])
    rw[<- nr r1 r2]at hv
    have hst:=vi hv st.df
    refine o8 hS q1 q2 q3 hst hR (λ_ g' a' w' hE' hR' _ => ?_) (λv e=>by cases e)
    refine ih _ a' g' w' _ s2 (by simpa using hsz) (hcount' _ rfl) hC' (λk hk=>by rw[hget,hfst k hk];rfl) (λk hk=>by rw[hget,hrest k hk];simp;omega) (λ_=>⟨he,by rw[hget];simp⟩) (λh => ?_) (hTn _ rfl) hR' (hX.trans hE')
    rw[hget,hcl]at h;cases h
   ·have hkd:=hr.pl j p hEj hjc hje
    have hgn:=hr.gn j p hEj
    have hH2:s2.H=s1.H\/ex ≠ .normal:=by
     cases hEe:E[e]? with
     | none=>exact .inl (by rw[hr.a1h hEe])
     | some pe=>
      by_cases he:ex = .normal
      ·obtain⟨h1,h2⟩:=hr.app pe hEe he
       exact .inl (R7 h1 (hr.gn e pe hEe) h2)
      ·exact .inr he
    have at2:∀{x:AV},ex = .normal->jl call md p tm s1=some (.inl x,s1)->jl call md p tm (if listed.getD (σ e) false=true then s2 else s1)=some (.inl x,if listed.getD (σ e) false=true then s2 else s1):=λhe h=>by
     split
     ·exact Uo hkd (hH2.resolve_right (λh=>h he)) h
     ·exact h
    have hval:jl call md p tm s=some (.inl (v j),s):=by
     rcases dj j c with hlt|hge
     ·have hv:=hr.a78 j p hEj hlt
      have hcg:jl call md p tm st.s=some (.inl (v j),st.s):=by
       obtain⟨r1,r2⟩:=qf (look (hr.rel j (.inl (by omega))) λk hk _=>by simp[hk])
       rw[nr r1 r2];exact hv
      cases hcl:listed.getD (σ c) false with
      | false=>rw[hs0 hcl];exact hcg
      | true=>
       obtain⟨he,hss⟩:=hs1 hcl
       rw[hss]
       refine at2 he ?_
       clear hss
       rcases hkd with hkS|hkR
       ·exact(ov hkS hcg).2 s1
       ·rcases hc6 he j p hEj hlt with h|h|h
        ·exfalso
         have hpc:=(hE c pc hc1).2
         have h2:=(lf hF hC (σ c) pc hpc (λo2 e ho2 he2 hb=>hC (σ c) o2 e hcl ho2 he2 hb) _ h).1
         rw[(hE j p hEj).1,hiu]at h2;cases h2
        ·rw[hkR]at h;cases h
        ·-- what is loaded is the same
         have hop:∀{t:List AV} {z:ASt} {y:AV},jl call md p t z=some (.inl y,z)->opA t z p.op=some (.val y z):=by
          intro t z y hy
          unfold jl at hy
          rw[hgn]at hy
          simp only[iu]at hy
          split at hy
          ·rename_i y' z' ho2
           simp only[fe,ff,Sum.inl.injEq]at hy
           rw[ho2,hy.1,hy.2]
          ·rename_i f args ho2
           have:=Gi ho2
           rw[hkR]at this;cases this
          ·simp at hy
          ·simp at hy
         have h1:=hop hcg
         obtain⟨r1,_⟩:=qf (look (hr.rel c (.inl (di _))) λk hk _=>by simp;omega)
         have h2:∀z,opA tm z p.op=opA (TM c) z p.op:=λz=>vo r1
         unfold m8 at h
         rw[<- h2,<- h2,h1]at h
         split at h
         ·rename_i a1 z1 a2 z2 e1 e2
          cases e1
          have:=Ik h
          subst this
          have hz:z2=s1:=by
           obtain⟨H,T⟩:=s1
           obtain⟨v3,e3,_⟩:=Jv hkR e2
           cases e3;rfl
          subst hz
          unfold jl
          rw[hgn]
          simp only[iu,e2]
         ·cases h
     ·have hlt:c<j:=by omega
      have hpc:=hc5 j p hEj hlt
      have hcl:=(oz _ hpc).1
      rw[(hE c pc hc1).1]at hcl
      obtain⟨he,hss⟩:=hs1 hcl
      rw[hss]
      refine at2 he ?_
      clear hss
      obtain⟨r1,r2⟩:=qf (look (hr.rel j (.inr ⟨he,by have:=(List.getElem?_eq_some_iff.1 hEj).1;omega⟩)) λk hk _=>by simp[hk])
      rw[nr r1 r2];exact hr.a6t j p hEj hlt hje he
    have hst:=vi hval st.df
    refine o8 hS q1 q2 q3 hst hR (λ_ g' a' w' hE' hR' _ => ?_) (λv e=>by cases e)
    refine ih _ a' g' w' _ s (by simpa using hsz) (hcount' _ rfl) hC' (λk hk=>by rw[hget,hfst k hk];rfl) (λk hk=>by rw[hget,hrest k hk];simp;omega) (λh=>by rw[hget (σ e),beq_false_of_ne (hne' j e hjl (λh=>hje h.symm)),Bool.or_false];rw[hget,beq_false_of_ne (hne' j c hjl (λh=>hjc h.symm)),Bool.or_false]at h;exact hs1 h) (λh=>hs0 ?_) (hTn _ rfl) hR' (hX.trans hE')
    ·rw[hget]at h
     have:(σ c==σ j)=false:=beq_false_of_ne (hne' j c hjl (λh=>hjc h.symm))
     rw[this,Bool.or_false]at h;exact h
theorem R4 {E:List PI} {S:Nat->St} {v:Nat->AV} (hr:Bt call md E S v) (hk:∀i ∈ E,(i.op.kd = .S\/i.op.kd = .C)\/i.op.kd = .R):∀j,j<=E.length->(S j).s=(S 0).s/\(S j).df=(S 0).df:=by
 intro j
 induction j with
 | zero=>intro _;exact⟨rfl,rfl⟩
 | succ j ih=>
  intro hj
  obtain⟨h1,h2⟩:=ih (by omega)
  have hE:E[j]? = some E[j]:=aa (by omega)
  have h3:=Fq (hk _ (aq hE)) (hr.val j _ hE)
  exact⟨h3.trans h1,(hr.df j _ hE).trans h2⟩
theorem J3 {E:List PI} {S:Nat->St} {v:Nat->AV} (hr:Bt call md E S v) {a b:Nat} (hb:b<=E.length) (hk:∀(j:Nat) (i:PI),a<=j->j<b->E[j]? = some i->(i.op.kd = .S\/i.op.kd = .C)\/i.op.kd = .R):∀j,a<=j->j<=b->(S j).s=(S a).s:=by
 intro j
 induction j with
 | zero=>intro h _;rw[Nat.le_zero.1 h]
 | succ j ih=>
  intro h1 h2
  rcases dj j a with h|h
  ·rw[show j+1=a by omega]
  ·have hE:E[j]? = some E[j]:=aa (by omega)
   exact(Fq (hk j _ h (by omega) hE) (hr.val j _ hE)).trans (ih h (by omega))
theorem a4c {E:List PI} {S:Nat->St} {v:Nat->AV} (hr:Bt call md E S v):∀j,j<=E.length->(S j).df=(S 0).df:=by
 intro j
 induction j with
 | zero=>intro _;rfl
 | succ j ih=>
  intro hj
  have hE:E[j]? = some E[j]:=aa (by omega)
  exact(hr.df j _ hE).trans (ih (by omega))
theorem wi (j:Nat):(λk=>decide (k<j)||k==j) = λk=>decide (k<j+1):=by
 funext k
 by_cases h:k=j
 ·subst h;simp
 ·rw[beq_false_of_ne h,Bool.or_false,decide_eq_decide];omega
theorem zr (hS:Sound P call) (hF:jo P bsf ops ps) (hG:Da ops ps m n) (hTS:∀(i j:Nat) (p q:PI) (d:Nat),m<=i->i<n->m<=j->j<n->ps[i]? = some p->ps[j]? = some q->q.dst=some d->p.looks d=true->j ∈ p.pre) {E:List PI} {σ:Nat->Nat} (hσ:Perm E ps m n σ) {c:Nat} (hok:rz E c=true) {st stF:St} {rp:Option (AV × ASt)} (hh:zm call md c E st=some (stF,rp)) {Q:Exit->Act->World->Prop} {g:Gh} {w:World} {fuel:Nat} {listed:Array Bool} {a:Act}
  (hpanQ:∀v s,rp=some (v,s)->QOK g st.s w (.pan v) {st with tm:=kq E st.tm,s} Q)
  (hnext:rp=none -> ∀(fuel:Nat) (listed:Array Bool) (a:Act) (g':Gh) (w':World),fuel+n=ops.size->listed.size=ops.size->ll ops listed->(∀j,j<n->listed.getD j false=true)->(∀j,n<=j->listed.getD j false=false)->jv g' w' stF a->Ext g st.s w g' stF.s w'->wpAny P .any ops Q fuel listed a w')
  (hfuel:fuel+m=ops.size) (hsz:listed.size=ops.size) (hC:ll ops listed) (hfst:∀j,j<m->listed.getD j false=true) (hrest:∀j,m<=j->listed.getD j false=false) (hR:jv g w st a):wpAny P .any ops Q fuel listed a w:=by
 have hnle:=hG.sg.le
 have hmle:=hG.sg.mle
 have hE:=hσ.to
 have hin':=hσ.inn
 simp only[rz,dy]at hok
 obtain⟨⟨ok1,ok2⟩,ok3⟩:=hok
 have hgn:∀(j:Nat) (p:PI),E[j]? = some p->p.g=none:=λj p hj=>by
  have:=aw.1 ok1 p (aq hj)
  simpa using this
 have hk1:∀i ∈ E.take c,(i.op.kd = .S\/i.op.kd = .C)\/i.op.kd = .R:=λi hi=>by
  have:=aw.1 ok2 i hi
  simpa using this
 cases hdr:E.drop c with
 | nil=>rw[hdr]at ok3;cases ok3
 | cons pc l'=>
  rw[hdr]at ok3
  simp only[dy,beq_iff_eq]at ok3
  obtain⟨⟨hcC,ok4⟩,ok5⟩:=ok3
  have hcl:c<E.length:=by
   rcases dj c E.length with h|h
   ·exact h
   ·rw[bt h]at hdr;cases hdr
  have hc1:E[c]? = some pc:=by
   have:=congrArg (λl:List PI=>l[0]?) hdr
   simpa[ba]using this
  have hl':∀k,l'[k]? = E[c+1+k]? := λk=>by
   have:=congrArg (λl:List PI=>l[k+1]?) hdr
   simp only[ba,bu]at this
   rw[<- this];congr 1;omega
  have hk3:∀i ∈ l',(i.op.kd = .S\/i.op.kd = .R)\/i.op.kd = .T:=λi hi=>by
   have:=aw.1 ok4 i hi
   simp only[dy,ei,beq_iff_eq]at this;exact this.1
  obtain⟨q,hqd⟩:∃q,q=l'.findIdx (λj=>j.op.kd == .T):=⟨_,rfl⟩
  rw[<- hqd]at ok5
  have hql:q<=l'.length:=by rw[hqd];exact List.findIdx_le_length
  have hk2:∀(k:Nat) (i:PI),l'[k]? = some i->k ≠ q->i.op.kd = .S\/i.op.kd = .R:=λk i hk hkq=>by
   rcases dj k q with h|h
   ·have h1:=List.not_of_lt_findIdx (show k<l'.findIdx (λj=>j.op.kd == .T) by rw[<- hqd];exact h)
    obtain⟨h2,h3⟩:=List.getElem?_eq_some_iff.1 hk
    rw[h3]at h1
    exact(hk3 i (aq hk)).resolve_right (by simpa using h1)
   ·have h1:(l'.drop (q+1))[k-(q+1)]? = some i:=by rw[ba,show q+1+(k-(q+1))=k by omega];exact hk
    have:=aw.1 ok5 i (aq h1)
    simpa using this
  have hkT:∀i,l'[q]? = some i->i.op.kd = .T:=λi hi=>by
   obtain⟨h2,h3⟩:=List.getElem?_eq_some_iff.1 hi
   have h4:=List.findIdx_getElem (xs:=l') (p:=λj=>j.op.kd == .T) (w:=by rw[<- hqd];exact h2)
   have h5:l'[q]? = some (l'[l'.findIdx (λj=>j.op.kd == .T)]'(by rw[<- hqd];exact h2)):=by rw[<- aa];rw[<- hqd]
   rw[hi]at h5
   rw[<- Option.some.inj h5]at h4
   simpa using h4
  have hc5:∀(j:Nat) (q:PI),E[j]? = some q->c<j->pc.ix ∈ q.pre:=λj q hj hcj=>by
   have h1:l'[j-(c+1)]? = some q:=by rw[hl',show c+1+(j-(c+1))=j by omega];exact hj
   have:=aw.1 ok4 q (aq h1)
   simp only[dy,List.contains_iff_mem]at this;exact this.2
  have hnX:∀{l:List PI},(∀i ∈ l,(i.op.kd = .S\/i.op.kd = .R)\/i.op.kd = .T) -> ∀i ∈ l,i.op.kd ≠ .X:=λh i hi e=>by rcases h i hi with(h|h)|h<;>rw[e]at h<;>cases h
  have hdd:∀(j:Nat) (p:PI),E[j]? = some p -> ∀(k:Nat) (q:PI) (d:Nat),E[k]? = some q->q.dst=some d->p.dst=some d->k=j:=λj p hj k q d hk hq hp=>by
   have h1:=(List.getElem?_eq_some_iff.1 hj).1
   have h2:=(List.getElem?_eq_some_iff.1 hk).1
   rcases (hG.dst (σ j) (σ k) p q d (hin' j h1).1 (hin' j h1).2 (hin' k h2).1 (hin' k h2).2 (hE j p hj).2 (hE k q hk).2 hq).1 with h|h
   ·exact hσ.inj k j h2 h1 h.symm
   ·exact absurd hp h
  unfold zm at hh
  cases h1:qg call md (E.take c) st with
  | none=>rw[h1]at hh;simp at hh
  | some st1=>
   rw[h1,hdr]at hh
   simp only at hh
   obtain⟨S1,v1,e1,e2,hr1⟩:=(Bz h1).Zh (λi hi e=>by rcases hk1 i hi with(h|h)|h<;>rw[e]at h<;>cases h)
   have htl:(E.take c).length=c:=by rw[b7];omega
   rw[htl]at e2
   have hp1:=R4 hr1 hk1
   have hs1:∀j,j<=c->(S1 j).s=st.s/\(S1 j).df=st.df:=λj hj=>by
    have:=hp1 j (by omega);rw[e1]at this;exact this
   have htk:∀j,j<c->(E.take c)[j]? = E[j]? := λj hj=>by rw[bc,if_pos hj]
   have hrel1:∀(v:Nat->AV),(∀j,j<c->v j=v1 j) -> ∀j,j<=c->ra E v st.tm (λk=>decide (k<j)) (S1 j).tm:=by
    intro v hv j
    induction j with
    | zero=>
     intro _
     rw[e1]
     exact⟨rfl,λ_ _=>rfl,λj i d _ _ h=>by simp at h⟩
    | succ j ih=>
     intro hj
     have hEj:E[j]? = some E[j]:=aa (by omega)
     rw[hr1.tm j _ (by rw[htk j (by omega)];exact hEj),<- hv j (by omega),<- wi]
     exact(ih (by omega)).put hEj (by simp) (hdd j _ hEj)
   have hst1:st1=⟨st1.tm,st.df,st.s⟩:=by
    have:=hs1 c (di _)
    rw[e2]at this
    rw[<- this.1,<- this.2]
   have htm1:(S1 c).tm=st1.tm:=by rw[e2]
   cases hsc:iw call md false pc st1 with
   | none=>rw[hsc]at hh;simp at hh
   | some r=>
    obtain⟨ex,st2⟩:=r
    rw[hsc]at hh
    rw[hst1]at hsc
    obtain⟨x1,x2,x3⟩:=Fa (tm:=st1.tm) (df':=st.df) (hgn c pc hc1) hcC (λ_ _=>rfl) hsc
    have hfin:∀(e:Nat) (s2:ASt) (v:Nat->AV) (TM:Nat->List AV),Nk call md E c e st st2.s s2 ex v TM->(∀x,ex = .pan x->QOK g st.s w (.pan x) {st with tm:=kq E st.tm,s:=st2.s} Q) ->
      (ex = .normal -> ∀(fuel:Nat) (listed:Array Bool) (a:Act) (g':Gh) (w':World),fuel+n=ops.size->listed.size=ops.size->ll ops listed->(∀j,j<n->listed.getD j false=true)->(∀j,n<=j->listed.getD j false=false)->jv g' w' ⟨TM E.length,st.df,s2⟩ a->Ext g st.s w g' s2 w'->wpAny P .any ops Q fuel listed a w')->wpAny P .any ops Q fuel listed a w:=by
     intro e s2 v TM hr hp hn
     have hcnt:List.countP (λj=>listed.getD j false) (List.range ops.size)=m:=u7 ops.size (by omega) λj _=>⟨λh=>(by
      rcases dj j m with h'|h'
      ·exact h'
      ·rw[hrest j h']at h;cases h),hfst j⟩
     refine Fi hS hF hG hTS hσ hr hp hn fuel listed a g w st.tm st.s hsz (by omega) hC hfst (λj hj=>hrest j (by omega)) (λh => ?_) (λ_=>rfl) ⟨rfl,λ_ _=>rfl,λj i d _ _ h => ?_⟩ hR (.refl _ _ _)
     ·rw[hrest _ (hin' c hcl).1]at h;cases h
     ·rw[hrest _ (hin' j (by rename_i hj _;exact(List.getElem?_eq_some_iff.1 hj).1)).1]at h;cases h
    rcases x3 with rfl|⟨x,rfl⟩
    ·obtain⟨vc,y1,_⟩:=x1 rfl
     simp only at hh
     split at hh
     case isFalse=>simp at hh
     rename_i hst
     obtain⟨st3,h3,e3⟩:=fp hh
     simp only[ff]at e3
     obtain⟨rfl,rfl⟩:=e3
     obtain⟨S2,v2,f1,f2,hr2⟩:=(Bz h3).Zh (hnX hk3)
     have hl'len:l'.length=E.length-(c+1):=by
      have:=congrArg List.length hdr
      simp only[b8,ak]at this;omega
     have hdf2:∀k,k<=l'.length->(S2 k).df=st.df:=λk hk=>by
      have:=a4c hr2 k hk;rw[f1]at this
      exact this.trans (by rw[y1])
     have hs2:∀k,k<=q->(S2 k).s=st2.s:=λk hk=>by
      have:=J3 hr2 (a:=0) (b:=q) hql (λj i _ hj hi=>(hk2 j i hi (by omega)).imp .inl id) k (dk _) hk
      rw[f1]at this;exact this
     have hs3:∀k,q<k->k<=l'.length->(S2 k).s=(S2 l'.length).s:=λk h1 h2=>by
      have hh:=J3 hr2 (a:=q+1) (b:=l'.length) (di _) (λj i hj _ hi=>(hk2 j i hi (by omega)).imp .inl id)
      rw[hh k (by omega) h2,hh l'.length (by omega) (di _)]
     have happ:∀p,l'[q]? = some p->jl call md p (S2 q).tm st2.s=some (.inl (v2 q),(S2 l'.length).s):=λp hp=>by
      have hlt:=(List.getElem?_eq_some_iff.1 hp).1
      have:=hr2.val q p hp
      rw[hs2 q (di _),hs3 (q+1) (by omega) (by omega)]at this
      exact this
     have hH:(S2 l'.length).s.H=st2.s.H:=by
      cases hq:l'[q]? with
      | none=>
       have:l'.length<=q:=List.getElem?_eq_none_iff.1 hq
       rw[hs2 _ this]
      | some p=>
       have hp1:E[c+1+q]? = some p:=by rw[<- hl'];exact hq
       exact R7 (hkT p hq) (hgn _ p hp1) (happ p hq)
     refine hfin (c+1+q) (S2 l'.length).s (λj=>if j<c then v1 j else if j=c then vc else v2 (j-(c+1))) (λj=>if j<=c then(S1 j).tm else(S2 (j-(c+1))).tm) ⟨?_,by omega, ?_, ?_,hgn, ?_, ?_, ?_,pc,st2,hc1,hcC, ?_,rfl, ?_,hc5, ?_⟩ (λx e=>by cases e) (λ_ => ?_)
     ·intro j p hj hjc hje
      rcases dj j c with h|h
      ·exact hk1 p (aq (by rw[htk j h];exact hj))
      ·exact(hk2 (j-(c+1)) p (by rw[hl',show c+1+(j-(c+1))=j by omega];exact hj) (by omega)).imp .inl id
     ·intro p hp _
      rw[<- hl']at hp
      refine⟨hkT p hp, ?_⟩
      simp only[if_neg (show ¬c+1+q<=c by omega),if_neg (show ¬c+1+q<c by omega),if_neg (show ¬c+1+q=c by omega),Nat.add_sub_cancel_left]
      exact happ p hp
     ·intro hn
      rw[<- hl']at hn
      exact hs2 _ (List.getElem?_eq_none_iff.1 hn)
     ·intro j hj
      have h0:=hrel1 (λj=>if j<c then v1 j else if j=c then vc else v2 (j-(c+1))) (λj hj=>by simp[hj])
      rcases dj c j with h|h
      ·have key:∀k,c+1+k<=E.length->ra E (λj=>if j<c then v1 j else if j=c then vc else v2 (j-(c+1))) st.tm (λq=>decide (q<c+1+k)) (S2 k).tm:=by
        intro k
        induction k with
        | zero=>
         intro _
         rw[f1,y1,<- htm1,Nat.add_zero,<- wi]
         have h9:=(h0 c (di _)).put hc1 (by simp) (hdd c _ hc1)
         simpa using h9
        | succ k ihk=>
         intro hk
         have hEk:E[c+1+k]? = some E[c+1+k]:=aa (by omega)
         have h9:=(ihk (by omega)).put hEk (by simp) (hdd _ _ hEk)
         rw[wi]at h9
         rw[hr2.tm k _ (by rw[hl'];exact hEk)]
         have e9:(if c+1+k<c then v1 (c+1+k)else if c+1+k=c then vc else v2 (c+1+k-(c+1)))=v2 k:=by
          rw[if_neg (by omega),if_neg (by omega)];congr 1;omega
         rw[e9]at h9
         exact h9
       have hjl:j<=E.length:=by
        rcases hj with h'|⟨_,h'⟩
        ·omega
        ·exact h'
       have:=key (j-(c+1)) (by omega)
       rw[show c+1+(j-(c+1))=j by omega]at this
       simp only[if_neg (show ¬j<=c by omega)]
       exact this
      ·simp only[if_pos h]
       exact h0 j h
     ·intro j p hj hjc
      simp only[if_pos (show j<=c by omega),if_pos hjc]
      have:=hr1.val j p (by rw[htk j hjc];exact hj)
      rw[(hs1 j (by omega)).1,(hs1 (j+1) (by omega)).1]at this
      exact this
     ·intro j p hj hjc hje _
      have hjl:=(List.getElem?_eq_some_iff.1 hj).1
      simp only[if_neg (show ¬j<=c by omega),if_neg (show ¬j<c by omega),if_neg (show ¬j=c by omega)]
      have hj':l'[j-(c+1)]? = some p:=by rw[hl',show c+1+(j-(c+1))=j by omega];exact hj
      have:=hr2.val (j-(c+1)) p hj'
      rcases dj (j-(c+1)) q with h|h
      ·rw[hs2 _ (by omega),hs2 _ (by omega)]at this
       exact this
      ·rw[hs3 (j-(c+1)) (by omega) (by omega),hs3 (j-(c+1)+1) (by omega) (by omega)]at this
       exact Uo ((hk2 _ p hj' (by omega)).imp .inl id) hH.symm this
     ·simp only[di,if_true,htm1]
      exact hsc
     ·intro _
      simp only[di,if_true,htm1,if_neg (Nat.lt_irrefl c)]
      rw[y1]
     ·intro _ j q hj hjc
      have:=aw.1 hst q (aq (by rw[htk j hjc];exact hj))
      simp only[ei,List.contains_iff_mem,beq_iff_eq]at this
      simp only[di,if_true,htm1]
      have h9:st1.s=st.s:=by rw[hst1]
      rw[h9]at this
      rcases this with(h|h)|h
      ·exact .inl h
      ·exact .inr (.inl h)
      ·exact .inr (.inr h)
     ·intro fuel' listed' a' g' w' z1 z2 z3 z4 z5 z6 z7
      have hl2:(S2 l'.length).s=st3.s/\(S2 l'.length).df=st.df:=⟨by rw[f2],hdf2 _ (di _)⟩
      rw[f2]at hl2
      have htmF:(if E.length<=c then(S1 E.length).tm else(S2 (E.length-(c+1))).tm)=st3.tm:=by
       rw[if_neg (by omega),<- hl'len,f2]
      rw[htmF]at z6
      have hF3:st3=⟨st3.tm,st.df,(S2 l'.length).s⟩:=by rw[f2,<- hl2.2]
      exact hnext rfl fuel' listed' a' g' w' z1 z2 z3 z4 z5 (by rw[hF3];exact z6) (by rw[f2]at z7;exact z7)
    ·simp only[fe,ff]at hh
     obtain⟨rfl,rfl⟩:=hh
     refine hfin (c+1+q) st2.s v1 (λj=>(S1 j).tm) ⟨?_,by omega,λp _ e=>(by cases e),λ_=>rfl,hgn, ?_, ?_,λj p hj hjc _ e=>(by cases e),pc,st2,hc1,hcC, ?_,rfl,λe=>(by cases e),hc5,λe=>(by cases e)⟩ (λy e=>by cases e;exact hpanQ x st2.s rfl) (λe=>by cases e)
     ·intro j p hj hjc hje
      rcases dj j c with h|h
      ·exact hk1 p (aq (by rw[htk j h];exact hj))
      ·exact(hk2 (j-(c+1)) p (by rw[hl',show c+1+(j-(c+1))=j by omega];exact hj) (by omega)).imp .inl id
     ·intro j hj
      rcases hj with h|⟨h,_⟩
      ·exact hrel1 v1 (λ_ _=>rfl) j h
      ·cases h
     ·intro j p hj hjc
      have:=hr1.val j p (by rw[htk j hjc];exact hj)
      rw[(hs1 j (by omega)).1,(hs1 (j+1) (by omega)).1]at this
      exact this
     ·simp only[htm1]
      exact hsc
end
end Go.Proofs.Eng
namespace Go.Proofs.Eng
open Go.RowKit
variable [DrK]
theorem E9 {H:List fq} {k:AV} (h:qj H k=true) (Z:List fq):qj (H++Z) k=true:=by
 cases k<;>simp only[qj,dz]at h ⊢
 rename_i i o
 split at h
 ·rename_i f l hl
  rw[ae (List.getElem?_eq_some_iff.1 hl).1,hl]
 ·cases h
theorem Mu {H:List fq} {kk:KK} {k:AV} {es:List (AV × AV)} (h:ri H kk k es=true) (Z:List fq):ri (H++Z) kk k es=true:=by
 cases kk with
 | pt=>
  simp only[ri,dy,aw]at h ⊢
  exact⟨E9 h.1 Z,λe he=>E9 (h.2 e he) Z⟩
 | sc st=>rfl
theorem a36 {H Z:List fq} {i:Nat} {o:fq} (h:H[i]? = some o):(H++Z)[i]? = some o:=by
 rw[ae (List.getElem?_eq_some_iff.1 h).1];exact h
theorem Kz {H Z:List fq} {T:List Nat} {ag:Bool} {n:Nat} {p q:AV} (h:sf ⟨H,T⟩ ag n p=some q):sf ⟨H++Z,T⟩ ag n p=some q:=by
 unfold sf at h ⊢
 split at h
 ·split at h
  ·rename_i l hi
   simp only at hi ⊢
   rw[a36 hi];exact h
  ·simp at h
 ·exact h
 ·simp at h
theorem Jk {H Z:List fq} {T:List Nat} {p:AV} {l:List AV} (h:ku ⟨H,T⟩ p=some l):ku ⟨H++Z,T⟩ p=some l:=by
 unfold ku at h ⊢
 split at h
 ·exact h
 ·split at h
  ·rename_i c hi
   simp only at hi ⊢
   rw[a36 hi];exact h
  ·simp at h
 ·simp at h
theorem Vo {tm:List AV} {po:PO} {H:List fq} {T:List Nat} (hk:po.kd = .R) {v:AV} {s':ASt} (h:opA tm ⟨H,T⟩ po=some (.val v s')) (Z:List fq):opA tm ⟨H++Z,T⟩ po=some (.val v ⟨H++Z,T⟩):=by
 cases po<;>simp only[PO.kd,reduceCtorEq]at hk
 case app es bs x y=>cases bs<;>simp at hk
 case load ag n x=>
  simp only[opA]at h ⊢
  obtain⟨q,hq,e⟩:=fp h
  cases e
  obtain⟨p,hp,hl⟩:=nc hq
  simp[hp,Kz hl]
 case look z ok st m k=>
  simp only[opA]at h ⊢
  split at h
  ·rename_i i kk e1 e2
   split at h
   ·rename_i hkk
    split at h
    ·rename_i es hi
     (try simp only at hi)
     split at h
     case isFalse=>simp at h
     rename_i hlv
     simp only[hkk,if_true,a36 hi,Mu hlv Z]
     split at h
     ·rename_i x hx
      simp only[fe,OpR.val.injEq]at h
      rw[h.1]
     ·rename_i hx
      simp only[fe,OpR.val.injEq]at h
      rw[h.1]
     ·simp at h
    ·simp at h
   ·simp at h
  ·simp at h
section
variable {P:Program} {call:ia} {md:FuncId->Md} {bsf:Bf} {ops:Array Oper} {ps:List PI} {m n:Nat} {g:Gh} {s:ASt} {w:World} {a:Act} {o:Oper}
theorem Pp {i:PI} {tm:List AV} {x:AV} (hg:i.g=none) (hk:i.op.kd = .S\/i.op.kd = .R) (h:jl call md i tm s=some (.inl x,s)) (Z:List fq):jl call md i tm {s with H:=s.H++Z}=some (.inl x,{s with H:=s.H++Z}):=by
 rcases hk with hk|hk
 ·exact(ov (.inl hk) h).2 _
 ·obtain⟨H,T⟩:=s
  unfold jl at h ⊢
  rw[hg]at h ⊢
  simp only[iu]at h ⊢
  cases ho:opA tm ⟨H,T⟩ i.op with
  | none=>rw[ho]at h;simp at h
  | some r=>
   obtain⟨v,rfl,_⟩:=Jv hk ho
   rw[ho]at h
   simp only[fe,ff,Sum.inl.injEq]at h
   obtain⟨rfl,_⟩:=h
   rw[Vo hk ho Z]
theorem a5l (hI:Inv g s w) (Z:List fq):Inv g {s with H:=s.H++Z} w/\Ext g s w g {s with H:=s.H++Z} w:=by
 induction Z generalizing s with
 | nil=>simp only[List.append_nil];exact⟨hI,.refl _ _ _⟩
 | cons z Z ih=>
  obtain⟨h1,h2⟩:=ih (s:={s with H:=s.H++[z]}) (hI.grow z)
  simp only[aj,List.singleton_append]at h1 h2
  exact⟨h1,(Ext.grow hI z).trans h2⟩
theorem L7 (hI:Inv g s w) {i:Nat} (h:s.H.length<=i):g.mu i=none:=by
 cases hm:g.mu i with
 | none=>rfl
 | some b=>have:=(hI.lt i b hm).1;omega
end
end Go.Proofs.Eng
namespace Go.Proofs.Eng
open Go.RowKit
variable [DrK]
section
variable {P:Program} {call:ia} {md:FuncId->Md} {bsf:Bf} {ops:Array Oper} {ps:List PI} {m n:Nat} {g:Gh} {s:ASt} {w:World} {a:Act} {o:Oper} {tm:List AV}
theorem Zs {t:TypeId} {x:Operand} {y:X} {v:AV} {i:Nat} (ho:o.op = .box t x) (hx:gh x=some y) (ex:evX tm y=some v) (hk:v.known=true) (hI:Inv g s w) (ht:ga g s w tm a.tmps.toList) (hi:g.mu i=none) (hH:s.H[i]? = some (.cells false v.cells)):AL P g s w a o (.ptr i 0) i:=by
 have hr:=(fx hx ex ht).cells (by rintro rfl;simp[AV.known]at hk)
 have hlt:i<s.H.length:=(List.getElem?_eq_some_iff.1 hH).1
 have eb:=Ext.bind hI hi (.cells (a.eval x).cells t)
 refine⟨g.bind i w.heap.size,.pointer (some ⟨w.heap.size,0,none⟩),w.alloc (.cells (a.eval x).cells t), ?_,hI.bind hi hlt _ λob hob => ?_,eb,.ptr (by simp[Gh.bind]),λj hj=>by simp[Gh.bind,hj]⟩
 ·simp[execOp,ho,Instr.box,newVar,newRow]
 ·rw[hH]at hob;cases hob
  exact⟨(a.eval x).cells.toList,t,⟨[],by simpa using je _ _⟩,hr.mono eb⟩
theorem Zo {op:Op} {x:X} (h:gv P bsf op=some (.box x)):∃t y,op = .box t y/\gh y=some x:=by
 cases op
 case makeFunc fn first caps=>cases fn<;>simp only[gv]at h<;>((repeat' (split at h))<;>first|(simp at h;done)|(obtain⟨_,_,e⟩:=fp h;cases e))
 case makeMap t r=>cases r<;>simp only[gv]at h<;>((repeat' (split at h))<;>first|(simp at h;done)|(obtain⟨_,_,e⟩:=fp h;cases e))
 case box t y=>
  simp only[gv]at h
  obtain⟨_,h1,e⟩:=fp h
  cases e
  exact⟨t,y,rfl,h1⟩
 all_goals simp only[gv]at h
 all_goals (repeat' (split at h))
 all_goals first
  | (cases h;done)
  | (simp at h;done)
  | (exfalso;simp_all;done)
  | (obtain⟨_,_,e⟩:=fp h;cases e)
theorem X4 {idx:Nat} {po:PO} {v:AV} {ob:fq} (hp:gv P bsf o.op=some po) (hm:om tm idx po=some (v,ob)) (hI:Inv g s w) (ht:ga g s w tm a.tmps.toList) (hidx:g.mu idx=none) (hob:s.H[idx]? = some ob)
  {K:Act->World->Prop} {Q:Exit->Act->World->Prop} (hK:∀g' u w',Inv g' s w'->Ext g s w g' s w'->Rep g' s w' v u->(∀j,j ≠ idx->g'.mu j=g.mu j)->K (a.put o.dst u) w'):o.wp P a w K Q:=by
 have al:AL P g s w a o v idx->o.wp P a w K Q:=by
  rintro⟨g',u,w',c1,c2,c3,c4,c5⟩
  unfold Oper.wp
  rw[c1]
  exact hK g' u w' c2 c3 c4 c5
 cases po with
 | alloc l=>
  simp only[om,fe,ff]at hm
  obtain⟨rfl,rfl⟩:=hm
  obtain⟨t,z,hot,hz',rfl⟩:=Gd hp
  exact al (Ht hot hz' hI hidx hob)
 | sm=>
  simp only[om,fe,ff]at hm
  obtain⟨rfl,rfl⟩:=hm
  obtain⟨t,hot⟩:=G8 hp
  exact al (Hd hot hI hidx hob)
 | box x=>
  simp only[om]at hm
  split at hm
  ·rename_i u hu
   split at hm
   ·rename_i hk
    simp only[fe,ff]at hm
    obtain⟨rfl,rfl⟩:=hm
    obtain⟨t,y,hot,hx⟩:=Zo hp
    exact al (Zs hot hx hu hk hI ht hidx hob)
   ·simp at hm
  ·simp at hm
 | _=>simp[om]at hm
theorem Jp {tm tm':List AV} {idx:Nat} {po:PO} (h:∀x ∈ po.xs,evX tm x=evX tm' x):om tm idx po=om tm' idx po:=by
 cases po with
 | box x=>simp only[om,h x (by simp[PO.xs])]
 | _=>rfl
theorem L8 {i:PI} {tm:List AV} {x:AV} {T1:List Nat} (hg:i.g=none) (hk:i.op.kd = .T) (h:jl call md i tm s=some (.inl x,{s with T:=T1})) (Z:List fq):jl call md i tm {s with H:=s.H++Z}=some (.inl x,⟨s.H++Z,T1⟩):=by
 obtain⟨H,T⟩:=s
 unfold jl at h ⊢
 rw[hg]at h ⊢
 simp only[iu]at h ⊢
 cases hop:i.op with
 | app es bs x y=>
  rw[hop]at hk h
  cases bs with
  | some b=>simp[PO.kd]at hk
  | none=>
   simp only[opA]at h ⊢
   have hsrc:∀{b:AV} {l:List AV},zk ⟨H,T⟩ b=some l->zk ⟨H++Z,T⟩ b=some l:=by
    intro b l hl
    unfold zk at hl ⊢
    split at hl
    ·exact hl
    ·exact Jk hl
   cases e1:evX tm x with
   | none=>rw[e1]at h;simp at h
   | some xa=>
    rw[e1]at h
    cases e2:evX tm y with
    | none=>rw[e2]at h;cases xa<;>simp at h
    | some ya=>
     rw[e2]at h
     simp only[Option.bind_some]at h ⊢
     cases e3:zk ⟨H,T⟩ ya with
     | none=>rw[e3]at h;cases xa<;>simp at h
     | some xs=>
      rw[e3]at h
      rw[hsrc e3]
      cases xa with
      | sl l t=>
       simp only at h ⊢
       have happ:∀{r:AV × ASt},tr ⟨H,T⟩ es none l t xs=some r->r.2.H=H/\tr ⟨H++Z,T⟩ es none l t xs=some (r.1,⟨H++Z,r.2.T⟩):=by
        intro r hr
        unfold tr at hr ⊢
        split at hr
        ·simp only[fe]at hr;subst hr;exact⟨rfl,rfl⟩
        ·split at hr
         ·rename_i hc
          rw[if_pos hc]
          cases t with
          | nil=>simp only[fe]at hr ⊢;subst hr;exact⟨rfl,rfl⟩
          | cap c=>simp only at hr ⊢;split at hr<;>first|(rename_i hc2;rw[if_pos hc2];simp only[fe]at hr ⊢;subst hr;exact⟨rfl,rfl⟩)|simp at hr
          | lim c=>simp only at hr ⊢;split at hr<;>first|(rename_i hc2;rw[if_pos hc2];simp only[fe]at hr ⊢;subst hr;exact⟨rfl,rfl⟩)|simp at hr
          | tl id ver=>
           simp only at hr ⊢
           split at hr
           ·rename_i v hv
            split at hr<;>first|(rename_i hc2;rw[if_pos hc2];simp only[fe]at hr ⊢;subst hr;exact⟨rfl,rfl⟩)|simp at hr
           ·simp at hr
          | tls id ver e=>
           simp only at hr ⊢
           split at hr
           ·rename_i v hv
            split at hr<;>first|(rename_i hc2;rw[if_pos hc2];simp only[fe]at hr ⊢;subst hr;exact⟨rfl,rfl⟩)|simp at hr
           ·simp at hr
          | none=>simp at hr
          | al=>simp at hr
         ·simp at hr
       cases e4:tr ⟨H,T⟩ es none l t xs with
       | none=>rw[e4]at h;simp at h
       | some r=>
        rw[e4]at h
        simp only[fh,fe,ff,Sum.inl.injEq]at h
        obtain⟨h1,h2⟩:=h
        rw[(happ e4).2]
        simp only[fh,h1]
        rw[h2]
      | _=>simp at h
 | _=>rw[hop]at hk;simp[PO.kd]at hk
structure Tk (call:ia) (md:FuncId->Md) (E:List PI) (c e:Nat) (st:St) (T1:List Nat) (s2:ASt) (Z:List fq) (zi:Nat->Option Nat) (v:Nat->AV) (TM:Nat->List AV):Prop where
 gn:∀(j:Nat) (p:PI),E[j]? = some p->p.g=none
 rel:∀j,j<=E.length->ra E v st.tm (λk=>decide (k<j)) (TM j)
 pl:∀(j:Nat) (p:PI),E[j]? = some p->j ≠ c->j ≠ e->zi j=none->(p.op.kd = .S\/p.op.kd = .C\/p.op.kd = .R)/\jl call md p (TM j) st.s=some (.inl (v j),st.s)
 tt:∀(p:PI),E[e]? = some p->p.op.kd = .T/\zi e=none/\e ≠ c/\jl call md p (TM e) st.s=some (.inl (v e),{st.s with T:=T1})
 nt:E[e]? = none->T1=st.s.T
 mkk:∀(j:Nat) (p:PI) (k:Nat),E[j]? = some p->zi j=some k -> ∃ob,om (TM j) (st.s.H.length+k) p.op=some (v j,ob)/\Z[k]? = some ob
 inj:∀i j k,zi i=some k->zi j=some k->i=j
 mc:zi c=none
 ww:∀(p:PI),E[c]? = some p->p.op.kd = .W/\jl call md p (TM c) ⟨st.s.H++Z,T1⟩=some (.inl (v c),s2) /\ ∀(j:Nat) (q:PI),E[j]? = some q->j ≠ c->(((zi j).isSome=true\/j=e)->q.ix ∈ p.pre)/\(q.ix ∈ p.pre\/q.op.kd = .S\/(j<c/\m8 (TM c) ⟨st.s.H++Z,T1⟩ s2 q.op=true))
 nw:E[c]? = none->s2=⟨st.s.H++Z,T1⟩
theorem I4 (hS:Sound P call) (hF:jo P bsf ops ps) (hG:l6 ops [] m n) (hDD:∀(i j:Nat) (p q:PI) (d:Nat),m<=i->i<n->m<=j->j<n->ps[i]? = some p->ps[j]? = some q->q.dst=some d->i=j\/p.dst ≠ some d) (hTS:∀(i j:Nat) (p q:PI) (d:Nat),m<=i->i<n->m<=j->j<n->ps[i]? = some p->ps[j]? = some q->q.dst=some d->p.looks d=true->j ∈ p.pre) {E:List PI} {c e:Nat} {st:St} {T1:List Nat} {s2:ASt} {Z:List fq} {zi:Nat->Option Nat} {v:Nat->AV} {TM:Nat->List AV} (hEl:E.length=n-m) (hE:∀(j:Nat) (p:PI),E[j]? = some p->p.ix=m+j/\ps[m+j]? = some p) (hE2:∀(j:Nat) (p:PI),ps[m+j]? = some p->m+j<n->E[j]? = some p)
  (hr:Tk call md E c e st T1 s2 Z zi v TM) {Q:Exit->Act->World->Prop} {g0:Gh} {w0:World}
  (hnext:∀(fuel:Nat) (listed:Array Bool) (a:Act) (g:Gh) (w:World),fuel+n=ops.size->listed.size=ops.size->ll ops listed->(∀j,j<n->listed.getD j false=true)->(∀j,n<=j->listed.getD j false=false)->jv g w ⟨TM E.length,st.df,s2⟩ a->Ext g0 st.s w0 g s2 w->wpAny P .any ops Q fuel listed a w) :
  ∀(fuel:Nat) (listed:Array Bool) (a:Act) (g:Gh) (w:World) (tm:List AV) (s:ASt),listed.size=ops.size->fuel+List.countP (λj=>listed.getD j false) (List.range ops.size)=ops.size->ll ops listed->(∀j,j<m->listed.getD j false=true)->(∀j,n<=j->listed.getD j false=false) ->
   (s=if listed.getD (m+c) false=true then s2 else⟨st.s.H++Z,if listed.getD (m+e) false=true then T1 else st.s.T⟩)->(∀j k,zi j=some k->j<E.length->listed.getD (m+j) false=false->g.mu (st.s.H.length+k)=none)->ra E v st.tm (λj=>listed.getD (m+j) false) tm->jv g w ⟨tm,st.df,s⟩ a->Ext g0 st.s w0 g s w->wpAny P .any ops Q fuel listed a w:=by
 have hmn:m+E.length=n:=by have:=hG.mle;omega
 have hnle:=hG.le
 have last:∀{listed:Array Bool} {tm:List AV},(∀j,j<n->listed.getD j false=true)->ra E v st.tm (λj=>listed.getD (m+j) false) tm->tm=TM E.length:=λ{listed tm} hall hT=>by
  apply List.ext_getElem?
  intro d
  exact hT.eq (hr.rel E.length (di _)) d λj i hj _=>by
   have hjl:=(List.getElem?_eq_some_iff.1 hj).1
   rw[hall _ (by omega)];simp[hjl]
 have lastS:∀{listed:Array Bool} {s:ASt},(∀j,j<n->listed.getD j false=true)->(∀j,n<=j->listed.getD j false=false)->(s=if listed.getD (m+c) false=true then s2 else⟨st.s.H++Z,if listed.getD (m+e) false=true then T1 else st.s.T⟩)->s=s2:=λ{listed s} h1 h2 hs=>by
  rcases dj c E.length with h|h
  ·rw[if_pos (h1 _ (by omega))]at hs;exact hs
  ·rw[if_neg (by rw[h2 _ (by omega)];exact eu)]at hs
   rw[hs,hr.nw (cx h)]
   rcases dj e E.length with h'|h'
   ·rw[if_pos (h1 _ (by omega))]
   ·rw[if_neg (by rw[h2 _ (by omega)];exact eu),hr.nt (cx h')]
 intro fuel
 induction fuel with
 | zero=>
  intro listed a g w tm s hsz hcount hC hfst hrest hss hpend hT hR hX
  have halll:∀j,j<ops.size->listed.getD j false=true:=by
   intro j hj
   have h1:List.countP (λj=>listed.getD j false) (List.range ops.size)=(List.range ops.size).length:=by simpa using hcount
   exact List.countP_eq_length.1 h1 j (List.mem_range.2 hj)
  have hno:n=ops.size:=by
   rcases dj n ops.size with h|h
   ·have:=halll n h;rw[hrest n (di _)]at this;cases this
   ·omega
  obtain rfl:=last (λj hj=>halll j (by omega)) hT
  obtain rfl:=lastS (λj hj=>halll j (by omega)) hrest hss
  exact hnext 0 listed a g w (by omega) hsz hC (λj hj=>halll j (by omega)) hrest hR hX
 | succ fuel ih=>
  intro listed a g w tm s hsz hcount hC hfst hrest hss hpend hT hR hX
  by_cases halll:∀j,j<n->listed.getD j false=true
  ·obtain rfl:=last halll hT
   obtain rfl:=lastS halll hrest hss
   have hcn:List.countP (λj=>listed.getD j false) (List.range ops.size)=n:=u7 ops.size hnle λj _=>⟨λh=>(by
    rcases dj j n with h'|h'
    ·exact h'
    ·rw[hrest j h']at h;cases h),halll j⟩
   exact hnext (fuel+1) listed a g w (by omega) hsz hC halll hrest hR hX
  ·have hex:∃j0,j0<n/\listed.getD j0 false=false:=by
    have:=Classical.not_forall.1 halll
    obtain⟨j0,hj0⟩:=this
    obtain⟨h1,h2⟩:=Classical.not_imp.1 hj0
    exact⟨j0,h1,by simpa using h2⟩
   obtain⟨j0,hj0,hl0⟩:=hex
   refine⟨λhnil => ?_,λi hi => ?_⟩
   ·obtain⟨j,_,hj⟩:=ph hF hsz j0 (by omega) hl0
    rw[hnil]at hj;simp at hj
   have hin:=zu hG hC hfst hrest hi hj0 hl0
   have hiu:=qb hsz hi
   have him:m<=i:=by
    rcases dj i m with h|h
    ·rw[hfst i h]at hiu;cases hiu
    ·exact h
   obtain⟨j,rfl⟩:∃j,i=m+j:=⟨i-m,by omega⟩
   obtain⟨p,hps⟩:∃p,ps[m+j]? = some p:=⟨_,aa (show m+j<ps.length by rw[hF.len];omega)⟩
   have hEj:=hE2 j p hps hin
   have hjlt:=(List.getElem?_eq_some_iff.1 hEj).1
   obtain⟨o,ho,q1,q2,q3⟩:=hF.Wm (m+j) _ hps
   rw[dp]at ho
   obtain⟨_,o',ho',hallr⟩:=mem_ready.1 hi
   rw[ho]at ho';cases ho'
   have oz:∀k ∈ p.pre,listed.getD k false=true/\k<m+j:=lf hF hC (m+j) p hps (λo2 e ho2 he hb=>by rw[ho]at ho2;cases ho2;exact hallr e he hb)
   have hdd:∀(k:Nat) (q:PI) (d:Nat),E[k]? = some q->q.dst=some d->p.dst=some d->k=j:=λk q d hk hq hp=>by
    have hkl:=(List.getElem?_eq_some_iff.1 hk).1
    have:=hDD (m+j) (m+k) p q d him hin (by omega) (by omega) hps (hE k q hk).2 hq
    rcases this with h|h
    ·omega
    ·exact absurd hp h
   have look:∀(j':Nat),j<=j'->j'<=E.length -> ∀d,p.looks d=true->tm[d]? = (TM j')[d]? := λj' hj' hj'' d hd=>hT.eq (hr.rel j' hj'') d λk q hk hq=>by
    have hkl:=(List.getElem?_eq_some_iff.1 hk).1
    have hm':=hTS (m+j) (m+k) p q d him hin (by omega) (by omega) hps (hE k q hk).2 hq hd
    obtain⟨h1,h2⟩:=oz _ hm'
    rw[h1];symm;simp only[decide_eq_true_eq];omega
   obtain⟨r1,r2⟩:=qf (look j (di _) (by omega))
   have hcount':fuel+List.countP (λk=>(listed.setIfInBounds (m+j) true).getD k false) (List.range ops.size)=ops.size:=by
    have h1:=count_set (p:=λk=>listed.getD k false) hiu ops.size
    rw[if_pos (by omega)]at h1
    have h2:List.countP (λk=>(listed.setIfInBounds (m+j) true).getD k false) (List.range ops.size)=List.countP (λk=>listed.getD k false||k==m+j) (List.range ops.size):=by
     congr 1
     funext k
     by_cases e:k=m+j
     ·subst e;simp[hsz,show m+j<ops.size by omega]
     ·rw[getD_set_ne false (λh=>e h.symm)];simp[e]
    rw[h2,h1];omega
   have hget:∀k,(listed.setIfInBounds (m+j) true).getD k false=(listed.getD k false||k==m+j):=λk=>by
    by_cases e:k=m+j
    ·subst e;simp[hsz,show m+j<ops.size by omega]
    ·rw[getD_set_ne false (λh=>e h.symm)];simp[e]
   have hTn:ra E v st.tm (λk=>(listed.setIfInBounds (m+j) true).getD (m+k) false) (Go.Proofs.Eng.put tm p.dst (v j)):=by
    have h1:=hT.put hEj hiu hdd
    have h2:(λk=>(listed.setIfInBounds (m+j) true).getD (m+k) false) = λk=>listed.getD (m+k) false||k==j:=by
     funext k
     rw[hget]
     have:(m+k==m+j)=(k==j):=by
      by_cases e:k=j
      ·subst e;simp
      ·rw[beq_false_of_ne e,beq_false_of_ne (by omega)]
     rw[this]
    rw[h2];exact h1
   have hC':=w8 hC hi
   have hf':∀k,k<m->(listed.setIfInBounds (m+j) true).getD k false=true:=λk hk=>by rw[hget,hfst k hk];rfl
   have hr':∀k,n<=k->(listed.setIfInBounds (m+j) true).getD k false=false:=λk hk=>by rw[hget,hrest k hk];simp;omega
   have hgp:=hr.gn j p hEj
   have hcpre:listed.getD (m+c) false=true -> ∃pc,E[c]? = some pc /\ ∀k ∈ pc.pre,listed.getD k false=true:=λhcl=>by
    have hcE:c<E.length:=by
     rcases dj c E.length with h|h
     ·exact h
     ·rw[hrest _ (by omega)]at hcl;cases hcl
    have hEc:E[c]? = some E[c]:=aa hcE
    exact⟨_,hEc,λk hk=>(lf hF hC (m+c) _ (hE c _ hEc).2 (λo2 e2 ho2 he2 hb=>hC (m+c) o2 e2 hcl ho2 he2 hb) k hk).1⟩
   have hnc:j ≠ c->((zi j).isSome=true\/j=e)->listed.getD (m+c) false=false:=λhjc h=>by
    cases hcl:listed.getD (m+c) false with
    | false=>rfl
    | true=>
     obtain⟨pc,h1,h2⟩:=hcpre hcl
     have:=h2 _ (((hr.ww pc h1).2.2 j p hEj hjc).1 h)
     rw[(hE j p hEj).1,hiu]at this;cases this
   have hcj:∀k,j ≠ k->(listed.setIfInBounds (m+j) true).getD (m+k) false=listed.getD (m+k) false:=λk hk=>by
    rw[hget,beq_false_of_ne (by omega),Bool.or_false]
   refine uk ho ?_
   by_cases hjc:j=c
   ·subst hjc
    obtain⟨hkW,hv,hq⟩:=hr.ww p hEj
    have hlist:∀(k:Nat) (q:PI),E[k]? = some q->k ≠ j->((zi k).isSome=true\/k=e)->listed.getD (m+k) false=true:=λk q hk hkj h=>by
     have:=(oz _ ((hq k q hk hkj).1 h)).1
     rwa [(hE k q hk).1]at this
    have hs1:s=⟨st.s.H++Z,T1⟩:=by
     rw[if_neg (by rw[hiu];exact eu)]at hss
     rw[hss]
     cases hEe:E[e]? with
     | none=>
      rw[<- hr.nt hEe];split<;>rfl
     | some pe=>
      have hej:e ≠ j:=(hr.tt pe hEe).2.2.1
      rw[if_pos (hlist e pe hEe hej (.inr rfl))]
    rw[<- nr r1 r2,<- hs1]at hv
    have hst:=vi hv st.df
    refine o8 hS q1 q2 q3 hst hR (λ_ g' a' w' hE' hR' _ => ?_) (λv e=>by cases e)
    refine ih _ a' g' w' _ _ (by simpa using hsz) hcount' hC' hf' hr' ?_ (λk z hz hk hl => ?_) hTn hR' (hX.trans hE')
    ·rw[if_pos (by rw[hget];simp)]
    ·exfalso
     rw[hget,Bool.or_eq_false_iff]at hl
     have hkj:k ≠ j:=by rintro rfl;simp at hl
     rw[hlist k E[k] (aa hk) hkj (.inl (by rw[hz];rfl))]at hl
     cases hl.1
   by_cases hje:j=e
   ·subst hje
    obtain⟨hkT,hz,_,hv⟩:=hr.tt p hEj
    have hnl:=hnc hjc (.inr rfl)
    rw[if_neg (by rw[hnl];exact eu),if_neg (by rw[hiu];exact eu)]at hss
    have hv2:=L8 hgp hkT hv Z
    rw[<- nr r1 r2]at hv2
    have hst:=vi hv2 st.df
    rw[show ({st.s with H:=st.s.H++Z}:ASt)=s from hss.symm]at hst
    refine o8 hS q1 q2 q3 hst hR (λ_ g' a' w' hE' hR' hmun => ?_) (λv e=>by cases e)
    refine ih _ a' g' w' _ _ (by simpa using hsz) hcount' hC' hf' hr' ?_ (λk z hz hk hl => ?_) hTn hR' (hX.trans hE')
    ·rw[if_neg (by rw[hcj c hjc,hnl];exact eu),if_pos (by rw[hget];simp)]
    ·rw[hget,Bool.or_eq_false_iff]at hl
     obtain⟨ob,_,hz'⟩:=hr.mkk k _ z (aa hk) hz
     have hzl:=(List.getElem?_eq_some_iff.1 hz').1
     exact hmun rfl _ (by rw[hss];simp only[ah];omega) (hpend k z hz hk hl.1)
   cases hzj:zi j with
   | none=>
    obtain⟨hkd,hv⟩:=hr.pl j p hEj hjc hje hzj
    have hval:jl call md p tm s=some (.inl (v j),s):=by
     rw[nr r1 r2]
     rcases hkd with hk|hk|hk
     ·exact(ov (.inl hk) hv).2 s
     ·exact(ov (.inr hk) hv).2 s
     ·have hv2:=Pp hgp (.inr hk) hv Z
      have hv3:∀T',jl call md p (TM j) ⟨st.s.H++Z,T'⟩=some (.inl (v j),⟨st.s.H++Z,T'⟩):=λT'=>(A5 hk hv2).2 T'
      cases hcl:listed.getD (m+c) false with
      | false=>rw[if_neg (by rw[hcl];exact eu)]at hss;rw[hss];exact hv3 _
      | true=>
       rw[if_pos hcl]at hss
       subst hss
       obtain⟨pc,h1,h2⟩:=hcpre hcl
       rcases ((hr.ww pc h1).2.2 j p hEj hjc).2 with h|h|⟨hjlc,h⟩
       ·exfalso
        have:=h2 _ h
        rw[(hE j p hEj).1,hiu]at this;cases this
       ·rw[hk]at h;cases h
       ·-- what is loaded is the same
        have hcE:c<E.length:=(List.getElem?_eq_some_iff.1 h1).1
        have hop:∀{t:List AV} {z:ASt} {y:AV},jl call md p t z=some (.inl y,z)->opA t z p.op=some (.val y z):=by
         intro t z y hy
         unfold jl at hy
         rw[hgp]at hy
         simp only[iu]at hy
         split at hy
         ·rename_i y' z' ho2
          simp only[fe,ff,Sum.inl.injEq]at hy
          rw[ho2,hy.1,hy.2]
         ·rename_i f args ho2
          have:=Gi ho2
          rw[hk]at this;cases this
         ·simp at hy
         ·simp at hy
        have h3:=hop (hv3 T1)
        obtain⟨r3,_⟩:=qf (look c (by omega) (by omega))
        have h4:∀z,opA (TM j) z p.op=opA (TM c) z p.op:=λz=>(vo r1).symm.trans (vo r3)
        unfold m8 at h
        rw[<- h4,<- h4,h3]at h
        split at h
        ·rename_i a1 z1 a2 z2 e1 e2
         cases e1
         have:=Ik h
         subst this
         have hz:z2=s:=by
          obtain⟨H,T⟩:=s
          obtain⟨v3,e3,_⟩:=Jv hk e2
          cases e3;rfl
         subst hz
         unfold jl
         rw[hgp]
         simp only[iu,e2]
        ·cases h
    have hst:=vi hval st.df
    refine o8 hS q1 q2 q3 hst hR (λ_ g' a' w' hE' hR' hmun => ?_) (λv e=>by cases e)
    refine ih _ a' g' w' _ _ (by simpa using hsz) hcount' hC' hf' hr' ?_ (λk z hz hk hl => ?_) hTn hR' (hX.trans hE')
    ·rw[hcj c hjc,hcj e hje];exact hss
    ·rw[hget,Bool.or_eq_false_iff]at hl
     have hnl:listed.getD (m+c) false=false:=by
      cases hcl:listed.getD (m+c) false with
      | false=>rfl
      | true=>
       obtain⟨pc,h1,h2⟩:=hcpre hcl
       have hkc:k ≠ c:=by rintro rfl;rw[hr.mc]at hz;cases hz
       have hEk:=aa hk
       have:=h2 _ (((hr.ww pc h1).2.2 k _ hEk hkc).1 (.inl (by rw[hz];rfl)))
       rw[(hE k _ hEk).1,hl.1]at this;cases this
     rw[if_neg (by rw[hnl];exact eu)]at hss
     obtain⟨ob,_,hz'⟩:=hr.mkk k _ z (aa hk) hz
     have hzl:=(List.getElem?_eq_some_iff.1 hz').1
     exact hmun rfl _ (by rw[hss];simp only[ah];omega) (hpend k z hz hk hl.1)
   | some kz=>
    obtain⟨ob,hm,hz⟩:=hr.mkk j p kz hEj hzj
    have hidx:=hpend j kz hzj hjlt hiu
    have hnl:=hnc hjc (.inl (by rw[hzj];rfl))
    rw[if_neg (by rw[hnl];exact eu)]at hss
    have hob:s.H[st.s.H.length+kz]? = some ob:=by rw[hss];simp only;rw[af (by omega),Nat.add_sub_cancel_left];exact hz
    have hwt:Region.wanted o (yielded ops a.tmps)=true:=by
     rw[hgp]at q2
     exact pk q2 rfl hR.tm
    rw[if_pos hwt]
    rw[<- Jp r1]at hm
    refine X4 q3 hm hR.inv hR.tm hidx hob λg' u w' c1 c2 c3 c4 => ?_
    refine ih _ _ g' w' _ _ (by simpa using hsz) hcount' hC' hf' hr' ?_ (λk z hz' hk hl => ?_) hTn ⟨c1,by rw[<- q1];exact oa (hR.tm.mono c2) c3 p.dst,by rw[put_defers];exact hR.df.mono c2⟩ (hX.trans c2)
    ·rw[hcj c hjc,hcj e hje,if_neg (by rw[hnl];exact eu)];exact hss
    ·rw[hget,Bool.or_eq_false_iff]at hl
     have hkj:k ≠ j:=by rintro rfl;simp at hl
     have hne:z ≠ kz:=λh=>hkj (hr.inj k j z hz' (by rw[h];exact hzj))
     rw[c4 _ (by omega)]
     exact hpend k z hz' hk hl.1
def nmx (l:List PI):Nat:=l.countP λi => !i.op.iv
theorem Vp {E:List PI} {j k:Nat} {p:PI} (hj:E[j]? = some p) (hp:p.op.iv=false) (hjk:j<k):nmx (E.take j)<nmx (E.take k):=by
 have h1:E.take (j+1)=E.take j++[p]:=by rw[bj,hj];rfl
 have h2:nmx (E.take (j+1))=nmx (E.take j)+1:=by rw[h1,nmx,List.countP_append];simp[nmx,hp]
 have h3:nmx (E.take (j+1))<=nmx (E.take k):=by
  have:E.take (j+1)=(E.take k).take (j+1):=by rw[List.take_take,Nat.min_eq_left (by omega)]
  rw[this]
  exact List.Sublist.countP_le (List.take_sublist _ _)
 omega
theorem Bv {o:PO} (h:o.iv=true):o.kd = .S\/o.kd = .R\/o.kd = .T\/o.kd = .C:=by
 unfold PO.iv at h
 split at h<;>simp_all
theorem Ky {i:PI} {tm:List AV} {s s':ASt} {x:AV} (hg:i.g=none) (hk:i.op.iv=true) (h:jl call md i tm s=some (.inl x,s')):s'.H=s.H/\(i.op.kd ≠ .T->s'=s):=by
 rcases Bv hk with hk|hk|hk|hk
 ·have:=(ov (.inl hk) h).1;subst this;exact⟨rfl,λ_=>rfl⟩
 ·obtain⟨H,T⟩:=s
  have:=(A5 hk h).1;subst this;exact⟨rfl,λ_=>rfl⟩
 ·exact⟨R7 hk hg h,λh=>absurd hk h⟩
 ·have:=(ov (.inr hk) h).1;subst this;exact⟨rfl,λ_=>rfl⟩
theorem Ju:∀(E:List PI) (tm:List AV) (s:ASt) (Z0:List fq) {tmF:List AV} {sF:ASt} {ZF:List fq},(∀p ∈ E,p.g=none)->vu call md E tm s Z0=some (tmF,sF,ZF) -> ∃(v:Nat->AV) (TM:Nat->List AV) (S:Nat->ASt),TM 0=tm/\TM E.length=tmF/\S 0=s/\S E.length=sF/\(∃Z1,ZF=Z0++Z1) /\ ∀(j:Nat) (p:PI),E[j]? = some p->TM (j+1)=put (TM j) p.dst (v j)/\(S (j+1)).H=(S j).H/\(p.op.kd ≠ .T->S (j+1)=S j) /\
  (p.op.iv=true->jl call md p (TM j) (S j)=some (.inl (v j),S (j+1)))/\(p.op.iv=false -> ∃ob,om (TM j) (s.H.length+(Z0.length+nmx (E.take j))) p.op=some (v j,ob)/\ZF[Z0.length+nmx (E.take j)]? = some ob)
 | [],tm,s,Z0,tmF,sF,ZF,_,h=>by
  simp only[vu,fe,ff]at h
  obtain⟨rfl,rfl,rfl⟩:=h
  exact⟨λ_=>.unk,λ_=>tm,λ_=>s,rfl,rfl,rfl,rfl,⟨[],by simp⟩,λj p hj=>by simp at hj⟩
 | i::l,tm,s,Z0,tmF,sF,ZF,hE,h=>by
  have hgi:=hE i (by simp)
  have hEl:∀p ∈ l,p.g=none:=λp hp=>hE p (by simp[hp])
  rw[vu]at h
  have fin:∀(v0:AV) (s1:ASt) (Z1:List fq),vu call md l (put tm i.dst v0) s1 (Z0++Z1)=some (tmF,sF,ZF)->s1.H=s.H->(i.op.kd ≠ .T->s1=s)->(i.op.iv=true->Z1=[]/\jl call md i tm s=some (.inl v0,s1))->(i.op.iv=false -> ∃ob,Z1=[ob]/\om tm (s.H.length+Z0.length) i.op=some (v0,ob)) ->
    ∃(v:Nat->AV) (TM:Nat->List AV) (S:Nat->ASt),TM 0=tm/\TM (i::l).length=tmF/\S 0=s/\S (i::l).length=sF/\(∃Z1,ZF=Z0++Z1) /\ ∀(j:Nat) (p:PI),(i::l)[j]? = some p->TM (j+1)=put (TM j) p.dst (v j)/\(S (j+1)).H=(S j).H/\(p.op.kd ≠ .T->S (j+1)=S j) /\
     (p.op.iv=true->jl call md p (TM j) (S j)=some (.inl (v j),S (j+1)))/\(p.op.iv=false -> ∃ob,om (TM j) (s.H.length+(Z0.length+nmx ((i::l).take j))) p.op=some (v j,ob)/\ZF[Z0.length+nmx ((i::l).take j)]? = some ob):=by
   intro v0 s1 Z1 h1 hsH hsT hpl hmk
   obtain⟨v,TM,S,t0,tF,s0,sl,⟨Z2,hZ⟩,hall⟩:=Ju l _ _ _ hEl h1
   have hlen:Z1.length=nmx [i]:=by
    cases hp:i.op.iv with
    | true=>rw[(hpl hp).1];simp[nmx,hp]
    | false=>obtain⟨ob,e,_⟩:=hmk hp;rw[e];simp[nmx,hp]
   refine⟨λk=>match k with|0=>v0|k+1=>v k,λk=>match k with|0=>tm|k+1=>TM k,λk=>match k with|0=>s|k+1=>S k,rfl,tF,rfl,sl,⟨Z1++Z2,by rw[hZ,aj]⟩,λj p hj => ?_⟩
   cases j with
   | zero=>
    simp at hj;subst hj
    refine⟨t0,by show (S 0).H=_;rw[s0];exact hsH,λhT=>by show S 0=_;rw[s0];exact hsT hT,λhp=>by show jl call md i tm s=some (.inl v0,S 0);rw[s0];exact(hpl hp).2,λhp => ?_⟩
    obtain⟨ob,e1,e2⟩:=hmk hp
    refine⟨ob,by simpa[nmx]using e2, ?_⟩
    rw[hZ,e1];simp[nmx]
   | succ j=>
    simp only[bu]at hj
    obtain⟨q1,q2,q3,q4,q5⟩:=hall j p hj
    refine⟨q1,q2,q3,q4,λhp => ?_⟩
    have e:nmx ((i::l).take (j+1))=Z1.length+nmx (l.take j):=by
     rw[List.take_succ_cons,hlen,nmx,nmx,nmx,List.countP_cons,List.countP_cons,List.countP_nil];omega
    have:=q5 hp
    rw[ah,hsH]at this
    rw[e,<- dv Z0.length];exact this
  split at h
  ·rename_i hk
   split at h
   ·rename_i st hst
    have hX:i.op.kd ≠ .X:=λe=>by rcases Bv hk with h|h|h|h<;>rw[h]at e<;>cases e
    obtain⟨v0,e1,e2⟩:=Ax hX hst
    simp only at e1 e2
    obtain⟨f1,f2⟩:=Ky hgi hk e1
    rw[e2]at h
    exact fin v0 _ [] (by simpa using h) f1 f2 (λ_=>⟨rfl,e1⟩) (λhp=>by rw[hk]at hp;cases hp)
   ·simp at h
  ·rename_i hk
   split at h
   ·rename_i v0 ob hm
    exact fin v0 s [ob] h rfl (λ_=>rfl) (λhp=>absurd hp hk) (λ_=>⟨ob,rfl,hm⟩)
   ·simp at h
structure a7c (call:ia) (md:FuncId->Md) (E:List PI) (e:Nat) (st:St) (T1:List Nat) (Z:List fq) (zi:Nat->Option Nat) (v:Nat->AV) (TM:Nat->List AV):Prop where
 pl:∀(j:Nat) (p:PI),E[j]? = some p->j ≠ e->zi j=none->(p.op.kd = .S\/p.op.kd = .C\/p.op.kd = .R)/\jl call md p (TM j) st.s=some (.inl (v j),st.s)
 tt:∀(p:PI),E[e]? = some p->p.op.kd = .T/\zi e=none/\jl call md p (TM e) st.s=some (.inl (v e),{st.s with T:=T1})
 nt:E[e]? = none->T1=st.s.T
 mkk:∀(j:Nat) (p:PI) (k:Nat),E[j]? = some p->zi j=some k -> ∃ob,om (TM j) (st.s.H.length+k) p.op=some (v j,ob)/\Z[k]? = some ob
 zl:∀j,E.length<=j->zi j=none
 inj:∀i j k,zi i=some k->zi j=some k->i=j
 tm:∀(j:Nat) (p:PI),E[j]? = some p->TM (j+1)=put (TM j) p.dst (v j)
 mks:∀(j:Nat) (p:PI),E[j]? = some p->zi j ≠ none->p.op.iv=false
theorem Nd {E:List PI} {st:St} {tmF:List AV} {sF:ASt} {Z:List fq} (hg:∀p ∈ E,p.g=none) (hW:∀p ∈ E,p.op.kd ≠ .W) (hT:(E.countP λi=>i.op.kd == .T)<=1) (h:vu call md E st.tm st.s []=some (tmF,sF,Z)) :
  ∃(e:Nat) (zi:Nat->Option Nat) (v:Nat->AV) (TM:Nat->List AV),a7c call md E e st sF.T Z zi v TM/\TM 0=st.tm/\TM E.length=tmF/\sF = {st.s with T:=sF.T}:=by
 obtain⟨v,TM,S,t0,tF,s0,sl,_,hall⟩:=Ju E st.tm st.s [] hg h
 have hH:∀j,j<=E.length->(S j).H=st.s.H:=by
  intro j
  induction j with
  | zero=>intro _;rw[s0]
  | succ j ih=>
   intro hj
   rw[(hall j _ (aa (by omega))).2.1]
   exact ih (by omega)
 obtain⟨e,he⟩:∃e,e=E.findIdx λi=>i.op.kd == .T:=⟨_,rfl⟩
 have h1:∀(j:Nat) (p:PI),E[j]? = some p->j ≠ e->p.op.kd ≠ .T:=by
  intro j p hj hje hk
  have hjl:=(List.getElem?_eq_some_iff.1 hj).1
  have hp:=(List.getElem?_eq_some_iff.1 hj).2
  have hej:e<=j:=by
   rcases dj j e with h|h
   ·have:=List.not_of_lt_findIdx (show j<E.findIdx (λi=>i.op.kd == .T) by rw[<- he];exact h)
    rw[hp,hk]at this
    simp at this
   ·exact h
  have hel:e<E.length:=by omega
  have hke:(E[e].op.kd == .T)=true:=by
   have:=List.findIdx_getElem (xs:=E) (p:=λi=>i.op.kd == .T) (w:=by rw[<- he];exact hel)
   simp only[<- he]at this
   exact this
  have h2:2<=E.countP λi=>i.op.kd == .T:=by
   have h3:E=E.take (e+1)++E.drop (e+1):=(ck _ _).symm
   rw[h3,List.countP_append]
   have h4:1<=(E.take (e+1)).countP λi=>i.op.kd == .T:=List.countP_pos_iff.2 ⟨E[e],by rw[List.mem_take_iff_getElem];exact⟨e,by omega,rfl⟩,hke⟩
   have h5:1<=(E.drop (e+1)).countP λi=>i.op.kd == .T:=List.countP_pos_iff.2 ⟨p,by
    rw[<- hp]
    rw[List.mem_drop_iff_getElem]
    exact⟨j-(e+1),by omega,by congr 1;omega⟩,by rw[hk];rfl⟩
   omega
  omega
 have hS0:∀j,j<=e->j<=E.length->S j=st.s:=by
  intro j
  induction j with
  | zero=>intro _ _;exact s0
  | succ j ih=>
   intro hj hjl
   have hEj:E[j]? = some E[j]:=aa (by omega)
   rw[(hall j _ hEj).2.2.1 (h1 j _ hEj (by omega))]
   exact ih (by omega) (by omega)
 have hS1:∀j,e<j->j<=E.length->S j=sF:=by
  intro j hej hjl
  obtain⟨d,hd⟩:∃d,E.length=j+d:=⟨E.length-j,by omega⟩
  induction d generalizing j with
  | zero=>rw[<- sl];congr 1;omega
  | succ d ih=>
   have hEj:E[j]? = some E[j]:=aa (by omega)
   rw[<- (hall j _ hEj).2.2.1 (h1 j _ hEj (by omega))]
   exact ih (j+1) (by omega) (by omega) (by omega)
 have hsF:sF = {st.s with T:=sF.T}:=by
  have:=hH E.length (di _)
  rw[sl]at this
  show sF=⟨st.s.H,sF.T⟩
  rw[<- this]
 refine⟨e,λj=>match E[j]? with|some p=>if p.op.iv then none else some (nmx (E.take j))|none=>none,v,TM,⟨?_, ?_, ?_, ?_, ?_, ?_,λj p hj=>(hall j p hj).1, ?_⟩,t0,tF,hsF⟩
 ·intro j p hj hje hz
  have hjl:=(List.getElem?_eq_some_iff.1 hj).1
  simp only[hj]at hz
  split at hz
  ·rename_i hk
   have hv:=(hall j p hj).2.2.2.1 hk
   rw[(hall j p hj).2.2.1 (h1 j p hj hje)]at hv
   have hHj:=hH j (by omega)
   rcases Bv hk with hk|hk|hk|hk
   ·exact⟨.inl hk,(ov (.inl hk) hv).2 _⟩
   ·refine⟨.inr (.inr hk), ?_⟩
    have e1:S j=⟨st.s.H,(S j).T⟩:=by rw[<- hHj]
    rw[e1]at hv
    exact(A5 hk hv).2 st.s.T
   ·exact absurd hk (h1 j p hj hje)
   ·exact⟨.inr (.inl hk),(ov (.inr hk) hv).2 _⟩
  ·simp at hz
 ·intro p hp
  have hel:=(List.getElem?_eq_some_iff.1 hp).1
  have hke:p.op.kd = .T:=by
   have:=List.findIdx_getElem (xs:=E) (p:=λi=>i.op.kd == .T) (w:=by rw[<- he];exact hel)
   simp only[<- he]at this
   rw[(List.getElem?_eq_some_iff.1 hp).2]at this
   simpa using this
  have hk:p.op.iv=true:=by unfold PO.iv;rw[hke]
  have hv:=(hall e p hp).2.2.2.1 hk
  rw[hS0 e (di _) (by omega),hS1 (e+1) (by omega) (by omega),hsF]at hv
  exact⟨hke,by simp only[hp,hk,if_true],hv⟩
 ·intro hn
  have hle:=List.getElem?_eq_none_iff.1 hn
  have:=hS0 E.length hle (di _)
  rw[sl]at this
  rw[this]
 ·intro j p k hj hz
  simp only[hj]at hz
  split at hz
  ·simp at hz
  ·rename_i hk
   simp only[fe]at hz
   subst hz
   simpa using (hall j p hj).2.2.2.2 (by simpa using hk)
 ·intro j hj
  simp only[cx hj]
 ·intro i j k hi hj
  have key:∀{i:Nat},(match E[i]? with|some p=>if p.op.iv then none else some (nmx (E.take i))|none=>none)=some k -> ∃p,E[i]? = some p/\p.op.iv=false/\nmx (E.take i)=k:=by
   intro i hi
   cases hE:E[i]? with
   | none=>rw[hE]at hi;simp at hi
   | some p=>
    rw[hE]at hi
    simp only at hi
    split at hi
    ·simp at hi
    ·rename_i hk
     exact⟨p,rfl,by simpa using hk,by simpa using hi⟩
  obtain⟨p,a1,a2,a3⟩:=key hi
  obtain⟨q,b1,b2,b3⟩:=key hj
  rcases Nat.lt_trichotomy i j with h|h|h
  ·have:=Vp a1 a2 h;omega
  ·exact h
  ·have:=Vp b1 b2 h;omega
 ·intro j p hj hz
  simp only[hj]at hz
  split at hz
  ·exact absurd rfl hz
  ·rename_i hk;simpa using hk
theorem Lo {l:List PI} (h:Nw l=true):(∀p ∈ l,p.g=none) /\ ∃p,l.getLast? = some p/\((p.op.kd = .W/\p.dst=none/\(∀i ∈ l.dropLast,i.op.kd = .S\/i.op.kd = .R\/((i.op.kd = .T\/i.op.kd = .C\/P3 i.op=true)/\i.ix ∈ p.pre))/\(l.dropLast.countP λi=>i.op.kd == .T)<=1) \/
  (p.op.kd ≠ .W/\(∀i ∈ l,i.op.kd = .S\/i.op.kd = .R\/i.op.kd = .T\/i.op.kd = .C\/P3 i.op=true)/\(l.countP λi=>i.op.kd == .T)<=1)):=by
 unfold Nw at h
 rw[dy]at h
 obtain⟨h1,h2⟩:=h
 refine⟨λp hp=>by simpa using aw.1 h1 p hp, ?_⟩
 split at h2
 ·rename_i p hp
  refine⟨p,hp, ?_⟩
  split at h2
  ·rename_i hk
   simp only[dy,decide_eq_true_eq,Option.isNone_iff_eq_none,aw,ei,beq_iff_eq,List.contains_iff_mem]at h2 hk
   obtain⟨⟨h2,h3⟩,h4⟩:=h2
   refine .inl ⟨hk,h2,λi hi => ?_,h4⟩
   rcases h3 i hi with(h|h)|⟨(h|h)|h,h'⟩
   ·exact .inl h
   ·exact .inr (.inl h)
   ·exact .inr (.inr ⟨.inl h,h'⟩)
   ·exact .inr (.inr ⟨.inr (.inl h),h'⟩)
   ·exact .inr (.inr ⟨.inr (.inr h),h'⟩)
  ·rename_i hk
   simp only[dy,decide_eq_true_eq,aw,ei,beq_iff_eq]at h2 hk
   refine .inr ⟨hk,λi hi => ?_,h2.2⟩
   rcases h2.1 i hi with((((h|h)|h)|h)|h)
   ·exact .inl h
   ·exact .inr (.inl h)
   ·exact .inr (.inr (.inl h))
   ·exact .inr (.inr (.inr (.inl h)))
   ·exact .inr (.inr (.inr (.inr h)))
 ·cases h2
theorem Ng {o:PO} (h:P3 o=true):o.kd = .A\/o.kd = .X:=by
 cases o<;>simp[P3]at h<;>simp[PO.kd]
theorem Dg {ps:List PI} {m n:Nat} (h:headD ps m n=true):∀(i j:Nat) (p q:PI) (d:Nat),m<=i->i<n->m<=j->j<n->ps[i]? = some p->ps[j]? = some q->q.dst=some d->i=j\/p.dst ≠ some d:=by
 intro i j p q d h1 h2 h3 h4 hp hq hd
 simp only[headD,aw,List.mem_range'_1]at h
 have:=h i ⟨h1,by omega⟩
 rw[hp]at this
 simp only[aw,List.mem_range'_1]at this
 have:=this j ⟨h3,by omega⟩
 rw[hq]at this
 simp only[hd,ei,beq_iff_eq,bne_iff_ne,ne_eq]at this
 exact this
theorem Sy (hS:Sound P call) (hF:jo P bsf ops ps) (hG:l6 ops [] m n) (hDD:∀(i j:Nat) (p q:PI) (d:Nat),m<=i->i<n->m<=j->j<n->ps[i]? = some p->ps[j]? = some q->q.dst=some d->i=j\/p.dst ≠ some d) (hTS:∀(i j:Nat) (p q:PI) (d:Nat),m<=i->i<n->m<=j->j<n->ps[i]? = some p->ps[j]? = some q->q.dst=some d->p.looks d=true->j ∈ p.pre) (hok:Nw ((ps.drop m).take (n-m))=true) {st stF:St} (hh:Fb call md ((ps.drop m).take (n-m)) st=some stF) {Q:Exit->Act->World->Prop} {fuel:Nat} {listed:Array Bool}
  (hnext:∀(fuel:Nat) (listed:Array Bool) (a:Act) (g':Gh) (w':World),fuel+n=ops.size->listed.size=ops.size->ll ops listed->(∀j,j<n->listed.getD j false=true)->(∀j,n<=j->listed.getD j false=false)->jv g' w' stF a->Ext g st.s w g' stF.s w'->wpAny P .any ops Q fuel listed a w')
  (hfuel:fuel+m=ops.size) (hsz:listed.size=ops.size) (hC:ll ops listed) (hfst:∀j,j<m->listed.getD j false=true) (hrest:∀j,m<=j->listed.getD j false=false) (hR:jv g w st a):wpAny P .any ops Q fuel listed a w:=by
 have hle:=hG.le
 have hmle:=hG.mle
 have hEl:((ps.drop m).take (n-m)).length=n-m:=by rw[b7,b8,hF.len];omega
 have hE:∀(j:Nat) (p:PI),((ps.drop m).take (n-m))[j]? = some p->p.ix=m+j/\ps[m+j]? = some p:=λj p hj=>by
  rw[bc]at hj
  split at hj
  ·rw[ba]at hj
   exact⟨hF.ix _ p hj,hj⟩
  ·simp at hj
 have hE2:∀(j:Nat) (p:PI),ps[m+j]? = some p->m+j<n->((ps.drop m).take (n-m))[j]? = some p:=λj p hj hlt=>by
  rw[bc,if_pos (by omega),ba];exact hj
 generalize (ps.drop m).take (n-m)=E at *
 obtain⟨hgn,pl,hlast,hcase⟩:=Lo hok
 have hgnj:∀(j:Nat) (p:PI),E[j]? = some p->p.g=none:=λj p hj=>hgn p (aq hj)
 have hdd:∀(j:Nat) (p:PI),E[j]? = some p -> ∀(k:Nat) (q:PI) (d:Nat),E[k]? = some q->q.dst=some d->p.dst=some d->k=j:=λj p hj k q d hk hq hp=>by
  have h1:=(List.getElem?_eq_some_iff.1 hj).1
  have h2:=(List.getElem?_eq_some_iff.1 hk).1
  rcases hDD (m+j) (m+k) p q d (by omega) (by omega) (by omega) (by omega) (hE j p hj).2 (hE k q hk).2 hq with h|h
  ·omega
  ·exact absurd hp h
 have hrel:∀{v:Nat->AV} {TM:Nat->List AV},TM 0=st.tm->(∀(j:Nat) (p:PI),E[j]? = some p->TM (j+1)=put (TM j) p.dst (v j)) -> ∀j,j<=E.length->ra E v st.tm (λk=>decide (k<j)) (TM j):=by
  intro v TM t0 ht j
  induction j with
  | zero=>intro _;rw[t0];exact⟨rfl,λ_ _=>rfl,λj i d _ _ h=>by simp at h⟩
  | succ j ih=>
   intro hj
   have hEj:E[j]? = some E[j]:=aa (by omega)
   rw[ht j _ hEj,<- wi]
   exact(ih (by omega)).put hEj (by simp) (hdd j _ hEj)
 have hcn:List.countP (λj=>listed.getD j false) (List.range ops.size)=m:=u7 ops.size (by omega) λj _=>⟨λh=>(by
  rcases dj j m with h'|h'
  ·exact h'
  ·rw[hrest j h']at h;cases h),hfst j⟩
 have run:∀{c e:Nat} {T1:List Nat} {s2:ASt} {Z:List fq} {zi:Nat->Option Nat} {v:Nat->AV} {TM:Nat->List AV},Tk call md E c e st T1 s2 Z zi v TM->stF=⟨TM E.length,st.df,s2⟩->wpAny P .any ops Q fuel listed a w:=by
  intro c e T1 s2 Z zi v TM hr hst
  obtain⟨k1,k2⟩:=a5l hR.inv Z
  refine I4 hS hF hG hDD hTS hEl hE hE2 hr (g0:=g) (w0:=w) (λf' l' a' g' w' z1 z2 z3 z4 z5 z6 z7=>hnext f' l' a' g' w' z1 z2 z3 z4 z5 (by rw[hst];exact z6) (by rw[hst];exact z7)) fuel listed a g w st.tm _ hsz (by omega) hC hfst (λj hj=>hrest j (by omega)) rfl (λj k hz hj _ => ?_) ⟨rfl,λ_ _=>rfl,λj i d hj _ h => ?_⟩ ?_ ?_
  ·exact L7 hR.inv (by omega)
  ·rw[hrest _ (by omega)]at h;cases h
  ·rw[if_neg (by rw[hrest _ (by omega)];exact eu),if_neg (by rw[hrest _ (by omega)];exact eu)]
   exact⟨k1,hR.tm.mono k2,hR.df.mono k2⟩
  ·rw[if_neg (by rw[hrest _ (by omega)];exact eu),if_neg (by rw[hrest _ (by omega)];exact eu)]
   exact k2
 unfold Fb at hh
 rw[hlast]at hh
 simp only at hh
 rcases hcase with⟨hkW,hdst,hpl,hcT⟩|⟨hkW,hpl,hcT⟩
 ·rw[hkW]at hh
  simp only[beq_self_eq_true,if_true]at hh
  split at hh
  ·rename_i tmF sF Z hm
   split at hh
   ·rename_i st2 hst2
    split at hh
    ·rename_i hstab
     simp only[fe]at hh
     subst hh
     have hsplit:E=E.dropLast++[pl]:=by
      have hne:E ≠ []:=by rintro rfl;simp at hlast
      rw[List.getLast?_eq_some_getLast hne]at hlast
      have:=List.dropLast_concat_getLast hne
      rw[Option.some.inj hlast]at this
      exact this.symm
     have hdl:E.dropLast.length=E.length-1:=List.length_dropLast
     have hlenE:E.length=E.dropLast.length+1:=by
      have:=congrArg List.length hsplit
      simpa using this
     have hgd:∀j,j<E.dropLast.length->E.dropLast[j]? = E[j]? := λj hj=>by
      have h1:E[j]? = (E.dropLast++[pl])[j]? := congrArg (λl:List PI=>l[j]?) hsplit
      rw[h1,ae hj]
     have hgl:E[E.dropLast.length]? = some pl:=by
      have h1:E[E.dropLast.length]? = (E.dropLast++[pl])[E.dropLast.length]? := congrArg (λl:List PI=>l[E.dropLast.length]?) hsplit
      rw[h1];simp
     have hne:pl.op.kd ≠ .X:=by rw[hkW];simp
     obtain⟨e,zi,v,TM,hMF,t0,tF,hsF⟩:=Nd (st:=st) (λp hp=>hgn p (List.dropLast_subset _ hp)) (λp hp=>by
      rcases hpl p hp with h|h|⟨h|h|h,_⟩
      ·rw[h];simp
      ·rw[h];simp
      ·rw[h];simp
      ·rw[h];simp
      ·rcases Ng h with h|h<;>rw[h]<;>simp) hcT hm
     obtain⟨vW,w1,w2⟩:=Ax hne hst2
     simp only at w1 w2
     rw[hdst]at w2
     have hput:put tmF none vW=tmF:=rfl
     rw[hput]at w2
     have hsZ:({sF with H:=sF.H++Z}:ASt)=⟨st.s.H++Z,sF.T⟩:=by rw[hsF]
     rw[hsZ]at w1
     have hlt:∀{j:Nat} {p:PI},E[j]? = some p->j ≠ E.dropLast.length->E.dropLast[j]? = some p/\j<E.dropLast.length:=λ{j p} hj hjc=>by
      have:=(List.getElem?_eq_some_iff.1 hj).1
      have h2:j<E.dropLast.length:=by omega
      exact⟨by rw[hgd j h2];exact hj,h2⟩
     obtain⟨e',he',hfe⟩:∃e',(e<E.dropLast.length->e'=e)/\(E.dropLast.length<=e->e'=E.length):=by
      rcases dj e E.dropLast.length with h|h
      ·exact⟨e,λ_=>rfl,λh'=>by omega⟩
      ·exact⟨E.length,λh'=>by omega,λ_=>rfl⟩
     refine run (c:=E.dropLast.length) (e:=e') (T1:=sF.T) (s2:=st2.s) (Z:=Z) (zi:=zi) (v:=λj=>if j=E.dropLast.length then vW else v j) (TM:=λj=>if j<=E.dropLast.length then TM j else TM E.dropLast.length) ?_ ?_
     ·have htm:∀(j:Nat) (p:PI),E[j]? = some p->(if j+1<=E.dropLast.length then TM (j+1)else TM E.dropLast.length)=put (if j<=E.dropLast.length then TM j else TM E.dropLast.length) p.dst (if j=E.dropLast.length then vW else v j):=λj p hj=>by
       by_cases hjc:j=E.dropLast.length
       ·subst hjc
        rw[hgl]at hj;cases hj
        rw[if_neg (by omega),if_pos (di _),hdst];rfl
       ·obtain⟨h1,h2⟩:=hlt hj hjc
        rw[if_pos (by omega),if_pos (by omega),if_neg hjc]
        exact hMF.tm j p h1
      refine⟨hgnj,hrel (by rw[if_pos (dk _)];exact t0) htm, ?_, ?_, ?_, ?_,hMF.inj,hMF.zl _ (di _), ?_, ?_⟩
      ·intro j p hj hjc hje hz
       obtain⟨h1,h2⟩:=hlt hj hjc
       have hje':j ≠ e:=λh=>hje (by rw[he' (by omega),h])
       simp only[if_pos (show j<=E.dropLast.length by omega),if_neg hjc]
       exact hMF.pl j p h1 hje' hz
      ·intro p hp
       have hel:=(List.getElem?_eq_some_iff.1 hp).1
       have hee:e<E.dropLast.length:=by
        rcases dj e E.dropLast.length with h|h
        ·exact h
        ·rw[hfe h]at hel;omega
       have h3:=he' hee
       subst h3
       obtain⟨q1,q2,q3⟩:=hMF.tt p (by rw[hgd _ hee];exact hp)
       simp only[if_pos (show e'<=E.dropLast.length by omega),if_neg (show e' ≠ E.dropLast.length by omega)]
       exact⟨q1,q2,by omega,q3⟩
      ·intro hn
       have h3:=List.getElem?_eq_none_iff.1 hn
       refine hMF.nt (cx ?_)
       rcases dj e E.dropLast.length with h|h
       ·have:=he' h;omega
       ·exact h
      ·intro j p k hj hz
       have hjc:j ≠ E.dropLast.length:=by rintro rfl;rw[hMF.zl _ (di _)]at hz;cases hz
       obtain⟨h1,h2⟩:=hlt hj hjc
       simp only[if_pos (show j<=E.dropLast.length by omega),if_neg hjc]
       exact hMF.mkk j p k h1 hz
      ·intro p hp
       rw[hgl]at hp;cases hp
       simp only[if_pos (di _),if_true]
       refine⟨hkW,by rw[tF];exact w1,λj q hq hjc => ?_⟩
       obtain⟨h1,h2⟩:=hlt hq hjc
       have hmem:=aq h1
       constructor
       ·intro hor
        rcases hpl q hmem with h|h|⟨_,h⟩
        ·exfalso
         rcases hor with hz|hz
         ·have:=hMF.mks j q h1 (by intro h;rw[h]at hz;cases hz)
          unfold PO.iv at this
          rw[h]at this;cases this
         ·have h3:e<E.dropLast.length:=by
           rcases dj e E.dropLast.length with h|h
           ·exact h
           ·have:=hfe h;omega
          have h4:=he' h3
          have:=(hMF.tt q (by rw[<- h4,<- hz];exact h1)).1
          rw[h]at this;cases this
        ·exfalso
         rcases hor with hz|hz
         ·have:=hMF.mks j q h1 (by intro h;rw[h]at hz;cases hz)
          unfold PO.iv at this
          rw[h]at this;cases this
         ·have h3:e<E.dropLast.length:=by
           rcases dj e E.dropLast.length with h|h
           ·exact h
           ·have:=hfe h;omega
          have h4:=he' h3
          have:=(hMF.tt q (by rw[<- h4,<- hz];exact h1)).1
          rw[h]at this;cases this
        ·exact h
       ·have:=aw.1 hstab q hmem
        simp only[ei,List.contains_iff_mem,beq_iff_eq,hsZ]at this
        rcases this with(h|h)|h
        ·exact .inl h
        ·exact .inr (.inl h)
        ·exact .inr (.inr ⟨h2,by rw[tF];exact h⟩)
      ·intro hn
       rw[hgl]at hn;cases hn
     ·rw[w2,if_neg (by omega),tF]
    ·simp at hh
   ·simp at hh
  ·simp at hh
 ·rw[if_neg (by simpa using hkW)]at hh
  split at hh
  ·rename_i tmF sF Z hm
   simp only[fe]at hh
   subst hh
   obtain⟨e,zi,v,TM,hMF,t0,tF,hsF⟩:=Nd (st:=st) hgn (λp hp=>by
    rcases hpl p hp with h|h|h|h|h
    ·rw[h];simp
    ·rw[h];simp
    ·rw[h];simp
    ·rw[h];simp
    ·rcases Ng h with h|h<;>rw[h]<;>simp) hcT hm
   have hnc:E[E.length]? = none:=by simp
   refine run (c:=E.length) (e:=e) (T1:=sF.T) (s2:=⟨st.s.H++Z,sF.T⟩) (Z:=Z) (zi:=zi) (v:=v) (TM:=TM) ⟨hgnj,hrel t0 hMF.tm,λj p hj _ hje hz=>hMF.pl j p hj hje hz,λp hp => ?_,hMF.nt,hMF.mkk,hMF.inj,hMF.zl _ (di _),λp hp=>(by rw[hnc]at hp;cases hp),λ_=>rfl⟩ ?_
   ·obtain⟨q1,q2,q3⟩:=hMF.tt p hp
    exact⟨q1,q2,by have:=(List.getElem?_eq_some_iff.1 hp).1;omega,q3⟩
   ·rw[tF,hsF]
  ·simp at hh
end
end Go.Proofs.Eng
namespace Go.Proofs.Eng
open Go.RowKit
variable [DrK]
section
variable {P:Program} {call:ia} {md:FuncId->Md} {bsf:Bf} {ops:Array Oper} {ps:List PI} {m n:Nat}
def HdR (x y:PI):Prop:=x.ix ≠ y.ix/\(x.op.kd ≠ .A->y.op.kd ≠ .A)/\(x.op.kd ≠ .A->x.ix<y.ix)
theorem xc (N i:Nat):(Array.replicate N false).getD i false=false:=by
 rw[Array.getD_eq_getD_getElem?,Array.getElem?_replicate]
 split<;>rfl
def piece (ps:List PI) (m n:Nat):List PI:=(ps.drop m).take (n-m)
theorem Ao (hF:jo P bsf ops ps) {j:Nat} {x:PI} (h:(piece ps m n)[j]? = some x):x.ix=m+j/\m+j<n/\ps[m+j]? = some x:=by
 unfold piece at h
 rw[bc]at h
 split at h
 ·rename_i hjn
  rw[ba]at h
  exact⟨hF.ix _ x h,by omega,h⟩
 ·simp at h
theorem As {x:PI} (hF:jo P bsf ops ps) (h:x ∈ piece ps m n):m<=x.ix/\x.ix<n/\ps[x.ix]? = some x:=by
 obtain⟨j,hj⟩:=c8 h
 obtain⟨h1,h2,h3⟩:=Ao hF hj
 rw[h1];exact⟨by omega,h2,h3⟩
theorem Hf (l:List PI):(hoist l).length=l.length:=by
 unfold hoist
 induction l with
 | nil=>rfl
 | cons x l ih=>
  simp only[ah]at ih ⊢
  by_cases h:(x.op.kd == .A&&x.g.isNone)=true
  ·rw[List.filter_cons,if_pos h,List.filter_cons,if_neg (by simp[h])]
   simp only[ak];omega
  ·have h':(x.op.kd == .A&&x.g.isNone)=false:=Bool.eq_false_iff.2 h
   rw[List.filter_cons,if_neg h,List.filter_cons,if_pos (by rw[h'];rfl)]
   simp only[ak];omega
theorem Gw {l:List PI} {x:PI}:x ∈ hoist l ↔ x ∈ l:=by
 unfold hoist
 simp only[List.mem_append,List.mem_filter]
 constructor
 ·rintro(h|h)<;>exact h.1
 ·intro h
  by_cases hc:(x.op.kd == .A&&x.g.isNone)=true
  ·exact .inl ⟨h,hc⟩
  ·exact .inr ⟨h,by rw[Bool.eq_false_iff.2 hc];rfl⟩
theorem Zk (hF:jo P bsf ops ps) (hA:∀(i:Nat) (p:PI),m<=i->i<n->ps[i]? = some p->p.op.kd ≠ .A\/p.g=none):(hoist (piece ps m n)).Pairwise HdR:=by
 have hix:(piece ps m n).Pairwise (λx y=>x.ix<y.ix):=by
  rw[List.pairwise_iff_getElem]
  intro i j hi hj hij
  have h1:=(Ao hF (aa hi)).1
  have h2:=(Ao hF (aa hj)).1
  omega
 unfold hoist
 rw[List.pairwise_append]
 refine⟨?_, ?_, ?_⟩
 ·refine((hix.filter _).imp_of_mem ?_)
  intro x y hx hy h
  have hk:x.op.kd = .A:=by have:=(List.mem_filter.1 hx).2;simp at this;exact this.1
  exact⟨by omega,λh=>absurd hk h,λh=>absurd hk h⟩
 ·refine((hix.filter _).imp_of_mem ?_)
  intro x y hx hy h
  have hy2:y.op.kd ≠ .A:=by
   have h1:=List.mem_filter.1 hy
   have h2:=As hF h1.1
   rcases hA _ _ h2.1 h2.2.1 h2.2.2 with h3|h3
   ·exact h3
   ·intro e;have:=h1.2;simp[e,h3]at this
  exact⟨by omega,λ_=>hy2,λ_=>h⟩
 ·intro x hx y hy
  have hxm:=List.mem_filter.1 hx
  have hym:=List.mem_filter.1 hy
  have hk:x.op.kd = .A:=by have:=hxm.2;simp at this;exact this.1
  refine⟨λe => ?_,λh=>absurd hk h,λh=>absurd hk h⟩
  have h1:=(As hF hxm.1).2.2
  have h2:=(As hF hym.1).2.2
  rw[e,h2]at h1
  cases h1
  have:=hym.2
  rw[hxm.2]at this
  simp at this
theorem Et {E:List PI} {S:Nat->St} {v:Nat->AV} (hr:Bt call md E S v):∀{l1 m:List PI} {k:Nat} {st1:St},E.drop k=l1++m->(∀i ∈ l1,i.op.kd ≠ .X)->B0 call md l1 (S k) st1->S (k+l1.length)=st1
 | [],_,k,st1,_,_,h=>h
 | i::l1,m,k,st1,hd,hX,⟨s1,h1,h2⟩=>by
  have hi:E[k]? = some i:=by
   have:(E.drop k)[0]? = some i:=by rw[hd];rfl
   rw[ba]at this
   simpa using this
  obtain⟨x,hx,hst⟩:=Ax (hX i (by simp)) h1
  have hv:=hr.val k i hi
  rw[hx]at hv
  simp only[fe,ff,Sum.inl.injEq]at hv
  have hS1:S (k+1)=s1:=by
   have e1:=hr.tm k i hi
   have e2:=hr.df k i hi
   rw[hst]
   have:S (k+1)=⟨(S (k+1)).tm,(S (k+1)).df,(S (k+1)).s⟩:=rfl
   rw[this,e1,e2,<- hv.1,<- hv.2]
  rw[<- hS1]at h2
  have hd':E.drop (k+1)=l1++m:=by
   have:(E.drop k).drop 1=(i::l1++m).drop 1:=by rw[hd]
   rw[List.drop_drop]at this
   simpa using this
  have:=Et hr hd' (λj hj=>hX j (by simp[hj])) h2
  rw[ak,<- this]
  congr 1;omega
theorem Sq {i:PI} {tm:List AV} {s s':ASt} {x:AV} (hX:i.op.kd ≠ .X) (hg:i.op.kd ≠ .A\/i.g=none) (h:jl call md i tm s=some (.inr x,s')):i.op.kd = .S\/i.op.kd = .C:=by
 obtain⟨H,T⟩:=s
 cases hk:i.op.kd with
 | S=>exact .inl rfl
 | C=>exact .inr rfl
 | X=>exact absurd hk hX
 | A=>
  have:=(G5 hk (hg.resolve_left (λh=>h hk)) h).1
  cases this
 | R=>
  exfalso
  unfold jl at h
  split at h
  ·simp at h
  ·cases ho:opA tm ⟨H,T⟩ i.op with
   | none=>rw[ho]at h;simp at h
   | some r=>rw[ho]at h;obtain⟨v,rfl,_⟩:=Jv hk ho;simp at h
  ·simp at h
 | W=>
  exfalso
  unfold jl at h
  split at h
  ·simp at h
  ·cases ho:opA tm ⟨H,T⟩ i.op with
   | none=>rw[ho]at h;simp at h
   | some r=>rw[ho]at h;obtain⟨v,H',rfl,_⟩:=a1e hk ho;simp at h
  ·simp at h
 | T=>
  exfalso
  unfold jl at h
  split at h
  ·simp at h
  ·cases ho:opA tm ⟨H,T⟩ i.op with
   | none=>rw[ho]at h;simp at h
   | some r=>rw[ho]at h;obtain⟨v,H',rfl⟩:=Rr hk ho;simp at h
  ·simp at h
theorem J4 {E:List PI} {S:Nat->St} {v:Nat->AV} {c:Nat} (hr:Bt call md E S v) (hc:wh E c) {g:Gh} {w:World} (hI:Inv g (S 0).s w):∀k,k<=c ->
  Inv g (S k).s w/\Ext g (S 0).s w g (S k).s w/\(S k).s.H.length=(S 0).s.H.length+k/\(∀j i,j<k->E[j]? = some i->(S k).s.H[(S 0).s.H.length+j]? = some (Sn i.op)/\v j=valOf i.op ((S 0).s.H.length+j))
 | 0,_=>⟨hI,.refl _ _ _,by simp,λj i h=>by omega⟩
 | k+1,hk=>by
  obtain⟨h1,h2,h3,h4⟩:=J4 hr hc hI k (by omega)
  have hE:E[k]? = some (E[k]'(dq hk hc.le)):=aa _
  obtain⟨hkA,hkg⟩:=hc.first k _ (by omega) hE
  obtain⟨e1,e2⟩:=G5 hkA hkg (hr.val k _ hE)
  simp only[Sum.inl.injEq]at e1
  rw[e2]
  refine⟨h1.grow _,h2.trans (Ext.grow h1 _),by simp[h3];omega,λj i hj hi => ?_⟩
  by_cases hjk:j=k
  ·subst hjk
   rw[hE]at hi;cases hi
   refine⟨by simp[h3],by rw[e1,h3]⟩
  ·obtain⟨h5,h6⟩:=h4 j i (by omega) hi
   exact⟨by rw[ae (List.getElem?_eq_some_iff.1 h5).1];exact h5,h6⟩
theorem C4 (hS:Sound P call) (hF:jo P bsf ops ps) (hG:l6 ops ps m n) {st stF:St} {rp:Option (AV × ASt)} (hh:js call md (hoist (piece ps m n)) (hoist (piece ps m n)) st none=some (stF,rp)) {Q:Exit->Act->World->Prop} {g:Gh} {w:World} {fuel:Nat} {listed:Array Bool} {a:Act}
  (hpanQ:∀v s,rp=some (v,s)->QOK g st.s w (.pan v) {st with tm:=kq (hoist (piece ps m n)) st.tm,s} Q)
  (hnext:rp=none -> ∀(fuel:Nat) (listed:Array Bool) (a:Act) (g':Gh) (w':World),fuel+n=ops.size->listed.size=ops.size->ll ops listed->(∀j,j<n->listed.getD j false=true)->(∀j,n<=j->listed.getD j false=false)->jv g' w' stF a->Ext g st.s w g' stF.s w'->wpAny P .any ops Q fuel listed a w')
  (hfuel:fuel+m=ops.size) (hsz:listed.size=ops.size) (hC:ll ops listed) (hfst:∀j,j<m->listed.getD j false=true) (hrest:∀j,m<=j->listed.getD j false=false) (hR:jv g w st a):wpAny P .any ops Q fuel listed a w:=by
 have hlenp:(piece ps m n).length=n-m:=by unfold piece;rw[b7,b8,hF.len];have:=hG.le;omega
 have hAg:∀(i:Nat) (p:PI),m<=i->i<n->ps[i]? = some p->p.op.kd ≠ .A\/p.g=none:=λi p h1 h2 h3=>(hG.kdX i p h1 h2 h3).2
 have hpw:=Zk hF hAg
 have hmem:∀x ∈ hoist (piece ps m n),m<=x.ix/\x.ix<n/\ps[x.ix]? = some x:=λx hx=>As hF (Gw.1 hx)
 have hall:∀i,m<=i->i<n -> ∃x ∈ hoist (piece ps m n),x.ix=i:=by
  intro i hmi hi
  have hlt:i-m<(piece ps m n).length:=by omega
  have h1:(piece ps m n)[i-m]? = some (piece ps m n)[i-m]:=aa hlt
  refine⟨_,Gw.2 (aq h1), ?_⟩
  have:=(Ao hF h1).1
  omega
 generalize hhd:hoist (piece ps m n)=hd at *
 have hX:∀x ∈ hd,x.op.kd ≠ .X:=λx hx=>(hG.kdX x.ix x (hmem x hx).1 (hmem x hx).2.1 (hmem x hx).2.2).1
 have hG':∀x ∈ hd,x.op.kd ≠ .A\/x.g=none:=λx hx=>hAg x.ix x (hmem x hx).1 (hmem x hx).2.1 (hmem x hx).2.2
 have mk:∀(E:List PI) (stF:St),List.Sublist E hd->B0 call md E st stF -> ∃S v c,S 0=st/\S E.length=stF/\Bt call md E S v/\wh E c/\(∀(k:Nat) (i:PI),E[k]? = some i->m<=i.ix/\i.ix<n/\ps[i.ix]? = some i) /\
   (∀(j k:Nat) (i r:PI),E[j]? = some i->E[k]? = some r->i.ix=r.ix->j=k)/\(∀(j k:Nat) (i r:PI),E[j]? = some i->E[k]? = some r->i.op.kd ≠ .A->r.op.kd ≠ .A->i.ix<r.ix->j<k):=by
  intro E stF hsub hrun
  obtain⟨S,v,e1,e2,hr⟩:=hrun.Zh λi hi=>hX i (hsub.subset hi)
  have hpE:=hpw.sublist hsub
  have hget:∀(j k:Nat) (i r:PI),E[j]? = some i->E[k]? = some r->j<k->HdR i r:=by
   intro j k i r hj hk hjk
   obtain⟨h1,h2⟩:=List.getElem?_eq_some_iff.1 hj
   obtain⟨h3,h4⟩:=List.getElem?_eq_some_iff.1 hk
   have:=(List.pairwise_iff_getElem.1 hpE) j k h1 h3 hjk
   rwa [h2,h4]at this
  refine⟨S,v,E.findIdx (λi=>i.op.kd != .A),e1,e2,hr,⟨List.findIdx_le_length,λk i hk hi => ?_,λk i hk hi => ?_⟩,λk i hi=>hmem i (hsub.subset (aq hi)),λj k i r hj hk he => ?_,λj k i r hj hk hiA hrA hlt => ?_⟩
  ·have:=List.not_of_lt_findIdx hk
   obtain⟨h1,h2⟩:=List.getElem?_eq_some_iff.1 hi
   rw[h2]at this
   have hkA:i.op.kd = .A:=by simpa using this
   exact⟨hkA,(hG' i (hsub.subset (aq hi))).resolve_left (λh=>h hkA)⟩
  ·refine⟨?_,hX i (hsub.subset (aq hi))⟩
   have hlt:E.findIdx (λi=>i.op.kd != .A)<E.length:=Nat.lt_of_le_of_lt hk (List.getElem?_eq_some_iff.1 hi).1
   have hf:=List.findIdx_getElem (w:=hlt) (xs:=E) (p:=λi=>i.op.kd != .A)
   have hf':(E[E.findIdx (λi=>i.op.kd != .A)]).op.kd ≠ .A:=by simpa using hf
   rcases dj (E.findIdx (λi=>i.op.kd != .A)) k with h|h
   ·exact(hget _ k _ i (aa hlt) hi h).2.1 hf'
   ·have hkk:k=E.findIdx (λi=>i.op.kd != .A):=by omega
    subst hkk
    rw[aa hlt]at hi
    cases hi
    exact hf'
  ·rcases Nat.lt_trichotomy j k with h|h|h
   ·exact absurd he (hget j k i r hj hk h).1
   ·exact h
   ·exact absurd he.symm (hget k j r i hk hj h).1
  ·rcases Nat.lt_trichotomy j k with h|h|h
   ·exact h
   ·subst h;rw[hj]at hk;cases hk;omega
   ·have:=(hget k j r i hk hj h).2.2 hrA;omega
 have fin:∀(E:List PI) (S:Nat->St) (v:Nat->AV) (c:Nat) (pan:Option (PI × AV × Nat)) (st':St) (ex:gg),N5 P call md ops ps m n st st' ex E S v c pan->(∀r,pan=some r->QOK g st.s w ex st' Q) ->
   (pan=none->rp=none/\S E.length=stF)->wpAny P .any ops Q fuel listed a w:=by
  intro E S v c pan st' ex hH hQ hN
  have hI0:Inv g (S 0).s w:=by rw[hH.h0];exact hR.inv
  have hgr:=J4 hH.run hH.hoi hI0
  obtain⟨i1,i2,i3,i4⟩:=hgr c (di _)
  rw[hH.h0]at i2 i3 i4
  have hL0:jz E listed = λ_=>false:=by
   funext j
   unfold jz
   split
   ·rename_i r hr
    exact hrest _ (hH.mem _ r hr).1
   ·rfl
  have hmu:∀k,g.mu (st.s.H.length+k)=none:=by
   intro k
   cases h:g.mu (st.s.H.length+k)with
   | none=>rfl
   | some b=>have:=(hR.inv.lt _ _ h).1;omega
  refine V7 hS hF hG hH hQ (λk i hk hi=>(i4 k i hk hi).2) (λhp=>by obtain⟨e1,e2⟩:=hN hp;rw[e2];exact hnext e1) fuel listed a g w hsz ?_ hC hfst (λj hj=>hrest j (by have:=hG.mle;omega)) (λp x q hp=>hrest _ (hH.at' p x q hp).2.1) ?_ ?_ ?_
  ·rw[u7 (n:=m) ops.size (by have:=hG.le;have:=hG.mle;omega) λj _=>⟨λh => ?_,λh=>hfst j h⟩]
   ·exact hfuel
   ·rcases dj j m with h1|h1
    ·exact h1
    ·rw[hrest j h1]at h;cases h
  ·rw[hL0,wa,vh,yk]
   exact⟨i1,hR.tm.mono i2,hR.df.mono i2⟩
  ·rw[hL0,vh,yk]
   exact i2
  ·intro k i hk hi _
   rw[hL0,vh]
   exact⟨hmu k,(i4 k i hk hi).1⟩
 rcases F5 hh with⟨h1,h2⟩|⟨l1,p,l2,st1,x,st2,hsplit,h2,h3,h4,h5,h6⟩
 ·simp only at h1 h2
  subst h1
  obtain⟨S,v,c,e1,e2,hr,hc,m1,m2,m3⟩:=mk hd stF (List.Sublist.refl _) h2
  refine fin hd S v c none st .normal ⟨hr,e1,hc,m1,m2,m3,λi hmi hi _ => ?_,λp x q h=>by cases h⟩ (λr h=>by cases h) λ_=>⟨rfl,e2⟩
  obtain⟨y,hy,hyi⟩:=hall i hmi hi
  obtain⟨k,hk⟩:=c8 hy
  exact⟨k,y,hk,hyi⟩
 ·simp only at h5 h6
  subst h5
  have hsub:List.Sublist (l1++l2.filter λq => !q.pre.contains p.ix) hd:=by
   rw[hsplit]
   exact List.Sublist.append (List.Sublist.refl _) ((List.filter_sublist).trans (List.sublist_cons_self _ _))
  obtain⟨S,v,c,e1,e2,hr,hc,m1,m2,m3⟩:=mk _ stF hsub (h2.append h6)
  have hphd:p ∈ hd:=by rw[hsplit];simp
  have hSq:S l1.length=st1:=by
   have:=Et hr (k:=0) (l1:=l1) (m:=l2.filter λq => !q.pre.contains p.ix) (st1:=st1) (by simp) (λi hi=>hX i (by rw[hsplit];simp[hi])) (by rw[e1];exact h2)
   simpa using this
  have hpval:=Wb h3
  have hpk:=Sq (hX p hphd) (hG' p hphd) hpval
  have hpA:p.op.kd ≠ .A:=by rcases hpk with h|h<;>rw[h]<;>simp
  have hpw':=hpw
  rw[hsplit,List.pairwise_append]at hpw'
  obtain⟨w1,w2,w3⟩:=hpw'
  rw[List.pairwise_cons]at w2
  have hcq:c<=l1.length:=by
   rcases dj l1.length c with h|h
   ·exfalso
    have hlt:l1.length<(l1++l2.filter λq => !q.pre.contains p.ix).length:=dq h hc.le
    have hE:=aa hlt
    have hA:=(hc.first _ _ h hE).1
    rw[af (di _),Nat.sub_self]at hE
    have:=aq hE
    exact(w2.1 _ (List.mem_filter.1 this).1).2.1 hpA hA
   ·exact h
  refine fin _ S v c (some (p,x,l1.length)) {st with tm:=kq hd st.tm,s:=st1.s} (.pan x) ⟨hr,e1,hc,m1,m2,m3,λi hmi hi hcond => ?_,λp' x' q' h => ?_⟩ (λr _=>hpanQ _ _ rfl) (λh=>by cases h)
  ·obtain⟨y,hy,hyi⟩:=hall i hmi hi
   obtain⟨c1,c2⟩:=hcond p x _ rfl
   have hyp:=(hmem y hy).2.2
   rw[hyi]at hyp
   have hnp:=c2 y hyp
   rw[hsplit]at hy
   have hyE:y ∈ l1++l2.filter λq => !q.pre.contains p.ix:=by
    rcases List.mem_append.1 hy with h|h
    ·exact List.mem_append.2 (.inl h)
    ·rcases List.mem_cons.1 h with rfl|h
     ·exact absurd hyi.symm c1
     ·exact List.mem_append.2 (.inr (List.mem_filter.2 ⟨h,by simpa using hnp⟩))
   obtain⟨k,hk⟩:=c8 hyE
   exact⟨k,y,hk,hyi⟩
  ·simp only[fe,ff]at h
   obtain⟨rfl,rfl,rfl⟩:=h
   have horder:∀(j:Nat) (r:PI),(l1++l2.filter λq => !q.pre.contains p.ix)[j]? = some r->r.op.kd ≠ .A->(j<l1.length ↔ r.ix<p.ix):=by
    intro j r hj hrA
    constructor
    ·intro hlt
     rw[ae hlt]at hj
     exact(w3 r (aq hj) p (by simp)).2.2 hrA
    ·intro hlt
     rcases dj j l1.length with h|h
     ·exact h
     ·rw[af h]at hj
      have:=(w2.1 r (List.mem_filter.1 (aq hj)).1).2.2 hpA
      omega
   refine⟨(hmem p hphd).2.2,(hmem p hphd).1,(hmem p hphd).2.1,hpk,hcq,by simp,⟨st2.s,by rw[hSq];exact hpval⟩,horder,λj r hj hkd => ?_,rfl,by rw[hSq],rfl,ur _ _,λd => ?_⟩
   ·have hrhd:=hsub.subset (aq hj)
    have:=(aw.1 h4) r hrhd
    have heff:r.op.kd.eff=true:=by rcases hkd with h|h<;>rw[h]<;>rfl
    rw[heff]at this
    simp only[ed,Bool.false_or]at this
    split at this
    ·rename_i hlt;rw[if_pos hlt];simpa using this
    ·rename_i hlt
     rw[if_neg hlt]
     simp only[ei,beq_iff_eq,List.contains_iff_mem]at this
     rcases this with h|h
     ·exfalso
      have h1:=(hmem r hrhd).2.2
      have h2:=(hmem p hphd).2.2
      rw[h,h2]at h1
      cases h1
      rcases hkd with h|h<;>rcases hpk with h'|h'<;>rw[h]at h'<;>cases h'
     ·exact h
   ·rcases A2 hd st.tm d with⟨h1,h2⟩|h1|h1
    ·exact .inl ⟨h1,λj r hj=>h2 r (hsub.subset (aq hj))⟩
    ·exact .inr (.inl h1)
    ·exact .inr (.inr h1.1)
theorem rb (hS:Sound P call) (hF:jo P bsf ops ps) {k:Nat} (hk:k<ops.size) (hlater:∀j,k<j->j<ops.size -> ∃o:Oper,ops[j]? = some o /\ ∃e ∈ o.after,k<=e.on/\Region.binds .any e=true) {b:PI} (hb:ps[k]? = some b) {st1 st2:St} {ex1:gg} (hs:iw call md false b st1=some (ex1,st2)) {Q:Exit->Act->World->Prop} {g:Gh} {w:World} {fuel:Nat} {listed:Array Bool} {a:Act}
  (hQ:∀v,ex1 = .pan v->QOK g st1.s w (.pan v) st2 Q)
  (hnext:ex1 = .normal -> ∀(listed:Array Bool) (a:Act) (g':Gh) (w':World),listed.size=ops.size->ll ops listed->(∀j,j<k+1->listed.getD j false=true)->(∀j,k+1<=j->listed.getD j false=false)->jv g' w' st2 a->Ext g st1.s w g' st2.s w'->wpAny P .any ops Q fuel listed a w')
  (hsz:listed.size=ops.size) (hC:ll ops listed) (hfst:∀j,j<k->listed.getD j false=true) (hrest:∀j,k<=j->listed.getD j false=false) (hR:jv g w st1 a):wpAny P .any ops Q (fuel+1) listed a w:=by
 refine⟨λhnil => ?_,λi hi => ?_⟩
 ·obtain⟨j,_,hj⟩:=ph hF hsz k hk (hrest k (di _))
  rw[hnil]at hj;simp at hj
 ·have h1:=re hi
  have h2:=qb hsz hi
  have hik:i=k:=by
   rcases Nat.lt_trichotomy i k with h|h|h
   ·have:=hfst i h;rw[h2]at this;cases this
   ·exact h
   ·obtain⟨o,ho,e,he,hon,hbd⟩:=hlater i h h1
    obtain⟨_,o',ho',hall⟩:=mem_ready.1 hi
    rw[ho]at ho';cases ho'
    have:=hall e he hbd
    rw[hrest _ hon]at this;cases this
  subst hik
  obtain⟨o,ho,q1,q2,q3⟩:=hF.Wm i _ hb
  rw[dp]at ho
  refine uk ho ?_
  have hC':=w8 hC hi
  refine o8 hS q1 q2 q3 hs hR (λe g' a' w' hE hR' _ => ?_) (λv e g' a' w' u hE hR' hu => ?_)
  ·refine hnext e _ a' g' w' (by simpa using hsz) hC' (λj hj => ?_) (λj hj => ?_) hR' hE
   ·by_cases hji:j=i
    ·subst hji;simp[hsz,hk]
    ·rw[getD_set_ne false (λe=>hji e.symm)];exact hfst j (by omega)
   ·rw[getD_set_ne false (by omega)];exact hrest j (by omega)
  ·exact hQ v e g' a' w' _ hE hR' ⟨u,rfl,hu⟩
theorem xl (hF:jo P bsf ops ps) (h:n<=ops.size):(hoist (piece ps m n)).length=n-m:=by
 rw[Hf];unfold piece;rw[b7,b8,hF.len];omega
theorem a5b (hF:jo P bsf ops ps):∀(i:Nat) (p:PI),ps[i]? = some p -> ∀j ∈ p.pre,j<i:=by
 intro i
 induction i using Nat.strongRecOn with
 | _ i ih=>
  intro p hp j hj
  have hsz:i<ops.size:=by rw[<- hF.len];exact(List.getElem?_eq_some_iff.1 hp).1
  have ho:ops[i]? = some ops[i]:=dw hsz
  obtain⟨e,he,hb,h⟩:=hF.pre i _ p ho hp j hj
  have hlt:=hF.down i _ e ho he hb
  rcases h with rfl|⟨q,hq,hjq⟩
  ·exact hlt
  ·have:=ih e.on hlt q hq j hjq;omega
theorem yl (hF:jo P bsf ops ps) {j:Nat} {p:PI} (hj:((ps.drop m).take (n-m))[j]? = some p):p.ix=m+j/\ps[m+j]? = some p/\m+j<n:=by
 rw[bc]at hj
 split at hj
 ·rw[ba]at hj
  exact⟨hF.ix _ _ hj,hj,by omega⟩
 ·cases hj
theorem Of (hF:jo P bsf ops ps) (hn:n<=ops.size) {E:List PI} (hp:List.Perm E ((ps.drop m).take (n-m))) (hord:∀(j:Nat) (p:PI) (k:Nat),E[j]? = some p->k ∈ p.pre->m<=k -> ∃(i:Nat) (q:PI),i<j/\E[i]? = some q/\q.ix=k):Perm E ps m n (λj=>(E[j]?.map PI.ix).getD n):=by
 have hto:∀p ∈ E,ps[p.ix]? = some p/\m<=p.ix/\p.ix<n:=λp h=>by
  obtain⟨j,hj⟩:=List.mem_iff_getElem?.1 (hp.mem_iff.1 h)
  obtain⟨h1,h2,h3⟩:=yl hF hj
  rw[h1];exact⟨h2,by omega,h3⟩
 have hnd:(E.map PI.ix).Nodup:=by
  refine(hp.map PI.ix).nodup_iff.2 ?_
  refine List.pairwise_iff_getElem.2 λi j hi hj hij => ?_
  simp only[List.getElem_map]
  rw[dg]at hi hj
  have h1:=(yl hF (aa hi)).1
  have h2:=(yl hF (aa hj)).1
  rw[h1,h2];omega
 have hs:∀{j:Nat} {p:PI},E[j]? = some p->(E[j]?.map PI.ix).getD n=p.ix:=λh=>by rw[h];rfl
 refine⟨λj hj => ?_,λj hj => ?_,λi j hi hj h => ?_,λi h1 h2 => ?_,λj p hj => ?_,λj p k hj hk hm => ?_⟩
 ·have:=hto _ (List.getElem_mem hj)
  simp only[hs (aa hj)];exact this.2
 ·simp[cx hj]
 ·simp only[hs (aa hi),hs (aa hj)]at h
  have key:=List.pairwise_iff_getElem.1 hnd
  rcases Nat.lt_trichotomy i j with h'|h'|h'
  ·have:=key i j (by simpa using hi) (by simpa using hj) h'
   rw[List.getElem_map,List.getElem_map]at this
   exact absurd h this
  ·exact h'
  ·have:=key j i (by simpa using hj) (by simpa using hi) h'
   rw[List.getElem_map,List.getElem_map]at this
   exact absurd h.symm this
 ·have hl:i<ps.length:=by rw[hF.len];omega
  have h3:((ps.drop m).take (n-m))[i-m]? = some ps[i]:=by
   rw[bc,if_pos (by omega),ba,show m+(i-m)=i by omega]
   exact aa hl
  obtain⟨j,hj⟩:=List.mem_iff_getElem?.1 (hp.mem_iff.2 (aq h3))
  refine⟨j,(List.getElem?_eq_some_iff.1 hj).1, ?_⟩
  simp only[hs hj]
  exact hF.ix i _ (aa hl)
 ·exact⟨(hs hj).symm,by rw[hs hj];exact(hto p (aq hj)).1⟩
 ·obtain⟨i,q,h1,h2,h3⟩:=hord j p k hj hk hm
  exact⟨i,h1,by simp only[hs h2];exact h3⟩
theorem O1 (hF:jo P bsf ops ps) (hn:n<=ops.size):Perm ((ps.drop m).take (n-m)) ps m n (λj=>(((ps.drop m).take (n-m))[j]?.map PI.ix).getD n):=by
 refine Of hF hn (List.Perm.refl _) λj p k hj hk hm => ?_
 obtain⟨h1,h2,h3⟩:=yl hF hj
 have h4:=a5b hF _ _ h2 k hk
 have hl:k<ps.length:=by rw[hF.len];omega
 refine⟨k-m,ps[k],by omega, ?_,hF.ix k _ (aa hl)⟩
 rw[bc,if_pos (by omega),ba,show m+(k-m)=k by omega]
 exact aa hl
theorem Ek:∀{l:List PI} {seen:List Nat},O2 m l seen=true -> ∀(j:Nat) (p:PI) (k:Nat),l[j]? = some p->k ∈ p.pre->m<=k->k ∈ seen \/ ∃(i:Nat) (q:PI),i<j/\l[i]? = some q/\q.ix=k
 | [],_,_,j,p,k,hj,_,_=>by simp at hj
 | a::l,seen,h,j,p,k,hj,hk,hm=>by
  simp only[O2,dy]at h
  cases j with
  | zero=>
   simp only[bw,fe]at hj
   subst hj
   have:=aw.1 h.1 k hk
   simp only[ei,decide_eq_true_eq,List.contains_iff_mem]at this
   rcases this with h'|h'
   ·omega
   ·exact .inl h'
  | succ j=>
   rw[bu]at hj
   rcases Ek h.2 j p k hj hk hm with h'|⟨i,q,h1,h2,h3⟩
   ·rcases List.mem_cons.1 h' with rfl|h'
    ·exact .inr ⟨0,a,by omega,rfl,rfl⟩
    ·exact .inl h'
   ·exact .inr ⟨i+1,q,by omega,by rw[bu];exact h2,h3⟩
theorem E6 (l:List PI) (c:Nat):List.Perm (early l c) l:=by
 unfold early
 split
 ·rename_i i l' h
  rw[aj]
  have h1:l=l.take c++i::l':=by rw[<- h,ck]
  refine List.Perm.trans (List.Perm.append_left (l.take c) ?_) (List.Perm.of_eq h1.symm)
  refine List.perm_middle.trans (List.Perm.cons i ?_)
  refine List.perm_append_comm.trans ?_
  exact List.filter_append_perm _ _
 ·exact List.Perm.refl _
theorem Mk (hF:jo P bsf ops ps) (hn:n<=ops.size) {sh:FuncId->Bool} {c:Nat} {E:List PI} (h:Lj sh m ((ps.drop m).take (n-m))=some (c,E)):rz E c=true/\E.length=((ps.drop m).take (n-m)).length/\Perm E ps m n (λj=>(E[j]?.map PI.ix).getD n):=by
 unfold Lj at h
 obtain⟨c0,_,h⟩:=Option.bind_eq_some_iff.1 h
 split at h
 ·cases h
 ·obtain⟨c1,_,h⟩:=Option.bind_eq_some_iff.1 h
  split at h
  ·rename_i hh
   simp only[fe,ff]at h
   obtain⟨rfl,rfl⟩:=h
   simp only[dy]at hh
   refine⟨hh.1,(E6 _ _).length_eq,Of hF hn (E6 _ _) λj p k hj hk hm => ?_⟩
   rcases Ek hh.2 j p k hj hk hm with h'|h'
   ·cases h'
   ·exact h'
  ·cases h
theorem Ku {Q:Exit->Act->World->Prop} {listed:Array Bool} {a:Act} {w:World} (hsz:listed.size=ops.size) (hfst:∀j,j<ops.size->listed.getD j false=true) (hQ:Q .normal a w):wpAny P .any ops Q 0 listed a w:=by
 refine⟨?_,hQ⟩
 rw[List.eq_nil_iff_forall_not_mem]
 intro i hi
 have h1:=re hi
 have h2:=qb hsz hi
 rw[hfst i h1]at h2;cases h2
theorem km (hF:jo P bsf ops ps) (h:n<=ops.size):((ps.drop m).take (n-m)).length=n-m:=by
 rw[b7,b8,hF.len];omega
theorem C5 {n:Nat} {ns:List Nat} {l:List PI} {st:St} (h:n ≠ 9000000):m9 call md (n::ns) l st =
  match (if n<1000 then js call md (l.take (n % 1000)) (l.take (n % 1000)) st none else nv call md (n / 1000-1) (l.take (n % 1000)) st)with
  | some (st',none)=>
   match l.drop (n % 1000)with
   | []=>some (.normal,st')
   | b::l'=>
    match iw call md false b st' with
    | some (.normal,st2)=>m9 call md ns l' st2
    | r=>r
  | some (_,some (v,s))=>some (.pan v,{st with tm:=kq (l.take (n % 1000)) st.tm,s})
  | none=>none:=by
 rw[m9.eq_def]
 simp only[if_neg h]
 rfl
theorem Te {ns:List Nat} {i:PI} {l:List PI} {st:St}:m9 call md (9000000::ns) (i::l) st =
  match iw call md false i st with
  | some (.normal,st1)=>
   match m9 call md ns l st1 with
   | some (.normal,st2)=>some (.normal,st2)
   | _=>none
  | _=>none:=by
 rw[m9.eq_def]
 rfl
theorem Bh {n:Nat} {ns:List Nat} {l r:List PI} {st:St} (hn:n<1000) (hl:l.length=n):m9 call md (n::ns) (l++r) st =
  match js call md l l st none with
  | some (st',none)=>
   match r with
   | []=>some (.normal,st')
   | b::l'=>
    match iw call md false b st' with
    | some (.normal,st2)=>m9 call md ns l' st2
    | r=>r
  | some (_,some (v,s))=>some (.pan v,{st with tm:=kq l st.tm,s})
  | none=>none:=by
 rw[C5 (by omega),Nat.mod_eq_of_lt hn,if_pos hn,List.take_left' hl,List.drop_left' hl]
theorem Bx {l:List PI} {c:Nat} (h:rz l c=true):c<l.length:=by
 rcases dj c l.length with h'|h'
 ·exact h'
 ·unfold rz at h
  rw[List.drop_of_length_le h']at h
  simp at h
theorem yq {k c:Nat} {ns:List Nat} {l r:List PI} {st:St} (hk:k<1000) (hl:l.length=k) (hc:c<8000):m9 call md ((k+1000*(c+1))::ns) (l++r) st =
  match nv call md c l st with
  | some (st',none)=>
   match r with
   | []=>some (.normal,st')
   | b::l'=>
    match iw call md false b st' with
    | some (.normal,st2)=>m9 call md ns l' st2
    | r=>r
  | some (_,some (v,s))=>some (.pan v,{st with tm:=kq l st.tm,s})
  | none=>none:=by
 have h1:(k+1000*(c+1)) % 1000=k:=by omega
 have h2:(k+1000*(c+1)) / 1000-1=c:=by omega
 have h3:¬(k+1000*(c+1))<1000:=by omega
 rw[C5 (by omega),h1,h2,if_neg h3,List.take_left' hl,List.drop_left' hl]
theorem vp (hS:Sound P call) (hF:jo P bsf ops ps):∀(f m:Nat) (ns:List Nat) (l:List PI) (st st':St) (ex:gg) (a:Act) (g:Gh) (w:World) (Q:Exit->Act->World->Prop) (fuel:Nat) (listed:Array Bool),Fk P bsf.sh ops ps f m=some (ns,l)->m<=ops.size->m9 call md ns l st=some (ex,st')->jv g w st a->QOK g st.s w ex st' Q ->
  fuel+m=ops.size->listed.size=ops.size->ll ops listed->(∀j,j<m->listed.getD j false=true)->(∀j,m<=j->listed.getD j false=false)->wpAny P .any ops Q fuel listed a w
 | 0,m,ns,l,st,st',ex,a,g,w,Q,fuel,listed,hs=>by simp[Fk]at hs
 | f+1,m,ns,l,st,st',ex,a,g,w,Q,fuel,listed,hs=>by
  intro hm hreg hR hQ hfuel hsz hC hfst hrest
  unfold Fk at hs
  split at hs
  ·simp only[fe,ff]at hs
   obtain⟨rfl,rfl⟩:=hs
   have:fuel=0:=by omega
   subst this
   simp only[m9,kg,fe,ff]at hreg
   obtain⟨rfl,rfl⟩:=hreg
   exact Ku hsz (λj hj=>hfst j (by omega)) (hQ g a w .normal (.refl _ _ _) hR trivial)
  ·rename_i hms
   split at hs
   ·rename_i k hk
    have hbar:=List.find?_some hk
    have hkm:=List.mem_of_find?_eq_some hk
    rw[List.mem_range'_1]at hkm
    split at hs
    ·rename_i hok
     split at hs
     ·rename_i c E hcx
      obtain⟨⟨c',E'⟩,hcx0,hcx⟩:=Option.bind_eq_some_iff.1 hcx
      split at hcx
      ·rename_i hcok
       cases hcx
       simp only[dy,decide_eq_true_eq]at hcok
       obtain⟨hlt,hst⟩:=hcok
       obtain⟨hcok,hel,hper⟩:=Mk hF (by omega) hcx0
       split at hs
       ·rename_i b ns' l' hb hsg
        simp only[fe,ff]at hs
        obtain⟨rfl,rfl⟩:=hs
        obtain⟨b1,b2⟩:=ny hbar
        obtain⟨o1,o2,o3⟩:=ry hok
        have hG:l6 ops ps m k:=⟨by omega,hkm.1,o1,o2,o3,.inr b1,b2⟩
        rw[yq hlt (hel.trans (km hF (by omega))) (by have h1:=Bx hcok;have h2:=hel.trans (km hF (m:=m) (n:=k) (by omega));omega)]at hreg
        cases hh:nv call md c E st with
        | none=>rw[hh]at hreg;simp at hreg
        | some r=>
         obtain⟨stF,rp⟩:=r
         rw[hh]at hreg
         have hc1000:c<1000:=by
          rcases dj c E.length with h|h
          ·have:=km hF (m:=m) (n:=k) (by omega)
           omega
          ·unfold rz at hcok
           rw[List.drop_of_length_le h]at hcok
           simp at hcok
         rw[nv,if_pos hc1000]at hh
         refine zr hS hF hG.pc (w9 hst) hper hcok hh (λv s e => ?_) (λe fuel' listed' a' g' w' hf' hsz' hC' hfst' hrest' hR' hE' => ?_) hfuel hsz hC hfst hrest hR
         ·subst e
          simp only[fe,ff]at hreg
          obtain⟨rfl,rfl⟩:=hreg
          exact hQ
         ·subst e
          simp only at hreg
          obtain⟨fuel'',rfl⟩:∃x,fuel'=x+1:=⟨fuel'-1,by omega⟩
          cases h4:iw call md false b stF with
          | none=>rw[h4]at hreg;simp at hreg
          | some r2=>
           obtain⟨ex1,st2⟩:=r2
           rw[h4]at hreg
           refine rb hS hF (by omega) b2 hb h4 (λv e => ?_) (λe listed2 a2 g2 w2 hsz2 hC2 hfst2 hrest2 hR2 hE2 => ?_) hsz' hC' hfst' hrest' hR'
           ·subst e
            simp only[fe,ff]at hreg
            obtain⟨rfl,rfl⟩:=hreg
            exact hQ.from hE'
           ·subst e
            simp only at hreg
            exact vp hS hF f (k+1) ns' l' st2 st' ex a2 g2 w2 Q fuel'' listed2 hsg (by omega) hreg hR2 (hQ.from (hE'.trans hE2)) (by omega) hsz2 hC2 hfst2 hrest2
       ·simp at hs
      ·cases hcx
     rename_i hnone
     split at hs
     ·rename_i c hcx
      obtain⟨c',_,hcx⟩:=Option.bind_eq_some_iff.1 hcx
      split at hcx
      ·rename_i hcok
       cases hcx
       simp only[dy,decide_eq_true_eq]at hcok
       obtain⟨⟨hcok,hlt⟩,hst⟩:=hcok
       split at hs
       ·rename_i b ns' l' hb hsg
        simp only[fe,ff]at hs
        obtain⟨rfl,rfl⟩:=hs
        obtain⟨b1,b2⟩:=ny hbar
        obtain⟨o1,o2,o3⟩:=ry hok
        have hG:l6 ops ps m k:=⟨by omega,hkm.1,o1,o2,o3,.inr b1,b2⟩
        rw[yq hlt (km hF (by omega)) (by first|omega|(have h1:=Bx hcok;have h2:=km hF (m:=m) (n:=k) (by omega);omega))]at hreg
        cases hh:nv call md c ((ps.drop m).take (k-m)) st with
        | none=>rw[hh]at hreg;simp at hreg
        | some r=>
         obtain⟨stF,rp⟩:=r
         rw[hh]at hreg
         have hc1000:c<1000:=by
          rcases dj c ((ps.drop m).take (k-m)).length with h|h
          ·have:=km hF (m:=m) (n:=k) (by omega)
           unfold piece at this
           omega
          ·unfold rz at hcok
           rw[List.drop_of_length_le h]at hcok
           simp at hcok
         rw[nv,if_pos hc1000]at hh
         refine zr hS hF hG.pc (w9 hst) (O1 hF (by omega)) hcok hh (λv s e => ?_) (λe fuel' listed' a' g' w' hf' hsz' hC' hfst' hrest' hR' hE' => ?_) hfuel hsz hC hfst hrest hR
         ·subst e
          simp only[fe,ff]at hreg
          obtain⟨rfl,rfl⟩:=hreg
          exact hQ
         ·subst e
          simp only at hreg
          obtain⟨fuel'',rfl⟩:∃x,fuel'=x+1:=⟨fuel'-1,by omega⟩
          cases h4:iw call md false b stF with
          | none=>rw[h4]at hreg;simp at hreg
          | some r2=>
           obtain⟨ex1,st2⟩:=r2
           rw[h4]at hreg
           refine rb hS hF (by omega) b2 hb h4 (λv e => ?_) (λe listed2 a2 g2 w2 hsz2 hC2 hfst2 hrest2 hR2 hE2 => ?_) hsz' hC' hfst' hrest' hR'
           ·subst e
            simp only[fe,ff]at hreg
            obtain⟨rfl,rfl⟩:=hreg
            exact hQ.from hE'
           ·subst e
            simp only at hreg
            exact vp hS hF f (k+1) ns' l' st2 st' ex a2 g2 w2 Q fuel'' listed2 hsg (by omega) hreg hR2 (hQ.from (hE'.trans hE2)) (by omega) hsz2 hC2 hfst2 hrest2
       ·simp at hs
      ·cases hcx
     split at hs
     ·cases hs
     rename_i hlt
     have hlt:k-m<1000:=by omega
     split at hs
     ·rename_i b l' htl
      simp only[fe,ff]at hs
      obtain⟨rfl,rfl⟩:=hs
      obtain⟨b1,b2⟩:=ny hbar
      obtain⟨o1,o2,o3⟩:=ry hok
      have hG:l6 ops ps m k:=⟨by omega,hkm.1,o1,o2,o3,.inr b1,b2⟩
      have hlen:(hoist (piece ps m k)).length=k-m:=xl hF (by omega)
      change m9 call md [k-m] (hoist (piece ps m k)++b::l') st=_ at hreg
      rw[Bh hlt hlen]at hreg
      cases hh:js call md (hoist (piece ps m k)) (hoist (piece ps m k)) st none with
      | none=>rw[hh]at hreg;simp at hreg
      | some r=>
       obtain⟨stF,rp⟩:=r
       rw[hh]at hreg
       refine C4 hS hF hG hh (λv s e => ?_) (λe fuel' listed' a' g' w' hf' hsz' hC' hfst' hrest' hR' hE' => ?_) hfuel hsz hC hfst hrest hR
       ·subst e
        simp only[fe,ff]at hreg
        obtain⟨rfl,rfl⟩:=hreg
        exact hQ
       ·subst e
        exact Ru hF (by omega) b2 htl (st1:=stF) (by
         rw[<- hreg]
         simp only[kg,m9]
         cases iw call md false b stF with
         | none=>rfl
         | some z=>obtain⟨ex,st2⟩:=z;cases ex<;>rfl) (hQ.from hE') hR' (by omega) hsz' hfst' hrest'
     rename_i htl
     split at hs
     ·rename_i b ns' l' hb hsg
      simp only[fe,ff]at hs
      obtain⟨rfl,rfl⟩:=hs
      obtain⟨b1,b2⟩:=ny hbar
      obtain⟨o1,o2,o3⟩:=ry hok
      have hG:l6 ops ps m k:=⟨by omega,hkm.1,o1,o2,o3,.inr b1,b2⟩
      have hlen:(hoist (piece ps m k)).length=k-m:=xl hF (by omega)
      change m9 call md ((k-m)::ns') (hoist (piece ps m k)++b::l') st=_ at hreg
      rw[Bh hlt hlen]at hreg
      cases hh:js call md (hoist (piece ps m k)) (hoist (piece ps m k)) st none with
      | none=>rw[hh]at hreg;simp at hreg
      | some r=>
       obtain⟨stF,rp⟩:=r
       rw[hh]at hreg
       refine C4 hS hF hG hh (λv s e => ?_) (λe fuel' listed' a' g' w' hf' hsz' hC' hfst' hrest' hR' hE' => ?_) hfuel hsz hC hfst hrest hR
       ·subst e
        simp only[fe,ff]at hreg
        obtain⟨rfl,rfl⟩:=hreg
        exact hQ
       ·subst e
        simp only at hreg
        obtain⟨fuel'',rfl⟩:∃x,fuel'=x+1:=⟨fuel'-1,by omega⟩
        cases h4:iw call md false b stF with
        | none=>rw[h4]at hreg;simp at hreg
        | some r2=>
         obtain⟨ex1,st2⟩:=r2
         rw[h4]at hreg
         refine rb hS hF (by omega) b2 hb h4 (λv e => ?_) (λe listed2 a2 g2 w2 hsz2 hC2 hfst2 hrest2 hR2 hE2 => ?_) hsz' hC' hfst' hrest' hR'
         ·subst e
          simp only[fe,ff]at hreg
          obtain⟨rfl,rfl⟩:=hreg
          exact hQ.from hE'
         ·subst e
          simp only at hreg
          exact vp hS hF f (k+1) ns' l' st2 st' ex a2 g2 w2 Q fuel'' listed2 hsg (by omega) hreg hR2 (hQ.from (hE'.trans hE2)) (by omega) hsz2 hC2 hfst2 hrest2
     ·simp at hs
    ·split at hs
     ·rename_i hmx
      simp only[dy,decide_eq_true_eq]at hmx
      obtain⟨⟨⟨hmx,hlt⟩,hst⟩,hhd⟩:=hmx
      split at hs
      ·rename_i b ns' l' hb hsg
       simp only[fe,ff]at hs
       obtain⟨rfl,rfl⟩:=hs
       obtain⟨b1,b2⟩:=ny hbar
       have hG:l6 ops [] m k:=⟨by omega,hkm.1,λi p _ _ h=>by simp at h,λi j p q _ _ _ h=>by simp at h,λi j p q d _ _ _ _ h=>by simp at h,.inr b1,b2⟩
       have hreg':m9 call md ((k-m+1000*(1001+1))::ns') ((ps.drop m).take (k-m)++b::l') st=some (ex,st'):=hreg
       rw[yq hlt (km hF (by omega)) (by omega)]at hreg'
       cases hh:Fb call md ((ps.drop m).take (k-m)) st with
       | none=>
        have:nv call md 1001 ((ps.drop m).take (k-m)) st=none:=by simp[nv,hh]
        rw[this]at hreg';simp at hreg'
       | some stF=>
        have:nv call md 1001 ((ps.drop m).take (k-m)) st=some (stF,none):=by simp[nv,hh]
        rw[this]at hreg'
        refine Sy (w:=w) (g:=g) hS hF hG (Dg hhd) (w9 hst) hmx hh (λfuel' listed' a' g' w' hf' hsz' hC' hfst' hrest' hR' hE' => ?_) hfuel hsz hC hfst hrest hR
        simp only at hreg'
        obtain⟨fuel'',rfl⟩:∃x,fuel'=x+1:=⟨fuel'-1,by omega⟩
        cases h4:iw call md false b stF with
        | none=>rw[h4]at hreg';simp at hreg'
        | some r2=>
         obtain⟨ex1,st2⟩:=r2
         rw[h4]at hreg'
         refine rb hS hF (by omega) b2 hb h4 (λv e => ?_) (λe listed2 a2 g2 w2 hsz2 hC2 hfst2 hrest2 hR2 hE2 => ?_) hsz' hC' hfst' hrest' hR'
         ·subst e
          simp only[fe,ff]at hreg'
          obtain⟨rfl,rfl⟩:=hreg'
          exact hQ.from hE'
         ·subst e
          simp only at hreg'
          exact vp hS hF f (k+1) ns' l' st2 st' ex a2 g2 w2 Q fuel'' listed2 hsg (by omega) hreg' hR2 (hQ.from (hE'.trans hE2)) (by omega) hsz2 hC2 hfst2 hrest2
      ·simp at hs
     ·split at hs
      ·rename_i c hcx
       obtain⟨c',_,hcx⟩:=Option.bind_eq_some_iff.1 hcx
       split at hcx
       case isFalse=>simp at hcx
       rename_i hcok
       cases hcx
       simp only[dy,decide_eq_true_eq]at hcok
       obtain⟨⟨⟨hcok,hlt⟩,hst⟩,hhd⟩:=hcok
       split at hs
       ·rename_i b ns' l' hb hsg
        simp only[fe,ff]at hs
        obtain⟨rfl,rfl⟩:=hs
        obtain⟨b1,b2⟩:=ny hbar
        have hG:Da ops ps m k:=⟨.none (by omega) hkm.1 (.inr b1) b2,λi j p q d h1 h2 h3 h4 h5 h6 h7=>⟨Dg hhd i j p q d h1 h2 h3 h4 h5 h6 h7,trivial⟩⟩
        rw[yq hlt (km hF (by omega)) (by first|omega|(have h1:=Bx hcok;have h2:=km hF (m:=m) (n:=k) (by omega);omega))]at hreg
        cases hh:nv call md c ((ps.drop m).take (k-m)) st with
        | none=>rw[hh]at hreg;simp at hreg
        | some r=>
         obtain⟨stF,rp⟩:=r
         rw[hh]at hreg
         have hc1000:c<1000:=by
          rcases dj c ((ps.drop m).take (k-m)).length with h|h
          ·have:=km hF (m:=m) (n:=k) (by omega)
           unfold piece at this
           omega
          ·unfold rz at hcok
           rw[List.drop_of_length_le h]at hcok
           simp at hcok
         rw[nv,if_pos hc1000]at hh
         refine zr hS hF hG (w9 hst) (O1 hF (by omega)) hcok hh (λv s e => ?_) (λe fuel' listed' a' g' w' hf' hsz' hC' hfst' hrest' hR' hE' => ?_) hfuel hsz hC hfst hrest hR
         ·subst e
          simp only[fe,ff]at hreg
          obtain⟨rfl,rfl⟩:=hreg
          exact hQ
         ·subst e
          simp only at hreg
          obtain⟨fuel'',rfl⟩:∃x,fuel'=x+1:=⟨fuel'-1,by omega⟩
          cases h4:iw call md false b stF with
          | none=>rw[h4]at hreg;simp at hreg
          | some r2=>
           obtain⟨ex1,st2⟩:=r2
           rw[h4]at hreg
           refine rb hS hF (by omega) b2 hb h4 (λv e => ?_) (λe listed2 a2 g2 w2 hsz2 hC2 hfst2 hrest2 hR2 hE2 => ?_) hsz' hC' hfst' hrest' hR'
           ·subst e
            simp only[fe,ff]at hreg
            obtain⟨rfl,rfl⟩:=hreg
            exact hQ.from hE'
           ·subst e
            simp only at hreg
            exact vp hS hF f (k+1) ns' l' st2 st' ex a2 g2 w2 Q fuel'' listed2 hsg (by omega) hreg hR2 (hQ.from (hE'.trans hE2)) (by omega) hsz2 hC2 hfst2 hrest2
       ·simp at hs
      ·simp at hs
   ·split at hs
    ·rename_i hok
     simp only[fe,ff]at hs
     obtain⟨rfl,rfl⟩:=hs
     simp only[dy,decide_eq_true_eq]at hok
     obtain⟨hok,hlt⟩:=hok
     obtain⟨o1,o2,o3⟩:=ry hok
     have hG:l6 ops ps m ops.size:=⟨di _,hm,o1,o2,o3,.inl rfl,λj h1 h2=>by omega⟩
     have hlen:(hoist (piece ps m ops.size)).length=ops.size-m:=xl hF (di _)
     change m9 call md [ops.size-m] (hoist (piece ps m ops.size)) st=_ at hreg
     rw[<- List.append_nil (hoist (piece ps m ops.size)),Bh hlt hlen]at hreg
     cases hh:js call md (hoist (piece ps m ops.size)) (hoist (piece ps m ops.size)) st none with
     | none=>rw[hh]at hreg;simp at hreg
     | some r=>
      obtain⟨stF,rp⟩:=r
      rw[hh]at hreg
      refine C4 hS hF hG hh (λv s e => ?_) (λe fuel' listed' a' g' w' hf' hsz' hC' hfst' hrest' hR' hE' => ?_) hfuel hsz hC hfst hrest hR
      ·subst e
       simp only[fe,ff]at hreg
       obtain⟨rfl,rfl⟩:=hreg
       exact hQ
      ·subst e
       simp only[fe,ff]at hreg
       obtain⟨rfl,rfl⟩:=hreg
       have:fuel'=0:=by omega
       subst this
       exact Ku hsz' (λj hj=>hfst' j hj) (hQ g' a' w' .normal hE' hR' trivial)
    ·simp at hs
theorem Gp {a:Act} {d:Tmp} {v:Value} {x:Operand} (h:(match x with | .tmp t=>t != d|_=>true)=true):(a.put (some d) v).eval x=a.eval x:=by
 cases x with
 | tmp t=>
  have ht:t ≠ d:=by simpa using h
  simp only[Act.eval,Act.put,Array.getD_eq_getD_getElem?,Array.getElem?_setIfInBounds]
  rw[if_neg (λe=>ht e.symm)]
 | _=>rfl
theorem Kv {a:Act} {d r:Tmp} {v:Value} {o:Oper} (h:A0 d r o=true):execOp (a.put (some d) v).eval o=execOp a.eval o:=by
 simp only[A0,dy,aw]at h
 obtain⟨⟨⟨h1,h2⟩,_⟩,_⟩:=h
 have key:∀x ∈ o.op.operands,(a.put (some d) v).eval x=a.eval x:=λx hx=>Gp (h2 x (Array.mem_toList_iff.2 hx))
 unfold execOp
 cases ho:o.op<;>rw[ho]at h1 key<;>simp only[dz]at h1<;>simp only[Op.operands,Call.operands]at key ⊢
 case move x=>rw[key x (by simp)]
 case buildSlice t len ps=>
  have:(ps.map λ(i,x)=>(i,(a.put (some d) v).eval x))=ps.map λ(i,x)=>(i,a.eval x):=by
   apply Array.map_congr_left
   rintro⟨i,x⟩ hx
   show (i,(a.put (some d) v).eval x)=(i,a.eval x)
   rw[key x (by simp;exact⟨i,hx⟩)]
  rw[this]
 case load t x=>rw[key x (by simp)]
 case store t x y=>rw[key x (by simp),key y (by simp)]
 case nilCheck x=>rw[key x (by simp)]
 case fieldAddr t x f=>rw[key x (by simp)]
 case call c=>
  have hc:resolve (a.put (some d) v).eval c o.type=resolve a.eval c o.type:=by
   unfold resolve
   cases hcal:c.callee with
   | value f=>
    rw[hcal]at key
    have hargs:c.args.map (a.put (some d) v).eval=c.args.map a.eval:=Array.map_congr_left λx hx=>key x (by simp[hx])
    simp only[hcal,hargs,key f (by simp)]
   | _=>rw[hcal]at h1;cases h1
  rw[hc]
theorem Ns {a:Act} {t:Option Tmp} {r:Tmp} {u:Value} (h:t ≠ some r):(a.put t u).eval (.tmp r)=a.eval (.tmp r):=by
 cases t with
 | none=>rfl
 | some t=>exact Gp (by simpa using λe=>h (by rw[e]))
theorem put_comm {d:Tmp} {v:Value} {t:Option Tmp} (hd:t ≠ some d) (b:Act) (u:Value):(b.put (some d) v).put t u=(b.put t u).put (some d) v:=by
 cases t with
 | none=>rfl
 | some e=>
  have hne:e ≠ d:=λh=>hd (by rw[h])
  simp only[Act.put]
  congr 1
  apply Array.ext_getElem?
  intro i
  simp only[Array.getElem?_setIfInBounds,Array.size_setIfInBounds]
  by_cases h1:e=i
  ·by_cases h2:d=i
   ·exact absurd (h1.trans h2.symm) hne
   ·rw[if_pos h1,if_neg h2,if_pos h1]
  ·by_cases h2:d=i
   ·rw[if_neg h1,if_pos h2,if_pos h2]
   ·rw[if_neg h1,if_neg h2,if_neg h2,if_neg h1]
theorem Ls {a:Act} {d r:Tmp} {v:Value} {o:Oper} (hd:o.dst ≠ some d) (hr:o.dst ≠ some r) {K K':Act->World->Prop} {Q:Exit->Act->World->Prop} (hQ:∀e a w,e ≠ .normal -> ¬Q e a w) (hK:∀(b:Act) w,b.eval (.tmp r)=a.eval (.tmp r)->K (b.put (some d) v) w->K' b w) {x:Result Next}
  (h:o.upon P (a.put (some d) v) K Q x):o.upon P a K' Q x:=by
 have out:¬LetsOut Q:=λ⟨a,w,h⟩=>hQ _ _ _ (by simp) h
 have go:∀u w,K ((a.put (some d) v).put o.dst u) w->K' (a.put o.dst u) w:=λu w h=>hK _ w (Ns hr) (by rw[<- put_comm hd];exact h)
 cases x with
 | ok n w'=>
  cases n with
  | value u=>exact go _ _ h
  | skip=>exact go _ _ h
  | enter f args=>
   refine Calls.mono h (λe w'' he => ?_)
   cases e with
   | returned u=>exact go _ _ he
   | panicked c=>exact absurd he (hQ _ _ _ (by simp))
   | outgrown=>exact absurd he out
  | row y args=>exact Rows.mono h (λu w'' he=>go _ _ he)
  | defer y=>
   have h:K (({a with defers:=y::a.defers}.put (some d) v).put o.dst undef) w':=h
   exact hK _ w' (Ns (a:={a with defers:=y::a.defers}) hr) (by rw[<- put_comm hd];exact h)
  | _=>exact h
 | halt y w'=>
  cases y with
  | panic u=>exact absurd h (hQ _ _ _ (by simp))
  | _=>exact h
theorem Jw {ops:Array Oper} (h:Hi ops=true):∃o r d,ops[0]? = some o/\o.op = .move (.tmp r)/\o.dst=some d/\d ≠ r/\o.guard=none/\o.after = #[] /\ ∀(i:Nat) (q:Oper),ops[i]? = some q->q.guard=none/\(i=0\/(∃e ∈ q.after,e.on=0/\Region.binds .any e=true)\/A0 d r q=true) /\ ∀e ∈ q.after,e.on<ops.size:=by
 unfold Hi at h
 split at h
 ·rename_i o ho
  split at h
  ·rename_i r d h1 h2
   simp only[dy,bne_iff_ne,aw,List.mem_range]at h
   obtain⟨⟨⟨h3,h4⟩,h5⟩,h6⟩:=h
   refine⟨o,r,d,ho,h1,h2,h3,by simpa using h4,by simpa using h5,λi q hq => ?_⟩
   have:=h6 i (Array.getElem?_eq_some_iff.1 hq).1
   rw[hq]at this
   simp only[dy,ei,beq_iff_eq,aw,decide_eq_true_eq]at this
   obtain⟨⟨k1,k2⟩,k3⟩:=this
   refine⟨by simpa using k1, ?_,λe he=>k3 e (Array.mem_toList_iff.2 he)⟩
   rcases k2 with(k2|k2)|k2
   ·exact .inl k2
   ·obtain⟨e,he,h7⟩:=List.any_eq_true.1 k2
    simp only[dy,beq_iff_eq]at h7
    exact .inr (.inl ⟨e,Array.mem_toList_iff.1 he,h7⟩)
   ·exact .inr (.inr k2)
  ·cases h
 ·cases h
theorem gdt {l:Array Bool} {j:Nat} (hj:j<l.size):l.getD j true=l.getD j false:=by
 simp only[Array.getD_eq_getD_getElem?,dw hj,Option.getD_some]
theorem mq {listed:Array Bool} (hz:listed.size=ops.size) {i:Nat}:i ∈ Region.ready .any ops listed ↔ listed.getD i false=false /\ ∃o,ops[i]? = some o /\ ∀e ∈ o.after,Region.binds .any e=true->listed.getD e.on false=true:=by
 simp only[Region.ready,List.mem_filter,List.mem_range,dy,Bool.not_eq_true']
 constructor
 ·rintro⟨h1,h2,h3⟩
  rw[dw h1]at h3
  simp only[fh,Option.getD_some,Array.all_eq_true_iff_forall_mem,ei,Bool.not_eq_true']at h3
  refine⟨by rw[<- gdt (by omega)];exact h2,_,dw h1,λe he hb => ?_⟩
  rcases h3 e he with h|h
  ·rw[hb]at h;cases h
  ·exact h
 ·rintro⟨h2,o,ho,h3⟩
  have h1:=(Array.getElem?_eq_some_iff.1 ho).1
  refine⟨h1,by rw[gdt (by omega)];exact h2, ?_⟩
  rw[ho]
  simp only[fh,Option.getD_some,Array.all_eq_true_iff_forall_mem,ei,Bool.not_eq_true']
  intro e he
  cases hb:Region.binds .any e
  ·exact .inl rfl
  ·exact .inr (h3 e he hb)
theorem Ff {l:Array Bool} {i j:Nat} (hi:i<l.size):(l.setIfInBounds i true).getD j false=(l.getD j false||i==j):=by
 simp only[Array.getD_eq_getD_getElem?,Array.getElem?_setIfInBounds]
 by_cases h:i=j
 ·subst h;simp[hi]
 ·simp[h]
theorem Pb {o:Oper} {r d:Tmp} (h0:ops[0]? = some o) (hop:o.op = .move (.tmp r)) (hdst:o.dst=some d) (hdr:d ≠ r) (hgd:o.guard=none) (haf:o.after = #[])
  (hK:∀(i:Nat) (q:Oper),ops[i]? = some q->q.guard=none/\(i=0\/(∃e ∈ q.after,e.on=0/\Region.binds .any e=true)\/A0 d r q=true) /\ ∀e ∈ q.after,e.on<ops.size) {Q:Exit->Act->World->Prop} (hQ:∀e a w,e ≠ .normal -> ¬Q e a w) :
  ∀(fuel:Nat) (listed:Array Bool) (a:Act) (w:World),listed.size=ops.size->listed.getD 0 false=false->wpAny P .any ops Q fuel (listed.setIfInBounds 0 true) (a.put (some d) (a.eval (.tmp r))) w->wpAny P .any ops Q (fuel+1) listed a w:=by
 have hlt0:0<ops.size:=(Array.getElem?_eq_some_iff.1 h0).1
 have h0r:∀{listed:Array Bool},listed.size=ops.size->listed.getD 0 false=false->0 ∈ Region.ready .any ops listed:=λhz hl=>(mq hz).2 ⟨hl,o,h0,λe he=>by rw[haf]at he;simp at he⟩
 have hrun:∀(fuel:Nat) (listed:Array Bool) (a:Act) (w:World),wpAny P .any ops Q fuel (listed.setIfInBounds 0 true) (a.put (some d) (a.eval (.tmp r))) w->wpOp P ops Q 0 (wpAny P .any ops Q fuel (listed.setIfInBounds 0 true)) a w:=by
  intro fuel listed a w h
  refine uk h0 ?_
  rw[if_pos (by simp[Region.wanted,hgd])]
  have:(execOp a.eval o).run P w = .ok (.value (a.eval (.tmp r))) w:=by
   unfold execOp;rw[hop];rfl
  unfold Oper.wp
  rw[this,Oper.upon_value,hdst];exact h
 intro fuel
 induction fuel with
 | zero=>
  intro listed a w hz hl h
  refine⟨λhn => ?_,λi hi => ?_⟩
  ·have:=h0r hz hl;rw[hn]at this;cases this
  ·by_cases hi0:i=0
   ·subst hi0;exact hrun _ _ _ _ h
   ·obtain⟨h1,q,hq,h2⟩:=(mq hz).1 hi
    have:i ∈ Region.ready .any ops (listed.setIfInBounds 0 true):=(mq (by simpa using hz)).2 ⟨by rw[Ff (by omega),h1];simp;omega,q,hq,λe he hb=>by rw[Ff (by omega),h2 e he hb];rfl⟩
    rw[h.1]at this;cases this
 | succ fuel ih=>
  intro listed a w hz hl h
  refine⟨λhn => ?_,λi hi => ?_⟩
  ·have:=h0r hz hl;rw[hn]at this;cases this
  ·by_cases hi0:i=0
   ·subst hi0;exact hrun _ _ _ _ h
   ·obtain⟨h1,q,hq,h2⟩:=(mq hz).1 hi
    have hm:i ∈ Region.ready .any ops (listed.setIfInBounds 0 true):=(mq (by simpa using hz)).2 ⟨by rw[Ff (by omega),h1];simp;omega,q,hq,λe he hb=>by rw[Ff (by omega),h2 e he hb];rfl⟩
    have hw:=h.2 i hm
    obtain⟨g1,g2,_⟩:=hK i q hq
    have hk:A0 d r q=true:=by
     rcases g2 with g|⟨e,he,e0,eb⟩|g
     ·exact absurd g hi0
     ·have:=h2 e he eb;rw[e0,hl]at this;cases this
     ·exact g
    have hkd:q.dst ≠ some d/\q.dst ≠ some r:=by
     simp only[A0,dy,bne_iff_ne]at hk
     exact⟨hk.1.2,hk.2⟩
    have out:¬LetsOut Q:=λ⟨a,w,h⟩=>hQ _ _ _ (by simp) h
    simp only[wpOp,hq]at hw
    rw[if_pos (by simp[Region.wanted,g1])]at hw
    rcases hw with hw|hw
    ·refine uk hq ?_
     rw[if_pos (by simp[Region.wanted,g1])]
     unfold Oper.wp at hw ⊢
     rw[Kv hk]at hw
     refine Ls hkd.1 hkd.2 hQ (λb w' hb hb2 => ?_) hw
     have hs:(listed.setIfInBounds 0 true).setIfInBounds i true=(listed.setIfInBounds i true).setIfInBounds 0 true:=by
      apply Array.ext_getElem?
      intro j
      simp only[Array.getElem?_setIfInBounds,Array.size_setIfInBounds]
      by_cases e1:i=j<;>by_cases e2:0=j<;>simp[e1,e2]
     rw[hs,<- hb]at hb2
     exact ih _ b w' (by simpa using hz) (by rw[Ff (by rw[hz];exact(Array.getElem?_eq_some_iff.1 hq).1),hl];simpa using hi0) hb2
    ·exact absurd hw.2 out
theorem E5 {i:Nat} {q:Oper} (hq:ops[i+1]? = some q):(r7 ops)[i]? = some (Kj q):=by
 simp[r7,hq]
theorem Bo:(r7 ops).size=ops.size-1:=by simp[r7]
theorem Tn (hK:∀(i:Nat) (q:Oper),ops[i]? = some q->q.guard=none /\ ∀e ∈ q.after,e.on<ops.size) {Q:Exit->Act->World->Prop}:∀(fuel:Nat) (listed listed':Array Bool) (a:Act) (w:World),listed.size=ops.size->listed'.size=ops.size-1->listed.getD 0 false=true->(∀k:Nat,listed'.getD k false=listed.getD (k+1) false) ->
  wpAny P .any (r7 ops) Q fuel listed' a w->wpAny P .any ops Q fuel listed a w:=by
 have hr:∀(listed listed':Array Bool),listed.size=ops.size->listed'.size=ops.size-1->listed.getD 0 false=true->(∀k:Nat,listed'.getD k false=listed.getD (k+1) false) -> ∀k,k+1 ∈ Region.ready .any ops listed ↔ k ∈ Region.ready .any (r7 ops) listed':=by
  intro listed listed' hz hz' h0 hl k
  rw[mq hz,mq (by rw[hz',Bo]),hl k]
  constructor
  ·rintro⟨h1,q,hq,h2⟩
   refine⟨h1,_,E5 hq,λe he hb => ?_⟩
   simp only[Kj,Array.mem_map,Array.mem_filter]at he
   obtain⟨e',⟨he',hne⟩,rfl⟩:=he
   have hne:e'.on ≠ 0:=by simpa using hne
   have:=h2 e' he' hb
   show listed'.getD (e'.on-1) false=true
   rw[hl,show e'.on-1+1=e'.on from by omega];exact this
  ·rintro⟨h1,q',hq',h2⟩
   have hlt:=(Array.getElem?_eq_some_iff.1 hq').1
   rw[Bo]at hlt
   obtain⟨q,hq⟩:∃q,ops[k+1]? = some q:=⟨_,dw (by omega)⟩
   rw[E5 hq]at hq'
   cases hq'
   refine⟨h1,q,hq,λe he hb => ?_⟩
   by_cases h3:e.on=0
   ·rw[h3];exact h0
   ·have:=h2 {e with on:=e.on-1} (by simp only[Kj,Array.mem_map,Array.mem_filter];exact⟨e,⟨he,by simpa using h3⟩,rfl⟩) hb
    simp only[hl]at this
    rw[show e.on-1+1=e.on from by omega]at this;exact this
 have hnil:∀(listed listed':Array Bool),listed.size=ops.size->listed'.size=ops.size-1->listed.getD 0 false=true->(∀k:Nat,listed'.getD k false=listed.getD (k+1) false)->(Region.ready .any ops listed=[] ↔ Region.ready .any (r7 ops) listed'=[]):=by
  intro listed listed' hz hz' h0 hl
  rw[List.eq_nil_iff_forall_not_mem,List.eq_nil_iff_forall_not_mem]
  constructor
  ·intro h k hk;exact h (k+1) ((hr _ _ hz hz' h0 hl k).2 hk)
  ·intro h k hk
   cases k with
   | zero=>have:=((mq hz).1 hk).1;rw[h0]at this;cases this
   | succ k=>exact h k ((hr _ _ hz hz' h0 hl k).1 hk)
 intro fuel
 induction fuel with
 | zero=>intro listed listed' a w hz hz' h0 hl h;exact⟨(hnil _ _ hz hz' h0 hl).2 h.1,h.2⟩
 | succ fuel ih=>
  intro listed listed' a w hz hz' h0 hl h
  refine⟨λhn=>h.1 ((hnil _ _ hz hz' h0 hl).1 hn),λi hi => ?_⟩
  cases i with
  | zero=>have:=((mq hz).1 hi).1;rw[h0]at this;cases this
  | succ k=>
   obtain⟨h1,q,hq,_⟩:=(mq hz).1 hi
   have hlt:=(Array.getElem?_eq_some_iff.1 hq).1
   have hw:=h.2 k ((hr _ _ hz hz' h0 hl k).1 hi)
   have hg:=(hK _ q hq).1
   simp only[wpOp,E5 hq]at hw
   simp only[wpOp,hq]
   rw[if_pos (by simp[Region.wanted,Kj,hg])]at hw
   rw[if_pos (by simp[Region.wanted,hg])]
   exact hw.imp (Oper.wp_mono λb w' hb=>ih _ _ b w' (by simpa using hz) (by simpa using hz') (by rw[Ff (by omega),h0];rfl) (λj=>by rw[Ff (by omega),Ff (by omega),hl j];simp) hb) id
theorem Ul {o:Oper} {a:Act} {K K':Act->World->Prop} {Q Q':Exit->Act->World->Prop} (hQ:∀e a w,Q e a w->Q' e a w) (hK:∀a w,K a w->K' a w) {x:Result Next} (h:o.upon P a K Q x):o.upon P a K' Q' x:=by
 cases x with
 | ok n w'=>
  cases n with
  | value u=>exact hK _ _ h
  | skip=>exact hK _ _ h
  | enter f args=>
   refine Calls.mono h (λe w'' he => ?_)
   cases e with
   | returned u=>exact hK _ _ he
   | panicked c=>exact hQ _ _ _ he
   | outgrown=>exact⟨he.choose,he.choose_spec.choose,hQ _ _ _ he.choose_spec.choose_spec⟩
  | row y args=>exact Rows.mono h (λu w'' he=>hK _ _ he)
  | defer y=>exact hK _ _ h
  | _=>exact h
 | halt y w'=>
  cases y with
  | panic u=>exact hQ _ _ _ h
  | _=>exact h
theorem yr {Q Q':Exit->Act->World->Prop} (hQ:∀e a w,Q e a w->Q' e a w):∀(fuel:Nat) (listed:Array Bool) (a:Act) (w:World),wpAny P .any ops Q fuel listed a w->wpAny P .any ops Q' fuel listed a w
 | 0,listed,a,w,h=>⟨h.1,hQ _ _ _ h.2⟩
 | fuel+1,listed,a,w,h=>⟨λhn=>hQ _ _ _ (h.1 hn),λi hi=>by
  have hw:=h.2 i hi
  unfold wpOp at hw ⊢
  split
  ·rename_i ho;rw[ho]at hw;exact yr hQ fuel _ _ _ hw
  ·rename_i o ho
   rw[ho]at hw
   simp only at hw
   split
   ·rename_i hwt
    rw[if_pos hwt]at hw
    rcases hw with hw|⟨h1,b,w',h2⟩
    ·exact .inl (Ul hQ (λa w h=>yr hQ fuel _ a w h) hw)
    ·exact .inr ⟨h1,b,w',hQ _ _ _ h2⟩
   ·rename_i hwt
    rw[if_neg hwt]at hw
    exact yr hQ fuel _ _ _ hw⟩
theorem Qe (hm:P.follows .mixedOrders=true) (hS:Sound P call):mo P bsf call md:=by
 have key:∀(ops:Array Oper) (n:List Nat) (l:List PI) (st st':St) (ex:gg) (a:Act) (g:Gh) (w:World) (Q:Exit->Act->World->Prop),pz P bsf ops=some (.jk n l)->m9 call md n l st=some (ex,st')->jv g w st a->QOK g st.s w ex st' Q ->
   wpAny P .any ops Q ops.size (Array.replicate ops.size false) a {w with drawn:=w.drawn+1}:=by
  intro ops n l' st st' ex a g w Q hprep hreg hR hQ
  obtain⟨ps,hF,hsg⟩:=Q6 hprep
  refine vp hS hF _ 0 n l' st st' ex a g _ Q ops.size _ hsg (dk _) hreg ⟨hR.inv.drawn _,hR.tm.mono (Ext.drawn _ _ _ _),hR.df.mono (Ext.drawn _ _ _ _)⟩ (hQ.from (Ext.drawn _ _ _ _)) rfl (by simp) (λk o e h=>by rw[xc]at h;cases h) (λj h=>by omega) (λj _=>xc _ _)
 refine⟨hm,λops n l' st st' ex a g w Q hprep hreg hR hQ => ?_⟩
 rcases zj hprep with hp|⟨hb,o,i,ns,l,h0,hi,hp,e⟩
 ·exact key ops n l' st st' ex a g w Q hp hreg hR hQ
 ·cases e
  obtain⟨o',r,d,h0',hop,hdst,hdr,hgd,haf,hK⟩:=Jw hb
  rw[h0]at h0';cases h0'
  rw[Te]at hreg
  cases h1:iw call md false i st with
  | none=>rw[h1]at hreg;cases hreg
  | some x=>
   obtain⟨ex1,st1⟩:=x
   rw[h1]at hreg
   cases ex1 with
   | normal=>
    simp only at hreg
    cases h2:m9 call md ns l st1 with
    | none=>rw[h2]at hreg;cases hreg
    | some y=>
     obtain⟨ex2,st2⟩:=y
     rw[h2]at hreg
     cases ex2 with
     | normal=>
      simp only[fe,ff]at hreg
      obtain⟨rfl,rfl⟩:=hreg
      obtain⟨q1,q2,q3⟩:=Du hi
      have hstep:=o8 (w:=w) hS q1 q2 q3 h1 hR (K:=λa' w'=>∃g',Ext g st.s w g' st1.s w'/\jv g' w' st1 a') (Q:=λ_ _ _=>False) (λ_ g' a' w' hE hR' _=>⟨g',hE,hR'⟩) (λv e=>by cases e)
      rw[if_pos (by simp[Region.wanted,hgd])]at hstep
      have hrun:(execOp a.eval o).run P w = .ok (.value (a.eval (.tmp r))) w:=by unfold execOp;rw[hop];rfl
      unfold Oper.wp at hstep
      rw[hrun,Oper.upon_value,hdst]at hstep
      obtain⟨g',hE,hR'⟩:=hstep
      have hlt0:0<ops.size:=(Array.getElem?_eq_some_iff.1 h0).1
      have hkey:=key (r7 ops) ns l st1 st2 .normal _ g' w (λe a w=>e = .normal/\Q e a w) hp h2 hR' (λg'' a'' w'' e'' hE'' hR'' hx=>by
       cases e''<;>first|exact⟨rfl,hQ g'' a'' w'' .normal (hE.trans hE'') hR'' hx⟩|exact hx.elim)
      rw[Bo]at hkey
      have hd:=Tn (λi q hq=>⟨(hK i q hq).1,(hK i q hq).2.2⟩) (ops.size-1) ((Array.replicate ops.size false).setIfInBounds 0 true) (Array.replicate (ops.size-1) false) _ _ (by simp) (by simp) (by rw[Ff (by simpa using hlt0)];simp) (λk=>by rw[Ff (by simpa using hlt0),xc,xc];simp) hkey
      have hf:=Pb h0 hop hdst hdr hgd haf hK (λe a w hne h=>hne h.1) (ops.size-1) (Array.replicate ops.size false) a {w with drawn:=w.drawn+1} (by simp) (xc _ _) hd
      rw[show ops.size-1+1=ops.size from by omega]at hf
      exact yr (λ_ _ _ h=>h.2) _ _ _ _ hf
     | _=>cases hreg
   | _=>cases hreg
theorem Hn (hm:P.follows .mixedOrders=true) {pfs:FuncId->Option PF} (hP:xy P pfs) (F:Nat):Sound P (oh md pfs F):=
 Cg hP (λ_ _ hS=>Qe hm hS) F
end
end Go.Proofs.Eng
