/- The engine's calculus, first part: the interpreter without its fuel. No conditions. -/
import Derived.Test.YtflfmkkcnphdcaaGreatG1
import Derived.Test.YtflfmkkcnphdcaaGreatG6
import Derived.ProofKit
import Derived.OpenVars
import Derived.DataReads
set_option linter.all false
set_option linter.deprecated false
set_option linter.unnecessarySimpa false
set_option linter.unusedVariables false
set_option linter.unusedSimpArgs false
set_option linter.defProp false
namespace Go.Proofs.Eng
structure ji {α:Type} (a:Nat->Option α) (b:Option α):Prop where
 mono:∀F F' r,F<=F'->a F=some r->a F'=some r
 up:∀F r,a F=some r->b=some r
 fin:∀r,b=some r -> ∃F,a F=some r
section
variable {α β:Type}
theorem ji.const (x:Option α):ji (λ_=>x) x:=⟨λ_ _ _ _ h=>h,λ_ _ h=>h,λ_ h=>⟨0,h⟩⟩
theorem ji.app {a:Nat->Option α} {b:Option α} {k:Nat->Option α->Option β} {k':Option α->Option β} (h:ji a b) (hn:∀F,k F none=none) (hn':k' none=none) (hk:∀x,ji (λF=>k F (some x)) (k' (some x))):ji (λF=>k F (a F)) (k' b):=by
 refine⟨λF F' r hF e => ?_,λF r e => ?_,λr e => ?_⟩
 ·cases ha:a F with
  | none=>rw[ha,hn]at e;cases e
  | some x=>rw[ha]at e;simp only[h.mono F F' x hF ha];exact(hk x).mono F F' r hF e
 ·cases ha:a F with
  | none=>rw[ha,hn]at e;cases e
  | some x=>rw[ha]at e;rw[h.up F x ha];exact(hk x).up F r e
 ·cases hb:b with
  | none=>rw[hb,hn']at e;cases e
  | some x=>
   rw[hb]at e
   obtain⟨F1,h1⟩:=h.fin x hb
   obtain⟨F2,h2⟩:=(hk x).fin r e
   refine⟨max F1 F2, ?_⟩
   simp only[h.mono F1 (max F1 F2) x (Nat.le_max_left _ _) h1]
   exact(hk x).mono F2 (max F1 F2) r (Nat.le_max_right _ _) h2
open Classical in
noncomputable def lim (a:Nat->Option α):Option α:=if h:∃r F,a F=some r then some h.choose else none
theorem ji.lim {a:Nat->Option α} (hm:∀F F' r,F<=F'->a F=some r->a F'=some r):ji a (lim a):=by
 have key:∀r F,a F=some r->Go.Proofs.Eng.lim a=some r:=by
  intro r F h
  have hx:∃r F,a F=some r:=⟨r,F,h⟩
  unfold Go.Proofs.Eng.lim
  rw[dif_pos hx]
  obtain⟨F2,h2⟩:=hx.choose_spec
  have h3:=hm F (max F F2) r (Nat.le_max_left _ _) h
  have h4:=hm F2 (max F F2) _ (Nat.le_max_right _ _) h2
  rw[h3]at h4
  exact h4.symm
 refine⟨hm,λF r h=>key r F h,λr h => ?_⟩
 unfold Go.Proofs.Eng.lim at h
 split at h
 ·rename_i hx
  obtain⟨F,hF⟩:=hx.choose_spec
  exact⟨F,by rw[hF];exact h⟩
 ·cases h
theorem ji.shift {a:Nat->Option α} {b:Option α} (h:ji (λF=>a (F+1)) b) (h0:a 0=none):ji a b:=by
 refine⟨λF F' r hF e => ?_,λF r e => ?_,λr e => ?_⟩
 ·cases F with
  | zero=>rw[h0]at e;cases e
  | succ F=>
   cases F' with
   | zero=>omega
   | succ F'=>exact h.mono F F' r (by omega) e
 ·cases F with
  | zero=>rw[h0]at e;cases e
  | succ F=>exact h.up F r e
 ·obtain⟨F,hF⟩:=h.fin r e;exact⟨F+1,hF⟩
theorem ji.uniq {a:Nat->Option α} {b c:Option α} (h:ji a b) (k:ji a c):b=c:=by
 cases hb:b with
 | none=>
  cases hc:c with
  | none=>rfl
  | some x=>obtain⟨F,hF⟩:=k.fin x hc;rw[h.up F x hF]at hb;cases hb
 | some x=>obtain⟨F,hF⟩:=h.fin x hb;exact(k.up F x hF).symm
end
section
variable {md:FuncId->Md} {c:Nat->ia} {c':ia}
def nf (c:Nat->ia) (c':ia):Prop:=∀f args s,ji (λF=>c F f args s) (c' f args s)
theorem Ka (h:nf c c') (pm:Bool) (s:ASt) (f:FuncId) (args:List AV):ji (λF=>my (c F) md pm s f args) (my c' md pm s f args):=by
 unfold my
 cases md f with
 | pure=>
  simp only
  by_cases hp:(pm && !gi args)=true
  ·simp only[hp,if_true];exact .const _
  ·simp only[hp]
   cases il (gr 20 s) args with
   | none=>exact .const _
   | some args'=>exact ji.app (k:=λ_ (o:Option (jx × ASt))=>(match o with|some (out,s')=>(out.gr 1020 s').map λo=>(o,args.foldl (frz 20) s)|none=>none:Option (jx × ASt))) (k':=λ(o:Option (jx × ASt))=>(match o with|some (out,s')=>(out.gr 1020 s').map λo=>(o,args.foldl (frz 20) s)|none=>none:Option (jx × ASt))) (h f args' ⟨[],[]⟩) (λ_=>rfl) rfl λ_=>.const _
 | shared=>
  simp only
  cases pm with
  | true=>exact .const _
  | false=>exact ji.app (k:=λ_ (o:Option (jx × ASt))=>(match o with|some (out,s')=>(out.gr 20 s').map λo=>(o,out.frz 20 s')|none=>none:Option (jx × ASt))) (k':=λ(o:Option (jx × ASt))=>(match o with|some (out,s')=>(out.gr 20 s').map λo=>(o,out.frz 20 s')|none=>none:Option (jx × ASt))) (h f args s) (λ_=>rfl) rfl λ_=>.const _
 | raw=>
  simp only
  cases pm with
  | true=>exact .const _
  | false=>exact h f args s
theorem Ll (h:nf c c') (pm:Bool) (s:ASt) (f:FuncId) (args:List AV):ji (λF=>me (c F) md pm s f args) (me c' md pm s f args):=Ka h pm s f (zg pm args)
theorem ly (h:nf c c') (pm:Bool) (i:PI) (st:St):ji (λF=>iw (c F) md pm i st) (iw c' md pm i st):=by
 unfold iw
 cases iu st.tm i.g with
 | none=>exact .const _
 | some b=>
  cases b with
  | false=>exact .const _
  | true=>
   simp only
   cases opA st.tm st.s i.op with
   | none=>exact .const _
   | some o=>
    cases o with
    | call f args=>exact ji.app (k:=λ_ (o:Option (jx × ASt))=>(match o with|some (.ret v,s)=>some (.normal,{st with tm:=put st.tm i.dst v,s})|some (.pan v,s)=>some (.pan v,{st with s})|none=>none:Option (gg × St))) (k':=λ(o:Option (jx × ASt))=>(match o with|some (.ret v,s)=>some (.normal,{st with tm:=put st.tm i.dst v,s})|some (.pan v,s)=>some (.pan v,{st with s})|none=>none:Option (gg × St))) (Ll h pm st.s f args) (λ_=>rfl) rfl λ_=>.const _
    | _=>exact .const _
theorem xq (h:nf c c'):∀(l:List PI) (st:St),ji (λF=>kg (c F) md l st) (kg c' md l st)
 | [],st=>.const _
 | i::l,st=>by
  refine ji.app (k:=λF (o:Option (gg × St))=>(match o with|some (.normal,st)=>kg (c F) md l st|r=>r:Option (gg × St))) (k':=λ(o:Option (gg × St))=>(match o with|some (.normal,st)=>kg c' md l st|r=>r:Option (gg × St))) (ly h false i st) (λ_=>rfl) rfl λx => ?_
  obtain⟨ex,st1⟩:=x
  cases ex with
  | normal=>exact xq h l st1
  | _=>exact .const _
theorem u4 (h:nf c c') (hd:List PI):∀(l:List PI) (st:St) (p:Option (Nat × AV × ASt)),ji (λF=>js (c F) md hd l st p) (js c' md hd l st p)
 | [],st,p=>.const _
 | i::l,st,none=>by
  refine ji.app (k:=λF (o:Option (gg × St))=>(match o with|some (.normal,st)=>js (c F) md hd l st none|some (.pan v,_)=>if Cj hd i then js (c F) md hd l st (some (i.ix,v,st.s))else none|_=>none:Option (St × Option (AV × ASt)))) (k':=λ(o:Option (gg × St))=>(match o with|some (.normal,st)=>js c' md hd l st none|some (.pan v,_)=>if Cj hd i then js c' md hd l st (some (i.ix,v,st.s))else none|_=>none:Option (St × Option (AV × ASt)))) (ly h true i st) (λ_=>rfl) rfl λx => ?_
  obtain⟨ex,st1⟩:=x
  cases ex with
  | normal=>exact u4 h hd l st1 none
  | pan v=>
   simp only
   split
   ·exact u4 h hd l st _
   ·exact .const _
  | _=>exact .const _
 | i::l,st,some (k,v,s)=>by
  unfold js
  split
  ·exact u4 h hd l st _
  ·refine ji.app (k:=λF (o:Option (gg × St))=>(match o with|some (.normal,st)=>js (c F) md hd l st (some (k,v,s))|_=>none:Option (St × Option (AV × ASt)))) (k':=λ(o:Option (gg × St))=>(match o with|some (.normal,st)=>js c' md hd l st (some (k,v,s))|_=>none:Option (St × Option (AV × ASt)))) (ly h true i st) (λ_=>rfl) rfl λx => ?_
   obtain⟨ex,st1⟩:=x
   cases ex with
   | normal=>exact u4 h hd l st1 _
   | _=>exact .const _
theorem C8 (h:nf c c'):∀(l:List PI) (st:St),ji (λF=>qg (c F) md l st) (qg c' md l st)
 | [],st=>.const _
 | i::l,st=>by
  refine ji.app (k:=λF (o:Option (gg × St))=>(match o with|some (.normal,st)=>qg (c F) md l st|_=>none:Option St)) (k':=λ(o:Option (gg × St))=>(match o with|some (.normal,st)=>qg c' md l st|_=>none:Option St)) (ly h true i st) (λ_=>rfl) rfl λx => ?_
  obtain⟨ex,st1⟩:=x
  cases ex with
  | normal=>exact C8 h l st1
  | _=>exact .const _
theorem Ke (h:nf c c') (n:Nat) (l:List PI) (st:St):ji (λF=>zm (c F) md n l st) (zm c' md n l st):=by
 unfold zm
 refine ji.app (k:=λF (o:Option St)=>(match o with
  | some st1=>(match l.drop n with
   | i::l'=>(match iw (c F) md false i st1 with
    | some (.normal,st2)=>if ((l.take n).all λj=>i.pre.contains j.ix||j.op.kd == .S||m8 st1.tm st1.s st2.s j.op)=true then(qg (c F) md l' st2).map λst3=>(st3,none)else none
    | some (.pan v,st2)=>some (st2,some (v,st2.s))
    | _=>none)
   | []=>none)
  | none=>none:Option (St × Option (AV × ASt)))) (k':=λ(o:Option St)=>(match o with
  | some st1=>(match l.drop n with
   | i::l'=>(match iw c' md false i st1 with
    | some (.normal,st2)=>if ((l.take n).all λj=>i.pre.contains j.ix||j.op.kd == .S||m8 st1.tm st1.s st2.s j.op)=true then(qg c' md l' st2).map λst3=>(st3,none)else none
    | some (.pan v,st2)=>some (st2,some (v,st2.s))
    | _=>none)
   | []=>none)
  | none=>none:Option (St × Option (AV × ASt)))) (C8 h (l.take n) st) (λ_=>rfl) rfl λst1 => ?_
 simp only
 cases l.drop n with
 | nil=>exact .const _
 | cons i l'=>
  refine ji.app (k:=λF (o:Option (gg × St))=>(match o with
    | some (.normal,st2)=>if ((l.take n).all λj=>i.pre.contains j.ix||j.op.kd == .S||m8 st1.tm st1.s st2.s j.op)=true then(qg (c F) md l' st2).map λst3=>(st3,none)else none
    | some (.pan v,st2)=>some (st2,some (v,st2.s))
    | _=>none:Option (St × Option (AV × ASt)))) (k':=λ(o:Option (gg × St))=>(match o with
    | some (.normal,st2)=>if ((l.take n).all λj=>i.pre.contains j.ix||j.op.kd == .S||m8 st1.tm st1.s st2.s j.op)=true then(qg c' md l' st2).map λst3=>(st3,none)else none
    | some (.pan v,st2)=>some (st2,some (v,st2.s))
    | _=>none:Option (St × Option (AV × ASt)))) (ly h false i st1) (λ_=>rfl) rfl λx => ?_
  obtain⟨ex,st2⟩:=x
  cases ex with
  | normal=>
   simp only
   split
   ·exact ji.app (k:=λ_ (o:Option St)=>o.map λst3=>(st3,none)) (k':=λ(o:Option St)=>o.map λst3=>(st3,none)) (C8 h l' st2) (λ_=>rfl) rfl λ_=>.const _
   ·exact .const _
  | _=>exact .const _
theorem yu (h:nf c c'):∀(l:List PI) (tm:List AV) (s:ASt) (Z:List fq),ji (λF=>vu (c F) md l tm s Z) (vu c' md l tm s Z)
 | [],tm,s,Z=>.const _
 | i::l,tm,s,Z=>by
  unfold vu
  split
  ·refine ji.app (k:=λF (o:Option (gg × St))=>(match o with|some (.normal,st)=>vu (c F) md l st.tm st.s Z|_=>none:Option (List AV × ASt × List fq))) (k':=λ(o:Option (gg × St))=>(match o with|some (.normal,st)=>vu c' md l st.tm st.s Z|_=>none:Option (List AV × ASt × List fq))) (ly h true i ⟨tm,[],s⟩) (λ_=>rfl) rfl λx => ?_
   obtain⟨ex,st1⟩:=x
   cases ex with
   | normal=>exact yu h l _ _ _
   | _=>exact .const _
  ·cases om tm (s.H.length+Z.length) i.op with
   | none=>exact .const _
   | some x=>exact yu h l _ _ _
theorem Ql (h:nf c c') (l:List PI) (st:St):ji (λF=>Fb (c F) md l st) (Fb c' md l st):=by
 unfold Fb
 cases l.getLast? with
 | none=>exact .const _
 | some p=>
  simp only
  by_cases hk:(p.op.kd == .W)=true
  ·simp only[if_pos hk]
   refine ji.app (k:=λF (o:Option (List AV × ASt × List fq))=>(match o with
    | some (tm,s,Z)=>(match iw (c F) md true p ⟨tm,st.df,{s with H:=s.H++Z}⟩with
     | some (.normal,st2)=>if (l.dropLast.all λj=>p.pre.contains j.ix||j.op.kd == .S||m8 tm {s with H:=s.H++Z} st2.s j.op)=true then some st2 else none
     | _=>none)
    | none=>none:Option St)) (k':=λ(o:Option (List AV × ASt × List fq))=>(match o with
    | some (tm,s,Z)=>(match iw c' md true p ⟨tm,st.df,{s with H:=s.H++Z}⟩with
     | some (.normal,st2)=>if (l.dropLast.all λj=>p.pre.contains j.ix||j.op.kd == .S||m8 tm {s with H:=s.H++Z} st2.s j.op)=true then some st2 else none
     | _=>none)
    | none=>none:Option St)) (yu h l.dropLast st.tm st.s []) (λ_=>rfl) rfl λx => ?_
   obtain⟨tm,s,Z⟩:=x
   exact ji.app (k:=λ_ (o:Option (gg × St))=>(match o with
     | some (.normal,st2)=>if (l.dropLast.all λj=>p.pre.contains j.ix||j.op.kd == .S||m8 tm {s with H:=s.H++Z} st2.s j.op)=true then some st2 else none
     | _=>none:Option St)) (k':=λ(o:Option (gg × St))=>(match o with
     | some (.normal,st2)=>if (l.dropLast.all λj=>p.pre.contains j.ix||j.op.kd == .S||m8 tm {s with H:=s.H++Z} st2.s j.op)=true then some st2 else none
     | _=>none:Option St)) (ly h true p ⟨tm,st.df,{s with H:=s.H++Z}⟩) (λ_=>rfl) rfl λx=>.const _
  ·simp only[if_neg hk]
   exact ji.app (k:=λ_ (o:Option (List AV × ASt × List fq))=>(match o with
    | some (tm,s,Z)=>some ⟨tm,st.df,{s with H:=s.H++Z}⟩
    | none=>none:Option St)) (k':=λ(o:Option (List AV × ASt × List fq))=>(match o with
    | some (tm,s,Z)=>some ⟨tm,st.df,{s with H:=s.H++Z}⟩
    | none=>none:Option St)) (yu h l st.tm st.s []) (λ_=>rfl) rfl λx=>.const _
theorem M0 (h:nf c c') (n:Nat) (l:List PI) (st:St):ji (λF=>nv (c F) md n l st) (nv c' md n l st):=by
 by_cases h0:n<1000
 ·simp only[nv,if_pos h0]
  exact Ke h n l st
 ·simp only[nv,if_neg h0]
  exact ji.app (k:=λ_ (o:Option St)=>o.map λst=>(st,none)) (k':=λ(o:Option St)=>o.map λst=>(st,none)) (Ql h l st) (λ_=>rfl) rfl λ_=>.const _
theorem Yc {call:ia} {md:FuncId->Md} {n:Nat} {ns:List Nat} {l:List PI} {st:St} (h:n ≠ 9000000):m9 call md (n::ns) l st =
  match (if n<1000 then js call md (l.take (n % 1000)) (l.take (n % 1000)) st none else nv call md (n / 1000-1) (l.take (n % 1000)) st)with
  | some (st',none)=>
   match l.drop (n % 1000)with
   | []=>some (.normal,st')
   | b::l'=>
    match iw call md false b st' with
    | some (.normal,st2)=>m9 call md ns l' st2
    | r=>r
  | some (_,some (v,s))=>some (.pan v,{st with tm:=kq (l.take (n % 1000)) st.tm,s})
  | none=>none:=by
 rw[m9.eq_def]
 simp only[if_neg h]
 rfl
theorem a0e {call:ia} {md:FuncId->Md} {ns:List Nat} {i:PI} {l:List PI} {st:St}:m9 call md (9000000::ns) (i::l) st =
  match iw call md false i st with
  | some (.normal,st1)=>
   match m9 call md ns l st1 with
   | some (.normal,st2)=>some (.normal,st2)
   | _=>none
  | _=>none:=by
 rw[m9.eq_def]
 rfl
theorem Bj (h:nf c c'):∀(ns:List Nat) (l:List PI) (st:St),ji (λF=>m9 (c F) md ns l st) (m9 c' md ns l st)
 | [],l,st=>xq h l st
 | n::ns,l,st=>by
  by_cases hf:n=9000000
  ·subst hf
   cases l with
   | nil=>
    have e:∀c:ia,m9 c md (9000000::ns) [] st=none:=λc=>by rw[m9.eq_def];rfl
    simp only[e]
    exact .const _
   | cons i l'=>
    simp only[a0e]
    refine ji.app (k:=λF (o:Option (gg × St))=>(match o with|some (.normal,st1)=>(match m9 (c F) md ns l' st1 with|some (.normal,st2)=>some (.normal,st2)|_=>none)|_=>none:Option (gg × St))) (k':=λ(o:Option (gg × St))=>(match o with|some (.normal,st1)=>(match m9 c' md ns l' st1 with|some (.normal,st2)=>some (.normal,st2)|_=>none)|_=>none:Option (gg × St))) (ly h false i st) (λ_=>rfl) rfl λx => ?_
    obtain⟨ex,st1⟩:=x
    cases ex with
    | normal=>exact ji.app (k:=λ_ (o:Option (gg × St))=>(match o with|some (.normal,st2)=>some (.normal,st2)|_=>none:Option (gg × St))) (k':=λ(o:Option (gg × St))=>(match o with|some (.normal,st2)=>some (.normal,st2)|_=>none:Option (gg × St))) (Bj h ns l' st1) (λ_=>rfl) rfl λ_=>.const _
    | _=>exact .const _
  simp only[Yc hf]
  refine ji.app (a:=λF=>if n<1000 then js (c F) md (l.take (n % 1000)) (l.take (n % 1000)) st none else nv (c F) md (n / 1000-1) (l.take (n % 1000)) st) (b:=if n<1000 then js c' md (l.take (n % 1000)) (l.take (n % 1000)) st none else nv c' md (n / 1000-1) (l.take (n % 1000)) st)
   (k:=λF (o:Option (St × Option (AV × ASt)))=>(match o with|some (st',none)=>(match l.drop (n % 1000)with|[]=>some (.normal,st')|b::l'=>match iw (c F) md false b st' with|some (.normal,st2)=>m9 (c F) md ns l' st2|r=>r)|some (_,some (v,s))=>some (.pan v,{st with tm:=kq (l.take (n % 1000)) st.tm,s})|none=>none:Option (gg × St)))
   (k':=λ(o:Option (St × Option (AV × ASt)))=>(match o with|some (st',none)=>(match l.drop (n % 1000)with|[]=>some (.normal,st')|b::l'=>match iw c' md false b st' with|some (.normal,st2)=>m9 c' md ns l' st2|r=>r)|some (_,some (v,s))=>some (.pan v,{st with tm:=kq (l.take (n % 1000)) st.tm,s})|none=>none:Option (gg × St))) ?_ (λ_=>rfl) rfl λx => ?_
  ·by_cases hn:n<1000
   ·simp only[if_pos hn];exact u4 h _ _ st none
   ·simp only[if_neg hn];exact M0 h _ _ st
  obtain⟨st',p⟩:=x
  cases p with
  | some p=>exact .const _
  | none=>
   simp only
   cases l.drop (n % 1000)with
   | nil=>exact .const _
   | cons b l'=>
    refine ji.app (k:=λF (o:Option (gg × St))=>(match o with|some (.normal,st2)=>m9 (c F) md ns l' st2|r=>r:Option (gg × St))) (k':=λ(o:Option (gg × St))=>(match o with|some (.normal,st2)=>m9 c' md ns l' st2|r=>r:Option (gg × St))) (ly h false b st') (λ_=>rfl) rfl λx => ?_
    obtain⟨ex,st1⟩:=x
    cases ex with
    | normal=>exact Bj h ns l' st1
    | _=>exact .const _
theorem Fm {it:ASt->Nat->Option (Option (List AV))} {rnd:Nat->List AV->ASt->Option (gg × St)} {rnd':List AV->ASt->Option (gg × St)} (h:∀xs s,ji (λF=>rnd F xs s) (rnd' xs s)):∀(k i:Nat) (s:ASt),ji (λF=>Fe it (rnd F) k i s) (Fe it rnd' k i s)
 | 0,i,s=>.const _
 | k+1,i,s=>by
  unfold Fe
  cases it s i with
  | none=>exact .const _
  | some r=>
   cases r with
   | none=>exact .const _
   | some xs=>
    refine ji.app (k:=λF (o:Option (gg × St))=>(match o with
     | some (.normal,st)=>if st.df.isEmpty then Fe it (rnd F) k (i+1) st.s else none
     | some (.exit id,st)=>if st.df.isEmpty then some (.exit id,st.s)else none
     | some (.ret,st)=>if st.df.isEmpty then some (.ret,st.s)else none
     | _=>none:Option (gg × ASt))) (k':=λ(o:Option (gg × St))=>(match o with
     | some (.normal,st)=>if st.df.isEmpty then Fe it rnd' k (i+1) st.s else none
     | some (.exit id,st)=>if st.df.isEmpty then some (.exit id,st.s)else none
     | some (.ret,st)=>if st.df.isEmpty then some (.ret,st.s)else none
     | _=>none:Option (gg × ASt))) (h xs s) (λ_=>rfl) rfl λx => ?_
    obtain⟨ex,st1⟩:=x
    cases ex with
    | normal=>
     simp only
     split
     ·exact Fm h k (i+1) st1.s
     ·exact .const _
    | _=>exact .const _
theorem kr (h:nf c c') {lp:Nat->PC->St->Option (gg × St)} {lp':PC->St->Option (gg × St)} (hl:∀b st,ji (λF=>lp F b st) (lp' b st)):∀(b:PC) (st:St),ji (λF=>iy (c F) md (lp F) b st) (iy c' md lp' b st)
 | .skip,st=>.const _
 | .reg l,st=>xq h l st
 | .jk ns l,st=>Bj h ns l st
 | .seq a b,st=>by
  refine ji.app (k:=λF (o:Option (gg × St))=>(match o with|some (.normal,st)=>iy (c F) md (lp F) b st|r=>r:Option (gg × St))) (k':=λ(o:Option (gg × St))=>(match o with|some (.normal,st)=>iy c' md lp' b st|r=>r:Option (gg × St))) (kr h hl a st) (λ_=>rfl) rfl λx => ?_
  obtain⟨ex,st1⟩:=x
  cases ex with
  | normal=>exact kr h hl b st1
  | _=>exact .const _
 | .cond x a b,st=>by
  unfold iy
  split
  ·exact kr h hl a st
  ·exact kr h hl b st
  ·exact .const _
 | .block id b,st=>by
  refine ji.app (k:=λF (o:Option (gg × St))=>(match o with|some (.exit i,st)=>if i=id then some (.normal,st)else some (.exit i,st)|r=>r:Option (gg × St))) (k':=λ(o:Option (gg × St))=>(match o with|some (.exit i,st)=>if i=id then some (.normal,st)else some (.exit i,st)|r=>r:Option (gg × St))) (kr h hl b st) (λ_=>rfl) rfl λx=>.const _
 | .loop b,st=>hl b st
 | .exit id,st=>.const _
 | .ret,st=>.const _
 | .ora _,st=>.const _
 | .By it x ps a b,st=>by
  simp only[iy]
  split
  ·split
   ·refine ji.app (k:=λ_ (o:Option (gg × ASt))=>o.map λr=>(r.1,{st with s:=r.2})) (k':=λ(o:Option (gg × ASt))=>o.map λr=>(r.1,{st with s:=r.2})) (Fm (rnd:=λF xs s=>if xs.length=ps.length then(match iy (c F) md (lp F) a ⟨Ey st.tm ps xs,[],s⟩with|some (.normal,st1)=>if st1.df.isEmpty then iy (c F) md (lp F) b st1 else none|_=>none)else none) (λxs s => ?_) 1000000 0 st.s) (λ_=>rfl) rfl λ_=>.const _
    by_cases hl2:xs.length=ps.length
    ·simp only[if_pos hl2]
     refine ji.app (k:=λF (o:Option (gg × St))=>(match o with|some (.normal,st1)=>if st1.df.isEmpty then iy (c F) md (lp F) b st1 else none|_=>none:Option (gg × St))) (k':=λ(o:Option (gg × St))=>(match o with|some (.normal,st1)=>if st1.df.isEmpty then iy c' md lp' b st1 else none|_=>none:Option (gg × St))) (kr h hl a _) (λ_=>rfl) rfl λx => ?_
     obtain⟨ex,st1⟩:=x
     cases ex with
     | normal=>
      simp only
      split
      ·exact kr h hl b st1
      ·exact .const _
     | _=>exact .const _
    ·simp only[if_neg hl2];exact .const _
   ·exact .const _
  ·exact .const _
theorem nu (h:nf c c'):∀(F F':Nat) (G G':Nat) (b:PC) (st:St) (r:gg × St),F<=F'->G<=G'->ko (c G) md F b st=some r->ko (c G') md F' b st=some r
 | 0,F',G,G',b,st,r,_,_,e=>by simp[ko]at e
 | F+1,0,G,G',b,st,r,hF,_,e=>by omega
 | F+1,F'+1,G,G',b,st,r,hF,hG,e=>by
  have hl:∀b st,ji (λH=>ko (c (if H=0 then G else G')) md (if H=0 then F else F') b st) (ko (c G') md F' b st):=by
   intro b st
   refine⟨λH H' r hH e => ?_,λH r e => ?_,λr e=>⟨1,by simpa using e⟩⟩
   ·by_cases h0:H=0
    ·subst h0
     simp only[if_true]at e
     by_cases h1:H'=0
     ·subst h1;simpa using e
     ·simp only[h1,if_false];exact nu h F F' G G' b st r (by omega) hG e
    ·simp only[h0,if_false]at e
     simp only[show H' ≠ 0 by omega,if_false];exact e
   ·by_cases h0:H=0
    ·subst h0
     simp only[if_true]at e
     exact nu h F F' G G' b st r (by omega) hG e
    ·simpa[h0]using e
  have ho:nf (λH=>c (if H=0 then G else G')) (c G'):=by
   intro f args s
   refine⟨λH H' r hH e => ?_,λH r e => ?_,λr e=>⟨1,by simpa using e⟩⟩
   ·by_cases h0:H=0
    ·subst h0
     simp only[if_true]at e
     by_cases h1:H'=0
     ·subst h1;simpa using e
     ·simp only[h1,if_false];exact(h f args s).mono G G' r hG e
    ·simp only[h0,if_false]at e
     simp only[show H' ≠ 0 by omega,if_false];exact e
   ·by_cases h0:H=0
    ·subst h0
     simp only[if_true]at e
     exact(h f args s).mono G G' r hG e
    ·simpa[h0]using e
  have hc:=kr (md:=md) ho hl b st
  simp only[ko]at e ⊢
  cases h1:iy (c G) md (ko (c G) md F) b st with
  | none=>rw[h1]at e;simp at e
  | some x=>
   rw[h1]at e
   have h2:=hc.mono 0 1 x (by omega) (by simpa using h1)
   simp only[show (1:Nat) ≠ 0 by omega,if_false]at h2
   rw[h2]
   obtain⟨ex,st1⟩:=x
   cases ex with
   | normal=>exact nu h F F' G G' b st1 r (by omega) hG e
   | _=>exact e
noncomputable def sd (c':ia) (md:FuncId->Md) (b:PC) (st:St):Option (gg × St):=lim λF=>ko c' md F b st
theorem Cv (c':ia):nf (λ_=>c') c':=λ_ _ _=>.const _
theorem rh (c':ia) (b:PC) (st:St):ji (λF=>ko c' md F b st) (sd c' md b st):=
 ji.lim λF F' r hF e=>nu (c:=λ_=>c') (Cv c') F F' 0 0 b st r hF (di _) e
theorem Mc (h:nf c c') (b:PC) (st:St):ji (λF=>ko (c F) md F b st) (sd c' md b st):=by
 have key:∀(F:Nat) (b:PC) (st:St),ji (λG=>ko (c G) md F b st) (ko c' md F b st):=by
  intro F
  induction F with
  | zero=>intro b st;exact .const _
  | succ F ih=>
   intro b st
   refine ji.app (k:=λG (o:Option (gg × St))=>(match o with|some (.normal,st)=>ko (c G) md F b st|r=>r:Option (gg × St))) (k':=λ(o:Option (gg × St))=>(match o with|some (.normal,st)=>ko c' md F b st|r=>r:Option (gg × St))) (kr h (λb st=>ih b st) b st) (λ_=>rfl) rfl λx => ?_
   obtain⟨ex,st1⟩:=x
   cases ex with
   | normal=>exact ih b st1
   | _=>exact .const _
 refine⟨λF F' r hF e=>nu h F F' F F' b st r hF hF e,λF r e=>(rh c' b st).up F r ((key F b st).up F r e),λr e => ?_⟩
 obtain⟨F,hF⟩:=(rh c' b st).fin r e
 obtain⟨G,hG⟩:=(key F b st).fin r hF
 exact⟨max F G,nu h F (max F G) G (max F G) b st r (Nat.le_max_left _ _) (Nat.le_max_right _ _) hG⟩
end
end Go.Proofs.Eng
namespace Go.Proofs.Eng
section
variable {md:FuncId->Md} {c:Nat->ia} {c':ia}
theorem uc (h:nf c c'):∀(l:List PI) (rc:Rc) (st:St),ji (λF=>oy (c F) md l rc st) (oy c' md l rc st)
 | [],rc,st=>.const _
 | i::l,rc,st=>by
  have go:ji (λF=>match iw (c F) md false i st with
   | some (.normal,st)=>oy (c F) md l rc st
   | some (r,st)=>some (r,rc,st)
   | none=>none) (match iw c' md false i st with
   | some (.normal,st)=>oy c' md l rc st
   | some (r,st)=>some (r,rc,st)
   | none=>none):=by
   refine ji.app (k:=λF (o:Option (gg × St))=>(match o with|some (.normal,st)=>oy (c F) md l rc st|some (r,st)=>some (r,rc,st)|none=>none:Option (gg × Rc × St))) (k':=λ(o:Option (gg × St))=>(match o with|some (.normal,st)=>oy c' md l rc st|some (r,st)=>some (r,rc,st)|none=>none:Option (gg × Rc × St))) (ly h false i st) (λ_=>rfl) rfl λx => ?_
   obtain⟨ex,st1⟩:=x
   cases ex with
   | normal=>exact uc h l rc st1
   | _=>exact .const _
  unfold oy
  cases hop:i.op with
  | ug=>
   cases hg:i.g with
   | none=>
    cases rc with
    | can v=>exact uc h l _ _
    | _=>exact uc h l _ _
   | some g=>exact go
  | _=>exact go
theorem u6 (h:nf c c'):∀(b:PC) (rc:Rc) (st:St),ji (λF=>nk (c F) md b rc st) (nk c' md b rc st)
 | .skip,rc,st=>.const _
 | .reg l,rc,st=>uc h l rc st
 | .jk ns l,rc,st=>.const _
 | .seq a b,rc,st=>by
  refine ji.app (k:=λF (o:Option (gg × Rc × St))=>(match o with|some (.normal,rc,st)=>nk (c F) md b rc st|r=>r:Option (gg × Rc × St))) (k':=λ(o:Option (gg × Rc × St))=>(match o with|some (.normal,rc,st)=>nk c' md b rc st|r=>r:Option (gg × Rc × St))) (u6 h a rc st) (λ_=>rfl) rfl λx => ?_
  obtain⟨ex,rc1,st1⟩:=x
  cases ex with
  | normal=>exact u6 h b rc1 st1
  | _=>exact .const _
 | .cond x a b,rc,st=>by
  unfold nk
  split
  ·exact u6 h a rc st
  ·exact u6 h b rc st
  ·exact .const _
 | .block id b,rc,st=>.const _
 | .loop b,rc,st=>.const _
 | .exit id,rc,st=>.const _
 | .ret,rc,st=>.const _
 | .ora _,rc,st=>.const _
 | .By ..,rc,st=>.const _
theorem vt (h:nf c c') (pfs:FuncId->Option PF):∀(ds:List (FuncId × List AV)) (p:Option AV) (s:ASt),ji (λF=>jy (c F) md pfs ds p s) (jy c' md pfs ds p s)
 | [],p,s=>.const _
 | (f,args)::ds,p,s=>by
  unfold jy
  cases pfs f with
  | none=>exact .const _
  | some pf=>
   by_cases hq:pf.body.qo=true
   ·simp only[if_pos hq];exact .const _
   simp only[if_neg hq]
   refine ji.app (k:=λF (o:Option (gg × Rc × St))=>(match o with|some (.ret,rc,st)=>if st.df.isEmpty&&(ma st.tm st.s pf.res).isSome then jy (c F) md pfs ds (B5 rc) st.s else none|some (.normal,rc,st)=>if st.df.isEmpty&&(ma st.tm st.s pf.res).isSome then jy (c F) md pfs ds (B5 rc) st.s else none|_=>none:Option (Option AV × ASt))) (k':=λ(o:Option (gg × Rc × St))=>(match o with|some (.ret,rc,st)=>if st.df.isEmpty&&(ma st.tm st.s pf.res).isSome then jy c' md pfs ds (B5 rc) st.s else none|some (.normal,rc,st)=>if st.df.isEmpty&&(ma st.tm st.s pf.res).isSome then jy c' md pfs ds (B5 rc) st.s else none|_=>none:Option (Option AV × ASt))) (u6 h pf.body (K6 p) _) (λ_=>rfl) rfl λx => ?_
   obtain⟨ex,rc1,st1⟩:=x
   cases ex with
   | normal=>
    simp only
    split
    ·exact vt h pfs ds _ _
    ·exact .const _
   | ret=>
    simp only
    split
    ·exact vt h pfs ds _ _
    ·exact .const _
   | _=>exact .const _
theorem uj (h:nf c c') (pfs:FuncId->Option PF) (res:List PR) (st:St) (p:Option AV):ji (λF=>jw (c F) md pfs res st p) (jw c' md pfs res st p):=by
 have go:ji (λF=>match jy (c F) md pfs st.df p st.s with
  | some (none,s)=>(ma st.tm s res).map λl=>(jx.ret (oq l),s)
  | some (some v,s)=>some (jx.pan v,s)
  | none=>none) (match jy c' md pfs st.df p st.s with
  | some (none,s)=>(ma st.tm s res).map λl=>(jx.ret (oq l),s)
  | some (some v,s)=>some (jx.pan v,s)
  | none=>none):=
  ji.app (k:=λF (o:Option (Option AV × ASt))=>(match o with|some (none,s)=>(ma st.tm s res).map λl=>(.ret (oq l),s)|some (some v,s)=>some (.pan v,s)|none=>none:Option (jx × ASt))) (k':=λ(o:Option (Option AV × ASt))=>(match o with|some (none,s)=>(ma st.tm s res).map λl=>(.ret (oq l),s)|some (some v,s)=>some (.pan v,s)|none=>none:Option (jx × ASt))) (vt h pfs st.df p st.s) (λ_=>rfl) rfl λx=>.const _
 unfold jw
 cases hd:st.df with
 | nil=>cases p<;>exact .const _
 | cons d ds=>rw[hd]at go;exact go
noncomputable def Dj (call:ia) (md:FuncId->Md) (pfs:FuncId->Option PF) (pf:PF) (args:List AV) (s:ASt):Option (jx × ASt):=
 match iy call md (sd call md) pf.body {tm:=args++List.replicate (pf.nt-args.length) .undef,df:=[],s} with
 | some (.ret,st)=>if (pf.body.qo && !st.df.isEmpty)=true then none else jw call md pfs pf.res st none
 | some (.normal,st)=>if (pf.body.qo && !st.df.isEmpty)=true then none else jw call md pfs pf.res st none
 | some (.pan v,st)=>if (pf.body.qo && !st.df.isEmpty)=true then none else jw call md pfs pf.res st (some v)
 | _=>none
theorem Lh (h:nf c c') (pfs:FuncId->Option PF) (pf:PF) (args:List AV) (s:ASt):ji (λF=>uz (c F) md pfs F pf args s) (Dj c' md pfs pf args s):=by
 unfold uz Dj exec
 refine ji.app (k:=λF (o:Option (gg × St))=>(match o with|some (.ret,st)=>if (pf.body.qo && !st.df.isEmpty)=true then none else jw (c F) md pfs pf.res st none|some (.normal,st)=>if (pf.body.qo && !st.df.isEmpty)=true then none else jw (c F) md pfs pf.res st none|some (.pan v,st)=>if (pf.body.qo && !st.df.isEmpty)=true then none else jw (c F) md pfs pf.res st (some v)|_=>none:Option (jx × ASt))) (k':=λ(o:Option (gg × St))=>(match o with|some (.ret,st)=>if (pf.body.qo && !st.df.isEmpty)=true then none else jw c' md pfs pf.res st none|some (.normal,st)=>if (pf.body.qo && !st.df.isEmpty)=true then none else jw c' md pfs pf.res st none|some (.pan v,st)=>if (pf.body.qo && !st.df.isEmpty)=true then none else jw c' md pfs pf.res st (some v)|_=>none:Option (jx × ASt))) (kr h (λb st=>Mc h b st) pf.body _) (λ_=>rfl) rfl λx => ?_
 obtain⟨ex,st1⟩:=x
 by_cases hg:(pf.body.qo && !st1.df.isEmpty)=true
 ·cases ex<;>simp only[if_pos hg]<;>exact .const _
 ·cases ex with
  | normal=>simp only[if_neg hg];exact uj h pfs _ _ _
  | ret=>simp only[if_neg hg];exact uj h pfs _ _ _
  | pan v=>simp only[if_neg hg];exact uj h pfs _ _ _
  | exit i=>exact .const _
theorem yw {c1 c2:ia} (h:∀f args s r,c1 f args s=some r->c2 f args s=some r):nf (λH=>if H=0 then c1 else c2) c2:=by
 intro f args s
 refine⟨λH H' r hH e => ?_,λH r e => ?_,λr e=>⟨1,by simpa using e⟩⟩
 ·by_cases h0:H=0
  ·subst h0
   simp only[if_true]at e
   by_cases h1:H'=0
   ·subst h1;simpa using e
   ·simp only[h1,if_false];exact h _ _ _ _ e
  ·simp only[h0,if_false]at e
   simp only[show H' ≠ 0 by omega,if_false];exact e
 ·by_cases h0:H=0
  ·subst h0
   simp only[if_true]at e
   exact h _ _ _ _ e
  ·simpa[h0]using e
theorem Ds {c1 c2:ia} (h:∀f args s r,c1 f args s=some r->c2 f args s=some r) {pfs:FuncId->Option PF} {F F':Nat} (hF:F<=F') {pf:PF} {args:List AV} {s:ASt} {r:jx × ASt} (e:uz c1 md pfs F pf args s=some r):uz c2 md pfs F' pf args s=some r:=by
 have hl:∀b st,ji (λH=>ko (if H=0 then c1 else c2) md (if H=0 then F else F') b st) (ko c2 md F' b st):=by
  intro b st
  refine⟨λH H' r hH e => ?_,λH r e => ?_,λr e=>⟨1,by simpa using e⟩⟩
  ·by_cases h0:H=0
   ·subst h0
    simp only[if_true]at e
    by_cases h1:H'=0
    ·subst h1;simpa using e
    ·simp only[h1,if_false]
     have:=nu (md:=md) (yw h) F F' 0 1 b st r hF (by omega) (by simpa using e)
     simpa using this
   ·simp only[h0,if_false]at e
    simp only[show H' ≠ 0 by omega,if_false];exact e
  ·by_cases h0:H=0
   ·subst h0
    simp only[if_true]at e
    have:=nu (md:=md) (yw h) F F' 0 1 b st r hF (by omega) (by simpa using e)
    simpa using this
   ·simpa[h0]using e
 have hc:=kr (md:=md) (yw h) hl pf.body {tm:=args++List.replicate (pf.nt-args.length) .undef,df:=[],s}
 unfold uz exec at e ⊢
 cases h1:iy c1 md (ko c1 md F) pf.body {tm:=args++List.replicate (pf.nt-args.length) .undef,df:=[],s} with
 | none=>rw[h1]at e;simp at e
 | some x=>
  rw[h1]at e
  have h2:=hc.mono 0 1 x (by omega) (by simpa using h1)
  simp only[show (1:Nat) ≠ 0 by omega,if_false]at h2
  rw[h2]
  obtain⟨ex,st1⟩:=x
  have hv:∀p,jw c1 md pfs pf.res st1 p=some r->jw c2 md pfs pf.res st1 p=some r:=by
   intro p e
   have:=(uj (md:=md) (yw h) pfs pf.res st1 p).mono 0 1 r (by omega) (by simpa using e)
   simpa using this
  by_cases hg:(pf.body.qo && !st1.df.isEmpty)=true
  ·cases ex<;>simp only[if_pos hg]at e<;>simp at e
  ·cases ex with
   | normal=>simp only[if_neg hg]at e ⊢;exact hv _ e
   | ret=>simp only[if_neg hg]at e ⊢;exact hv _ e
   | pan v=>simp only[if_neg hg]at e ⊢;exact hv _ e
   | exit i=>simp at e
theorem Eg {pfs:FuncId->Option PF}:∀(F F':Nat),F<=F' -> ∀f args s r,oh md pfs F f args s=some r->oh md pfs F' f args s=some r
 | 0,F',_,f,args,s,r,e=>by simp[oh]at e
 | F+1,0,h,f,args,s,r,e=>by omega
 | F+1,F'+1,h,f,args,s,r,e=>by
  simp only[oh]at e ⊢
  cases hp:pfs f with
  | none=>rw[hp]at e;simp at e
  | some pf=>
   rw[hp]at e
   simp only at e ⊢
   cases ho:pf.body.J5 with
   | some o=>rw[ho]at e;exact e
   | none=>
   rw[ho]at e
   exact Ds (λf args s r e=>Eg F F' (by omega) f args s r e) (by omega) e
noncomputable def run (md:FuncId->Md) (pfs:FuncId->Option PF):ia:=λf args s=>lim λF=>oh md pfs F f args s
theorem xg (pfs:FuncId->Option PF):nf (oh md pfs) (run md pfs):=λf args s=>ji.lim λF F' r hF e=>Eg F F' hF f args s r e
theorem Lx {pfs:FuncId->Option PF} {F:Nat} {f:FuncId} {args:List AV} {s:ASt} {r:jx × ASt} (h:oh md pfs F f args s=some r):run md pfs f args s=some r:=(xg pfs f args s).up F r h
theorem run_eq {pfs:FuncId->Option PF} {f:FuncId} {pf:PF} (hp:pfs f=some pf) (ho:pf.body.J5=none) (args:List AV) (s:ASt):run md pfs f args s=Dj (run md pfs) md pfs pf args s:=by
 refine ji.uniq (xg pfs f args s) (ji.shift ?_ rfl)
 have:=Lh (md:=md) (xg (md:=md) pfs) pfs pf args s
 refine⟨λF F' r hF e => ?_,λF r e => ?_,λr e => ?_⟩
 ·simp only[oh,hp,ho]at e ⊢;exact this.mono F F' r hF e
 ·simp only[oh,hp,ho]at e;exact this.up F r e
 ·obtain⟨F,hF⟩:=this.fin r e;exact⟨F,by simp only[oh,hp,ho];exact hF⟩
theorem Df {pfs:FuncId->Option PF} {f:FuncId} {pf:PF} {o:List AV->ASt->Option (AV × ASt)} (hp:pfs f=some pf) (ho:pf.body.J5=some o) {args:List AV} {v:AV} {s s':ASt} (hv:o args s=some (v,s')):run md pfs f args s=some (.ret v,s'):=
 Lx (F:=1) (by simp only[oh,hp,ho,hv];rfl)
theorem We (call:ia) (b:PC) (st:St):sd call md b st=match iy call md (sd call md) b st with
  | some (.normal,st)=>sd call md b st
  | r=>r:=by
 refine ji.uniq (rh call b st) (ji.shift ?_ rfl)
 refine ji.app (k:=λF (o:Option (gg × St))=>(match o with|some (.normal,st)=>ko call md F b st|r=>r:Option (gg × St))) (k':=λ(o:Option (gg × St))=>(match o with|some (.normal,st)=>sd call md b st|r=>r:Option (gg × St))) (kr (c:=λ_=>call) (md:=md) (Cv call) (λb st=>rh call b st) b st) (λ_=>rfl) rfl λx => ?_
 obtain⟨ex,st1⟩:=x
 cases ex with
 | normal=>exact rh call b st1
 | _=>exact .const _
end
end Go.Proofs.Eng
namespace Go.Proofs.Eng
open Go.ChangeShapes Go.WideShapes Go.ChangeAt Go.RowKit
variable [DrK]
section
variable {P:Program} {md:FuncId->Md} {pfs:FuncId->Option PF}
theorem Fw (hm:P.follows .mixedOrders=true) (hP:xy P pfs):Sound P (run md pfs):=λf args s out s' h=>by
 obtain⟨F,hF⟩:=(xg pfs f args s).fin _ h
 exact Hn hm hP F f args s out s' hF
theorem Qb (hm:P.follows .mixedOrders=true) (hP:xy P pfs) {f:FuncId} {l:List AV} {s':ASt} {x:Value} (h:run md pfs f l ⟨[],[]⟩=some (.ret (.v x),s')) {w:World} (hk:Kn w) {vs:List Value} (hr:ga (Gh.empty λ_ _=>False) ⟨[],[]⟩ w l vs) :
  Calls P f vs.toArray w λe w'=>e = .returned x/\Below w.heap.size w w':=by
 obtain⟨_,hc⟩:=Fw hm hP _ _ _ _ _ h
 refine(hc _ w vs (Inv.empty hk (λ_ _ h=>h.elim)) hr).mono λe w' ⟨g',hI,hE,hO⟩ => ?_
 cases e with
 | returned u=>
  have hO':Rep g' s' w' (.v x) u:=hO
  exact⟨by rw[hO'.ke],hE.os,hE.tape,hE.output.1,hE.size,λk hk=>(hE.obj k hk (by simp[Gh.has,Gh.empty])).1⟩
 | _=>exact hO.elim
variable {H:Type} {enc:TypeId × Value->H}
theorem zf (hl:laidOutB P=true) {W W':World} (hb:Below W.heap.size W W'):∀{ts:List TypeId} {vs:List Value} {ds:List (DataW H)} {p:List MemPlace},(∀t ∈ ts,P.readableRec t=true/\t<P.types.size)->(∀x ∈ p,x.block<W.heap.size)->DataW.TrodAll enc P W 0 (λ_=>true) true ts vs ds p->DataW.TrodAll enc P W' 0 (λb=>decide (b<W.heap.size)) true ts vs ds p
 | [],[],[],_,_,_,h=>h
 | [],_::_,_,_,_,_,h=>h.elim
 | [],[],_::_,_,_,_,h=>h.elim
 | _::_,[],_,_,_,_,h=>h.elim
 | _::_,_::_,[],_,_,_,h=>h.elim
 | t::ts,v::vs,d::ds,_,ht,hp,⟨p,q,h1,h2,e⟩=>by
  subst e
  exact⟨p,q,Below.trod hl (ht t (by simp)).1 (ht t (by simp)).2 h1 hb (λx hx=>hp x (by simp[hx])),zf hl hb (λt h=>ht t (by simp[h])) (λx hx=>hp x (by simp[hx])) h2,rfl⟩
theorem P2 {f:Func} {s:ChangeSpec} {W W':World} {args:Array Value} {ds gs:List (DataW H)} {before:List MemPlace} {tb:TypeId}
  (hW:DataW.Whole enc P f.params.toList s.vars false W args.toList ds gs before) (hb:Below W.heap.size W W') (hl:laidOutB P=true)
  (hpar:(f.params.toList.all λt=>P.readableRec t&&decide (t<P.types.size))=true) (hvars:varsRowed P s.vars=true)
  (hres:f.resultTypes = #[tb]) (htb:P.underlying tb=some .bool)
  (hr:(s.fn H (ds++gs)).results=[.lit (.bool true)]) (ha:(s.fn H (ds++gs)).args=ds) (hv:(s.fn H (ds++gs)).vars=gs) :
  s.post enc P f false true false false W args (.bool true) W':=by
 have hlt:=hW.lt
 obtain⟨p,q,hA,hV,hpq,hfz,hnd⟩:=hW
 have hp:∀x ∈ p,x.block<W.heap.size:=λx hx=>by simpa using hlt x (by rw[hpq];simp[hx])
 refine⟨ds,gs,before,[],p,q,⟨p,q,hA,hV,hpq,hfz,hnd⟩, ?_, ?_, ?_,hb.frame _,λh=>by cases h⟩
 ·rw[hr,hres]
  refine⟨[],[],⟨1, ?_⟩,rfl,rfl⟩
  simp[Value.cells,DataW.trod,htb,Value.resultList]
 ·rw[ha]
  refine zf hl hb (λt ht => ?_) hp hA
  have:=(aw.1 hpar) t ht
  simpa using this
 ·rw[hv]
  exact Below.trodVars hl hb hvars hV
end
end Go.Proofs.Eng
namespace Go.Proofs.Eng
open Go.ChangeShapes Go.WideShapes Go.ChangeAt Go.RowKit
def mkE (ag:Bool) (x:List AV):AV:=if ag then .agg x else x.headD .unk
def isAgg (P:Program) (t:TypeId):Bool:=match P.underlying t with
 | some (.struct _)|some (.array _ _)=>true
 | _=>false
def Ba (P:Program):Nat->List Field->Nat->Bool
 | off,[],total=>off==total
 | off,f::fs,total=>f.offset==off&&Ba P (off+P.cellsOf f.type) fs total
def AV.Cn:AV->Bool
 | .agg _=>false
 | _=>true
def Au (l:List AV):Prop:=∀a ∈ l,a = .unk
def OfT (P:Program):Nat->TypeId->List AV->Prop
 | 0,_,_=>False
 | n+1,t,l=>
  match P.underlying t with
  | some .bool=>∃b,l=[.bool b]
  | some (.int k)=>∃i,l=[.v (.int k i)]/\(Lit.int k i).wf=true
  | some .string=>∃s:ByteArray,l=[.str s]/\s.size<=maxLen
  | some (.slice e)=>if 0<P.cellsOf e then ∃(xs:List (List AV)) (tl:Tl),l=[.sl (xs.map (mkE (isAgg P e))) tl]/\(tl = .al\/tl = .nil/\xs=[])/\xs.length<=maxLen /\ ∀x ∈ xs,OfT P n e x else l=[.unk]
  | some (.struct fs)=>if Ba P 0 fs.toList (P.cellsOf t)then ∃xs:List (List AV),l=xs.flatten/\xs.length=fs.toList.length /\ ∀(i:Nat) (f:Field) (x:List AV),fs.toList[i]? = some f->xs[i]? = some x->OfT P n f.type x else Au l
  | some (.array k e)=>if P.cellsOf t=k*P.cellsOf e then ∃xs:List (List AV),l=xs.flatten/\xs.length=k /\ ∀x ∈ xs,OfT P n e x else Au l
  | _=>Au l
section
variable {P:Program} {H:Type} {enc:TypeId × Value->H} {w:World} {base:Nat} {spare:Nat->Bool} {held:Bool}
abbrev G0:Gh:=Gh.empty λ_ _=>False
theorem Zc {b o:Nat} {c:Value} (h:w.cell? ⟨b,o,none⟩=some c):oi G0 ⟨[],[]⟩ w b o c:=⟨h,by simp[Gh.wr,Gh.empty]⟩
theorem Iv (cs:List Value):ga G0 ⟨[],[]⟩ w (cs.map λ_=>.unk) cs:=by
 refine⟨by simp,λk a c h1 h2 => ?_⟩
 rw[bh,h2]at h1
 cases h1
 exact .unk _
theorem Sc {l l':List AV} {cs cs':List Value} (h:ga G0 ⟨[],[]⟩ w l cs) (h':ga G0 ⟨[],[]⟩ w l' cs'):ga G0 ⟨[],[]⟩ w (l++l') (cs++cs'):=by
 refine⟨by simp[h.1,h'.1],λk a c h1 h2 => ?_⟩
 rcases dj k l.length with hk|hk
 ·rw[ae hk]at h1
  rw[ae (by rw[<- h.1];exact hk)]at h2
  exact h.2 k a c h1 h2
 ·rw[af hk]at h1
  rw[af (by rw[<- h.1];exact hk),<- h.1]at h2
  exact h'.2 _ a c h1 h2
theorem su:∀(xs:List (List AV)) (cs:List (List Value)),xs.length=cs.length->(∀(i:Nat) (x:List AV) (c:List Value),xs[i]? = some x->cs[i]? = some c->ga G0 ⟨[],[]⟩ w x c)->ga G0 ⟨[],[]⟩ w xs.flatten cs.flatten
 | [],[],_,_=>⟨rfl,λk a c h=>by simp at h⟩
 | [],_::_,h,_=>by simp at h
 | _::_,[],h,_=>by simp at h
 | x::xs,c::cs,h,hr=>by
  rw[List.flatten_cons,List.flatten_cons]
  exact Sc (hr 0 x c rfl rfl) (su xs cs (by simpa using h) λi y d h1 h2=>hr (i+1) y d (by simpa using h1) (by simpa using h2))
theorem zc:∀(fs:List Field) (off:Nat) (cs:List Value),Ba P off fs cs.length=true->(fs.map λf=>(cs.drop f.offset).take (P.cellsOf f.type)).flatten=cs.drop off
 | [],off,cs,h=>by
  simp only[Ba,beq_iff_eq]at h
  simp[h]
 | f::fs,off,cs,h=>by
  simp only[Ba,dy,beq_iff_eq]at h
  rw[bq,List.flatten_cons,zc fs _ cs h.2,h.1]
  have:=ck (P.cellsOf f.type) (cs.drop off)
  rw[List.drop_drop]at this
  exact this
theorem za (c:Nat):∀(n k:Nat) (cs:List Value),cs.length=(k+n)*c->((List.range' k n).map λi=>(cs.drop (i*c)).take c).flatten=cs.drop (k*c)
 | 0,k,cs,h=>by simp[h]
 | n+1,k,cs,h=>by
  rw[List.range'_succ,bq,List.flatten_cons,za c n (k+1) cs (by rw[h];congr 1;omega)]
  have:=ck c (cs.drop (k*c))
  rw[List.drop_drop,show k*c+c=(k+1)*c by rw[Nat.add_mul];simp]at this
  exact this
theorem Ac {α β:Type} {f:α->Option β}:∀{l:List α} {r:List β},l.mapM f=some r->r.length=l.length /\ ∀(i:Nat) (x:α),l[i]? = some x->f x=r[i]?
 | l,r,h=>⟨mapM_some_length h,λi x hx=>mapM_some_get h i x hx⟩
theorem ud {α β:Type} {R:Nat->α->β->Prop}:∀(l:List α),(∀(i:Nat) (x:α),l[i]? = some x -> ∃y,R i x y) -> ∃ys:List β,ys.length=l.length /\ ∀(i:Nat) (x:α) (y:β),l[i]? = some x->ys[i]? = some y->R i x y
 | [],_=>⟨[],rfl,λi x y h=>by simp at h⟩
 | a::l,h=>by
  obtain⟨y,hy⟩:=h 0 a rfl
  obtain⟨ys,h1,h2⟩:=ud (R:=λi=>R (i+1)) l λi x hx=>h (i+1) x (by simpa using hx)
  refine⟨y::ys,by simp[h1],λi x z hx hz => ?_⟩
  cases i with
  | zero=>simp at hx hz;subst hx;subst hz;exact hy
  | succ i=>exact h2 i x z (by simpa using hx) (by simpa using hz)
end
end Go.Proofs.Eng
namespace Go.Proofs.Eng
open Go.ChangeShapes Go.WideShapes Go.ChangeAt Go.RowKit
instance drF:DrK:=⟨False⟩
mutual
def AV.n:AV->Nat
 | .agg l=>AV.nL l+1
 | .sl l _=>AV.nL l
 | _=>0
def AV.nL:List AV->Nat
 | []=>0
 | a::l=>a.n+AV.nL l
end
mutual
def dn {H:Type}:DataW H->Nat
 | .ptr d=>dn d+1
 | .slice elems spare=>dnL elems+dnL spare+1
 | .agg parts=>dnL parts+1
 | _=>1
def dnL {H:Type}:List (DataW H)->Nat
 | []=>0
 | d::r=>dn d+dnL r
end
theorem zp {H:Type} (d:DataW H):1<=dn d:=by cases d<;>simp[dn]
theorem Wf:∀(a b:List AV),AV.nL (a++b)=AV.nL a+AV.nL b
 | [],b=>by simp[AV.nL]
 | x::a,b=>by rw[bn,AV.nL,AV.nL,Wf a b];omega
theorem Mj {α:Type}:∀l:List α,AV.nL (l.map λ_=>AV.unk)=0
 | []=>by simp[AV.nL]
 | x::l=>by rw[bq,AV.nL,Mj l];simp[AV.n]
theorem a1i (ag:Bool) (x:List AV):(mkE ag x).n<=AV.nL x+1:=by
 unfold mkE
 cases ag with
 | true=>rw[if_pos rfl,AV.n];exact di _
 | false=>
  rw[if_neg (by simp)]
  cases x with
  | nil=>simp[AV.n]
  | cons a x=>rw[List.headD_cons,AV.nL];omega
theorem Jj {H:Type} (ag:Bool):∀(xs:List (List AV)) (r:List (DataW H)),xs.length=r.length->(∀(i:Nat) (x:List AV) (d:DataW H),xs[i]? = some x->r[i]? = some d->AV.nL x+1<=dn d)->AV.nL (xs.map (mkE ag))<=dnL r
 | [],r,_,_=>by simp[AV.nL]
 | x::xs,[],h,_=>by simp at h
 | x::xs,d::r,h,k=>by
  have h1:=k 0 x d rfl rfl
  have h2:=Jj ag xs r (by simpa using h) λi y e h1 h2=>k (i+1) y e (by simpa using h1) (by simpa using h2)
  have h3:=a1i ag x
  rw[bq,AV.nL,dnL];omega
theorem Hw {H:Type}:∀(xs:List (List AV)) (r:List (DataW H)),xs.length=r.length->(∀(i:Nat) (x:List AV) (d:DataW H),xs[i]? = some x->r[i]? = some d->AV.nL x+1<=dn d)->AV.nL xs.flatten<=dnL r
 | [],r,_,_=>by simp[AV.nL]
 | x::xs,[],h,_=>by simp at h
 | x::xs,d::r,h,k=>by
  have h1:=k 0 x d rfl rfl
  have h2:=Hw xs r (by simpa using h) λi y e h1 h2=>k (i+1) y e (by simpa using h1) (by simpa using h2)
  rw[List.flatten_cons,Wf,dnL];omega
section
variable {P:Program} {H:Type} {enc:TypeId × Value->H} {w:World} {base:Nat} {spare:Nat->Bool} {held:Bool}
def Arg (P:Program) (w:World) (n:Nat) (t:TypeId) (cs:List Value) (k:Nat):Prop:=∃l,ga G0 ⟨[],[]⟩ w l cs/\OfT P n t l/\(isAgg P t=false -> ∃a,l=[a]/\a.Cn=true)/\AV.nL l+1<=k
theorem ue {n:Nat} {t:TypeId} {c:Value} {d:DataW H} (h:OfT P (n+1) t [.unk]):Arg P w (n+1) t [c] (dn d):=
 ⟨[.unk],ga.one (.unk c),h,λ_=>⟨.unk,rfl,rfl⟩,by simpa[AV.nL,AV.n]using zp d⟩
theorem C3 {a:Addr} {n:Nat} {cs:List Value} (h:w.cells? base a n=some cs):cs.length=n /\ ∀(i:Nat) (c:Value),cs[i]? = some c->w.cell? (a.add i)=some c:=by
 unfold World.cells? at h
 split at h
 ·obtain⟨h1,h2⟩:=Ac h
  rw[List.length_range]at h1
  refine⟨h1,λi c hc => ?_⟩
  have hlt:i<n:=by rw[<- h1];exact(List.getElem?_eq_some_iff.1 hc).1
  rw[h2 i i (de hlt)]
  exact hc
 ·cases h
theorem P7 {a:Addr} {c:Value} (h:w.cell? a=some c):a.spot=none:=by
 unfold World.cell? at h
 split at h
 ·split at h
  ·cases h
  ·rename_i h1;simpa using h1
 ·cases h
theorem P6 {ag:Bool} {x:List AV} (h:ag=false -> ∃a,x=[a]/\a.Cn=true):(mkE ag x).cells=x:=by
 unfold mkE
 cases ag with
 | true=>rfl
 | false=>
  obtain⟨a,rfl,ha⟩:=h rfl
  cases a<;>first|rfl|(simp[AV.Cn]at ha)
theorem Kr {ag:Bool}:∀{xs:List (List AV)},(∀x ∈ xs,ag=false -> ∃a,x=[a]/\a.Cn=true)->flat (xs.map (mkE ag))=xs.flatten
 | [],_=>rfl
 | x::xs,h=>by
  have:=Kr (ag:=ag) (xs:=xs) λy hy=>h y (by simp[hy])
  unfold flat at this ⊢
  rw[bq,List.flatMap_cons,List.flatten_cons,this,P6 (h x (by simp))]
theorem P4 {n:Nat} {e:TypeId} {a:Addr} {len cap:Nat} (hc:0<P.cellsOf e) (hl:len<=cap) (xs:List (List AV)) (cs:List (List Value)) (h1:xs.length=len) (h2:cs.length=len)
  (h:∀(i:Nat) (x:List AV) (c:List Value),xs[i]? = some x->cs[i]? = some c->w.cells? base (a.add (i*P.cellsOf e)) (P.cellsOf e)=some c/\ga G0 ⟨[],[]⟩ w x c/\(isAgg P e=false -> ∃a,x=[a]/\a.Cn=true)) :
  Rep G0 ⟨[],[]⟩ w (.sl (xs.map (mkE (isAgg P e))) .al) (.slice (some a) len cap):=by
 have hget:∀i,i<len -> ∃x c,xs[i]? = some x/\cs[i]? = some c:=λi hi=>⟨xs[i],cs[i],aa _,aa _⟩
 have hflat:flat (xs.map (mkE (isAgg P e)))=xs.flatten:=Kr λx hx=>by
  obtain⟨i,hi⟩:=c8 hx
  obtain⟨_,c,_,hc'⟩:=hget i (by rw[<- h1];exact(List.getElem?_eq_some_iff.1 hi).1)
  exact(h i x c hi hc').2.2
 have hrep:=su (w:=w) xs cs (by rw[h1,h2]) λi x c hx hc'=>(h i x c hx hc').2.1
 have hlen:∀(i:Nat) (c:List Value),cs[i]? = some c->c.length=P.cellsOf e:=λi c hc'=>by
  obtain⟨x,_,hx,_⟩:=hget i (by rw[<- h2];exact(List.getElem?_eq_some_iff.1 hc').1)
  exact(C3 (h i x c hx hc').1).1
 have hspot:0<len->a.spot=none:=λh0=>by
  obtain⟨x,c,hx,hc'⟩:=hget 0 h0
  have hcl:=C3 (h 0 x c hx hc').1
  have hlt:0<c.length:=by rw[hcl.1];exact hc
  have:=hcl.2 0 c[0] (aa hlt)
  simpa[Addr.add]using P7 this
 have hcell:∀(k:Nat) (c:Value),cs.flatten[k]? = some c->w.cell? ⟨a.block,a.off+k,none⟩=some c:=by
  have key:∀(l:List (List Value)) (i0:Nat),(∀(i:Nat) (c:List Value),l[i]? = some c->c.length=P.cellsOf e /\ ∀(j:Nat) (y:Value),c[j]? = some y->w.cell? ⟨a.block,a.off+((i0+i)*P.cellsOf e+j),none⟩=some y) -> ∀(k:Nat) (y:Value),l.flatten[k]? = some y->w.cell? ⟨a.block,a.off+(i0*P.cellsOf e+k),none⟩=some y:=by
   intro l
   induction l with
   | nil=>intro i0 _ k y hk;simp at hk
   | cons c l ih=>
    intro i0 hl k y hk
    obtain⟨h3,h4⟩:=hl 0 c rfl
    rw[List.flatten_cons]at hk
    rcases dj k c.length with hkl|hkl
    ·rw[ae hkl]at hk
     exact h4 k y hk
    ·rw[af hkl]at hk
     have:=ih (i0+1) (λi c' hc'=>by
      have:=hl (i+1) c' (by simpa using hc')
      rw[show i0+(i+1)=i0+1+i by omega]at this
      exact this) _ y hk
     rw[show i0*P.cellsOf e+k=(i0+1)*P.cellsOf e+(k-c.length) by rw[Nat.add_mul,h3];omega]
     exact this
  intro k c hk
  have:=key cs 0 (λi c' hc'=>⟨hlen i c' hc',λj y hy=>by
   have hi:i<len:=by rw[<- h2];exact(List.getElem?_eq_some_iff.1 hc').1
   obtain⟨x,_,hx,_⟩:=hget i hi
   have hcl:=(C3 (h i x c' hx hc').1).2 j y hy
   have hs:=hspot (by omega)
   rw[dp]
   have:(a.add (i*P.cellsOf e)).add j=⟨a.block,a.off+(i*P.cellsOf e+j),none⟩:=by
    unfold Addr.add
    obtain⟨b,o,sp⟩:=a
    simp only at hs
    subst hs
    by_cases e1:i*P.cellsOf e=0<;>by_cases e2:j=0<;>simp[e1,e2,dv]
   rw[this]at hcl
   exact hcl⟩) k c hk
  simpa using this
 refine .sl (b:=a.block) (o:=a.off) cs.flatten (by rw[hflat];exact hrep.1) (λk x c hx hc'=>hrep.2 k x c (by rw[<- hflat];exact hx) hc') (λk c hc'=>Zc (hcell k c hc')) (λhne => ?_) (by simp[h1]) hl (λ_ ad _ o=>by simp[Gh.wr,Gh.empty])
 have h0:0<len:=by
  rw[<- h1]
  cases xs with
  | nil=>simp at hne
  | cons _ _=>simp
 have:=hspot h0
 obtain⟨b,o,sp⟩:=a
 simp only at this
 subst this
 rfl
set_option maxHeartbeats 1000000 in
theorem Ad:∀(fuel:Nat) (t:TypeId) (cs:List Value) (d:DataW H) (ps:List MemPlace),DataW.trod enc P w base spare held fuel t cs=some (d,ps)->Arg P w fuel t cs (dn d)
 | 0,t,cs,d,ps,h=>by simp[DataW.trod]at h
 | fuel+1,t,cs,d,ps,h=>by
  unfold DataW.trod at h
  split at h
  ·rename_i hT
   exact⟨[_],ga.one (.v rfl),by simp[OfT,hT],λ_=>⟨_,rfl,rfl⟩,by simpa[AV.nL,AV.n]using zp d⟩
  ·rename_i k k' n hT
   split at h
   ·rename_i hk
    obtain⟨rfl,hwf⟩:=hk
    exact⟨[.v (.int k' n)],ga.one (.v rfl),by simp[OfT,hT,hwf],λ_=>⟨_,rfl,rfl⟩,by simpa[AV.nL,AV.n]using zp d⟩
   ·cases h
  ·rename_i hT;exact ue (by simp[OfT,hT,Au])
  ·rename_i s hT
   split at h
   ·rename_i hs
    exact⟨[.v (.string s)],ga.one (.v rfl),by simp only[OfT,hT];exact⟨s,rfl,hs⟩,λ_=>⟨_,rfl,rfl⟩,by simpa[AV.nL,AV.n]using zp d⟩
   ·cases h
  ·rename_i hT;exact ue (by simp[OfT,hT,Au])
  ·rename_i hT;exact ue (by simp[OfT,hT,Au])
  ·rename_i e hT
   by_cases hc:0<P.cellsOf e
   ·refine⟨[.sl [] .nil],ga.one (.sl (b:=0) (o:=0) [] rfl (λk a c h=>by simp[flat]at h) (λk c h=>by simp at h) (λh=>absurd rfl h) rfl (di _) ⟨rfl,rfl,rfl⟩), ?_,λ_=>⟨_,rfl,rfl⟩,by simpa[AV.nL,AV.n]using zp d⟩
    simp only[OfT,hT,if_pos hc]
    exact⟨[],.nil,rfl,.inr ⟨rfl,rfl⟩,by simp,by simp⟩
   ·exact ue (by simp only[OfT,hT,if_neg hc])
  ·rename_i e a len cap hT
   by_cases hc:0<P.cellsOf e
   ·simp only at h
    split at h
    ·rename_i kh
     cases hm:(List.range len).mapM λi=>(w.cells? base (a.add (i*P.cellsOf e)) (P.cellsOf e)).bind (DataW.trod enc P w base spare held fuel e)with
     | none=>rw[hm]at h;simp at h
     | some r=>
      obtain⟨h1,h2⟩:=Ac hm
      rw[List.length_range]at h1
      have hex:∀(i x:Nat),(List.range len)[i]? = some x -> ∃y:List AV × List Value,w.cells? base (a.add (i*P.cellsOf e)) (P.cellsOf e)=some y.2/\ga G0 ⟨[],[]⟩ w y.1 y.2/\OfT P fuel e y.1/\(isAgg P e=false -> ∃a,y.1=[a]/\a.Cn=true) /\ ∀z,r[i]? = some z->AV.nL y.1+1<=dn z.1:=by
       intro i x hx
       have hlt:i<len:=by simpa using (List.getElem?_eq_some_iff.1 hx).1
       have hxi:x=i:=by rw[de hlt]at hx;exact(Option.some.inj hx).symm
       subst hxi
       have h3:=h2 x x hx
       cases h4:w.cells? base (a.add (x*P.cellsOf e)) (P.cellsOf e)with
       | none=>
        rw[h4]at h3
        have:x<r.length:=by omega
        rw[aa this]at h3;cases h3
       | some c=>
        rw[h4]at h3
        have hlt':x<r.length:=by omega
        rw[aa hlt']at h3
        obtain⟨l,q1,q2,q3,q4⟩:=Ad fuel e c r[x].1 r[x].2 h3
        exact⟨(l,c),rfl,q1,q2,q3,λz hz=>by rw[aa hlt']at hz;cases hz;exact q4⟩
      obtain⟨ys,y1,y2⟩:=ud (R:=λi _ (y:List AV × List Value)=>w.cells? base (a.add (i*P.cellsOf e)) (P.cellsOf e)=some y.2/\ga G0 ⟨[],[]⟩ w y.1 y.2/\OfT P fuel e y.1/\(isAgg P e=false -> ∃a,y.1=[a]/\a.Cn=true) /\ ∀z,r[i]? = some z->AV.nL y.1+1<=dn z.1) (List.range len) hex
      rw[List.length_range]at y1
      have hy:∀(i:Nat) (y:List AV × List Value),ys[i]? = some y->w.cells? base (a.add (i*P.cellsOf e)) (P.cellsOf e)=some y.2/\ga G0 ⟨[],[]⟩ w y.1 y.2/\OfT P fuel e y.1/\(isAgg P e=false -> ∃a,y.1=[a]/\a.Cn=true) /\ ∀z,r[i]? = some z->AV.nL y.1+1<=dn z.1:=λi y hy=>y2 i i y (de (by rw[<- y1];exact(List.getElem?_eq_some_iff.1 hy).1)) hy
      refine⟨[.sl ((ys.map (·.1)).map (mkE (isAgg P e))) .al],ga.one (P4 (base:=base) (n:=fuel) hc kh.2.1 (ys.map (·.1)) (ys.map (·.2)) (by simp[y1]) (by simp[y1]) λi x c hx hc' => ?_), ?_,λ_=>⟨_,rfl,rfl⟩, ?_⟩
      ·rw[bh]at hx hc'
       cases hyi:ys[i]? with
       | none=>rw[hyi]at hx;simp at hx
       | some y=>
        rw[hyi]at hx hc'
        simp only[fh,fe]at hx hc'
        subst hx;subst hc'
        obtain⟨z1,z2,z3,z4,_⟩:=hy i y hyi
        exact⟨z1,z2,z4⟩
      ·simp only[OfT,hT,if_pos hc]
       refine⟨ys.map (·.1),.al,rfl,.inl rfl,by simp only[dg,y1];omega,λx hx => ?_⟩
       obtain⟨y,hy1,rfl⟩:=List.mem_map.1 hx
       obtain⟨i,hi⟩:=c8 hy1
       exact(hy i y hi).2.2.1
      ·rw[hm,Option.bind_some]at h
       obtain⟨rest,_,h⟩:=fi.1 h
       cases h
       rw[AV.nL,AV.nL,AV.n,dn]
       have:=Jj (H:=H) (isAgg P e) (ys.map (·.1)) (r.map (·.1)) (by simp[y1,h1]) λi x d hx hd=>by
        rw[bh,fi]at hx hd
        obtain⟨y,hyi,rfl⟩:=hx
        obtain⟨z,hz,rfl⟩:=hd
        exact(hy i y hyi).2.2.2.2 z hz
       omega
    ·cases h
   ·exact ue (by simp only[OfT,hT,if_neg hc])
  ·rename_i cs _ _ fs hT
   split at h
   ·rename_i hlen
    by_cases hc:Ba P 0 fs.toList (P.cellsOf t)=true
    ·cases hm:fs.toList.mapM λf=>DataW.trod enc P w base spare held fuel f.type ((cs.drop f.offset).take (P.cellsOf f.type))with
     | none=>rw[hm]at h;simp at h
     | some r=>
      obtain⟨h1,h2⟩:=Ac hm
      obtain⟨ys,y1,y2⟩:=ud (R:=λi (f:Field) (y:List AV)=>ga G0 ⟨[],[]⟩ w y ((cs.drop f.offset).take (P.cellsOf f.type))/\OfT P fuel f.type y /\ ∀z,r[i]? = some z->AV.nL y+1<=dn z.1) fs.toList (λi f hf=>by
       have h3:=h2 i f hf
       have hlt':i<r.length:=by rw[h1];exact(List.getElem?_eq_some_iff.1 hf).1
       rw[aa hlt']at h3
       obtain⟨l,q1,q2,q3,q4⟩:=Ad fuel f.type _ r[i].1 r[i].2 h3
       exact⟨l,q1,q2,λz hz=>by rw[aa hlt']at hz;cases hz;exact q4⟩)
      have hrep:=su (w:=w) ys (fs.toList.map λf=>(cs.drop f.offset).take (P.cellsOf f.type)) (by simp[y1]) λi x c hx hc'=>by
       rw[bh]at hc'
       cases hf:fs.toList[i]? with
       | none=>rw[hf]at hc';simp at hc'
       | some f=>
        rw[hf]at hc'
        simp only[fh,fe]at hc'
        subst hc'
        exact(y2 i f x hf hx).1
      rw[zc fs.toList 0 cs (by rw[hlen];exact hc),List.drop_zero]at hrep
      refine⟨ys.flatten,hrep, ?_,λhag=>by simp[isAgg,hT]at hag, ?_⟩
      ·simp only[OfT,hT,if_pos hc]
       exact⟨ys,rfl,y1,λi f x hf hx=>(y2 i f x hf hx).2.1⟩
      ·rw[hm]at h
       cases h
       rw[dn]
       have:=Hw (H:=H) ys (r.map (·.1)) (by simp[y1,h1]) λi x d hx hd=>by
        rw[bh,fi]at hd
        obtain⟨z,hz,rfl⟩:=hd
        have hlt:i<fs.toList.length:=by rw[<- y1];exact(List.getElem?_eq_some_iff.1 hx).1
        exact(y2 i _ x (aa hlt) hx).2.2 z hz
       omega
    ·refine⟨cs.map λ_=>.unk,Iv cs, ?_,λhag=>by simp[isAgg,hT]at hag,by rw[Mj];exact zp d⟩
     simp only[OfT,hT,if_neg hc]
     intro a ha
     obtain⟨_,_,e⟩:=List.mem_map.1 ha
     exact e.symm
   ·cases h
  ·rename_i cs _ _ k e hT
   split at h
   ·rename_i hlen
    by_cases hc:P.cellsOf t=k*P.cellsOf e
    ·cases hm:(List.range k).mapM λi=>DataW.trod enc P w base spare held fuel e ((cs.drop (i*P.cellsOf e)).take (P.cellsOf e))with
     | none=>rw[hm]at h;simp at h
     | some r=>
      obtain⟨h1,h2⟩:=Ac hm
      obtain⟨ys,y1,y2⟩:=ud (R:=λj (i:Nat) (y:List AV)=>ga G0 ⟨[],[]⟩ w y ((cs.drop (i*P.cellsOf e)).take (P.cellsOf e))/\OfT P fuel e y /\ ∀z,r[j]? = some z->AV.nL y+1<=dn z.1) (List.range k) (λi f hf=>by
       have h3:=h2 i f hf
       have hlt':i<r.length:=by rw[h1];exact(List.getElem?_eq_some_iff.1 hf).1
       rw[aa hlt']at h3
       obtain⟨l,q1,q2,q3,q4⟩:=Ad fuel e _ r[i].1 r[i].2 h3
       exact⟨l,q1,q2,λz hz=>by rw[aa hlt']at hz;cases hz;exact q4⟩)
      have hrep:=su (w:=w) ys ((List.range k).map λi=>(cs.drop (i*P.cellsOf e)).take (P.cellsOf e)) (by simpa using y1) λi x c hx hc'=>by
       rw[bh]at hc'
       cases hf:(List.range k)[i]? with
       | none=>rw[hf]at hc';simp at hc'
       | some f=>
        rw[hf]at hc'
        simp only[fh,fe]at hc'
        subst hc'
        exact(y2 i f x hf hx).1
      rw[List.range_eq_range',za (P.cellsOf e) k 0 cs (by rw[hlen,hc];simp)]at hrep
      simp only[Nat.zero_mul,List.drop_zero]at hrep
      refine⟨ys.flatten,hrep, ?_,λhag=>by simp[isAgg,hT]at hag, ?_⟩
      ·simp only[OfT,hT,if_pos hc]
       refine⟨ys,rfl,by simpa using y1,λx hx => ?_⟩
       obtain⟨i,hi⟩:=c8 hx
       have hlt:i<k:=by have:=(List.getElem?_eq_some_iff.1 hi).1;rw[y1]at this;simpa using this
       exact(y2 i i x (de hlt) hi).2.1
      ·rw[hm]at h
       cases h
       rw[dn]
       have:=Hw (H:=H) ys (r.map (·.1)) (by simp[y1,h1]) λi x d hx hd=>by
        rw[bh,fi]at hd
        obtain⟨z,hz,rfl⟩:=hd
        have hlt:i<k:=by have:=(List.getElem?_eq_some_iff.1 hx).1;rw[y1]at this;simpa using this
        exact(y2 i i x (de hlt) hx).2.2 z hz
       omega
    ·refine⟨cs.map λ_=>.unk,Iv cs, ?_,λhag=>by simp[isAgg,hT]at hag,by rw[Mj];exact zp d⟩
     simp only[OfT,hT,if_neg hc]
     intro a ha
     obtain⟨_,_,e⟩:=List.mem_map.1 ha
     exact e.symm
   ·cases h
  all_goals first
   | (cases h;done)
   | (rename_i hT;exact ue (by simp[OfT,hT,Au]))
   | (rename_i hT _;exact ue (by simp[OfT,hT,Au]))
   | (split at h<;>first|(cases h;done)|(rename_i hT _;exact ue (by simp[OfT,hT,Au])))
end
end Go.Proofs.Eng
namespace Go.Proofs.Eng
open Go.ChangeShapes Go.WideShapes Go.ChangeAt Go.RowKit
def Ks (P:Program):List TypeId->List AV->Prop
 | [],[]=>True
 | t::ts,a::ls=>(∃n l,a=mkE (isAgg P t) l/\OfT P n t l)/\Ks P ts ls
 | _,_=>False
section
variable {P:Program} {H:Type} {enc:TypeId × Value->H} {md:FuncId->Md} {pfs:FuncId->Option PF}
theorem M6 {w:World} {base:Nat} {t:TypeId} {v:Value} (h:Value.okWide P w .any base t v):if isAgg P t then ∃cs,v = .agg cs else v.cells = #[v]:=by
 unfold Value.okWide at h
 split at h
 ·rename_i hT;simp only[isAgg,hT,if_true];obtain⟨cs,h,_⟩:=h;exact⟨cs,h⟩
 ·rename_i hT;simp only[isAgg,hT,if_true];obtain⟨cs,h,_⟩:=h;exact⟨cs,h⟩
 ·rename_i h1 h2
  have hf:isAgg P t=false:=by
   unfold isAgg
   split
   ·rename_i fs hT;exact absurd hT (h1 fs)
   ·rename_i n e hT;exact absurd hT (h2 n e)
   ·rfl
  rw[hf]
  simp only[dz,if_false]
  cases v with
  | agg cs=>
   exfalso
   unfold Cell.okWide at h
   split at h<;>first
    | (rename_i hT hv;cases hv;done)
    | (unfold Cell.ok at h;split at h<;>first|exact h|(rename_i hT hv;cases hv;done))
  | _=>rfl
theorem Zv {w w':World} {base:Nat} {t:TypeId} {v:Value} {d:DataW H} {p:List MemPlace} (hv:Value.okWide P w' .any base t v) (h:DataW.Trod enc P w 0 (λ_=>true) true t v d p):∃a,Rep G0 ⟨[],[]⟩ w a v/\(∃n l,a=mkE (isAgg P t) l/\OfT P n t l)/\a.n<=dn d:=by
 obtain⟨fuel,h⟩:=h
 obtain⟨l,h1,h2,h3,h4⟩:=Ad _ _ _ _ _ h
 have hag:=M6 hv
 refine⟨mkE (isAgg P t) l, ?_,⟨fuel,l,rfl,h2⟩,dt (a1i _ _) h4⟩
 cases hx:isAgg P t with
 | true=>
  rw[hx]at hag
  simp only[if_true]at hag
  obtain⟨cs,rfl⟩:=hag
  exact .agg cs.toList h1.1 h1.2
 | false=>
  rw[hx]at hag
  simp only[dz,if_false]at hag
  obtain⟨a,rfl,_⟩:=h3 hx
  rw[hag]at h1
  exact h1.2 0 a v rfl rfl
theorem K3 {w w':World} {base:Nat}:∀{ts:List TypeId} {vs:List Value} {ds:List (DataW H)} {p:List MemPlace},(∀(j:Nat) (t:TypeId) (v:Value),ts[j]? = some t->vs[j]? = some v->Value.okWide P w' .any base t v)->DataW.TrodAll enc P w 0 (λ_=>true) true ts vs ds p -> ∃ls,ga G0 ⟨[],[]⟩ w ls vs/\Ks P ts ls/\ds.length=ts.length/\AV.nL ls<=dnL ds
 | [],[],[],_,_,h=>⟨[],ga.nil _ _ _,trivial,rfl,di _⟩
 | [],_::_,_,_,_,h=>h.elim
 | [],[],_::_,_,_,h=>h.elim
 | _::_,[],_,_,_,h=>h.elim
 | _::_,_::_,[],_,_,h=>h.elim
 | t::ts,v::vs,d::ds,_,hv,⟨p,q,h1,h2,e⟩=>by
  obtain⟨a,ha,hn,hz⟩:=Zv (hv 0 t v rfl rfl) h1
  obtain⟨ls,hl,ht,hd,hy⟩:=K3 (λj t v h h'=>hv (j+1) t v (by simpa using h) (by simpa using h')) h2
  exact⟨a::ls,ga.cons ha hl,⟨hn,ht⟩,by simp[hd],by rw[AV.nL,dnL];omega⟩
theorem Ja {w:World}:∀{ns:List String} {gs:List (DataW H)} {p:List MemPlace},DataW.TrodVars enc P w (λ_=>true) ns gs p->gs.length=ns.length
 | [],[],_,_=>rfl
 | [],_::_,_,h=>h.elim
 | _::_,[],_,h=>h.elim
 | _::ns,_::gs,_,h=>by
  obtain⟨_,_,_,_,_,_,_,_,_,_,h,_⟩:=h
  simp[Ja h]
theorem Cz (hm:P.follows .mixedOrders=true) (hP:xy P pfs) (hl:laidOutB P=true) {f:FuncId} {fn:Func} {s:ChangeSpec} {tb:TypeId}
  (hpar:(fn.params.toList.all λt=>P.readableRec t&&decide (t<P.types.size))=true) (hvars:varsRowed P s.vars=true) (hres:fn.resultTypes = #[tb]) (htb:P.underlying tb=some .bool)
  (hspec:∀ds gs:List (DataW H),ds.length=fn.params.toList.length->gs.length=s.vars.length->(s.fn H (ds++gs)).results=[.lit (.bool true)]/\(s.fn H (ds++gs)).args=ds/\(s.fn H (ds++gs)).vars=gs)
  {B:Nat} (Rq:∀ls:List AV,Ks P fn.params.toList ls->AV.nL ls<=B -> ∃s',run md pfs f ls ⟨[],[]⟩=some (.ret (.v (.bool true)),s'))
  {W:World} (hk:Kn W) {base:Nat} {args:Array Value} {ds gs:List (DataW H)} {before:List MemPlace}
  (hval:∀(j:Nat) t v,fn.params[j]? = some t->args[j]? = some v->Value.okWide P W .any base t v) (hW:DataW.Whole enc P fn.params.toList s.vars false W args.toList ds gs before) (hB:dnL ds<=B) :
  Calls P f args W λe W'=>∃v,e = .returned v/\s.post enc P fn false true false false W args v W':=by
 obtain⟨p,q,hA,hV,hrest⟩:=id hW
 obtain⟨ls,h1,h2,h3,h4⟩:=K3 (w':=W) (base:=base) (λj t v ht hv=>hval j t v (by simpa using ht) (by simpa using hv)) hA
 obtain⟨s',hs⟩:=Rq ls h2 (dt h4 hB)
 obtain⟨e1,e2,e3⟩:=hspec ds gs h3 (Ja hV)
 have:=Qb hm hP hs hk h1
 rw[show args.toList.toArray=args from dx]at this
 refine this.mono λe W' ⟨he,hb⟩=>⟨_,he, ?_⟩
 exact P2 hW hb hl hpar hvars hres htb e1 e2 e3
theorem I9 (hm:P.follows .mixedOrders=true) (hP:xy P pfs) (hl:laidOutB P=true) {f:FuncId} {fn:Func} {s:ChangeSpec} {tb:TypeId}
  (hpar:(fn.params.toList.all λt=>P.readableRec t&&decide (t<P.types.size))=true) (hvars:varsRowed P s.vars=true) (hres:fn.resultTypes = #[tb]) (htb:P.underlying tb=some .bool)
  (hspec:∀ds gs:List (DataW H),ds.length=fn.params.toList.length->gs.length=s.vars.length->(s.fn H (ds++gs)).results=[.lit (.bool true)]/\(s.fn H (ds++gs)).args=ds/\(s.fn H (ds++gs)).vars=gs)
  (Rq:∀ls:List AV,Ks P fn.params.toList ls -> ∃s',run md pfs f ls ⟨[],[]⟩=some (.ret (.v (.bool true)),s'))
  {W:World} (hk:Kn W) {base:Nat} {args:Array Value} {ds gs:List (DataW H)} {before:List MemPlace}
  (hval:∀(j:Nat) t v,fn.params[j]? = some t->args[j]? = some v->Value.okWide P W .any base t v) (hW:DataW.Whole enc P fn.params.toList s.vars false W args.toList ds gs before) :
  Calls P f args W λe W'=>∃v,e = .returned v/\s.post enc P fn false true false false W args v W':=
 Cz hm hP hl hpar hvars hres htb hspec (λls h _=>Rq ls h) hk hval hW (di _)
end
end Go.Proofs.Eng
namespace Go.Proofs.Eng
section
variable {md:FuncId->Md} {pfs:FuncId->Option PF} {f:FuncId} {args:List AV} {v:AV}
theorem wb (s:ASt):∀{l:List AV},gi l=true->il (gr 20 s) l=some l
 | [],_=>rfl
 | x::l,h=>by
  simp only[gi,dy]at h
  simp only[il,jh h.1,wb s h.2]
theorem D7 (s:ASt):∀{l:List AV},gi l=true->l.foldl (frz 20) s=s
 | [],_=>rfl
 | x::l,h=>by
  simp only[gi,dy]at h
  rw[dc,xh h.1,D7 s h.2]
theorem Dl {pm:Bool} {args:List AV} (h:gi args=true):zg pm args=args:=by simp[zg,h]
theorem mg {args:List AV}:zg false args=args:=by simp[zg]
end
end Go.Proofs.Eng
namespace Go.Proofs.Eng
section
variable {c:ia} {md:FuncId->Md} {i:PI} {l:List PI} {st:St} {v:AV} {s':ASt} {f:FuncId} {args:List AV}
variable {hd:List PI}
variable {lp:PC->St->Option (gg × St)} {a b:PC} {x:X} {r:Option (gg × St)} {st':St}
end
end Go.Proofs.Eng
