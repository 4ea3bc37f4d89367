/- The engine, seventeenth part: functions. No conditions. -/
import Derived.Test.YtflfmkkcnphdcaaGreatG2
import Derived.Recover
set_option linter.all false
set_option linter.deprecated false
set_option linter.unnecessarySimpa false
set_option linter.unusedVariables false
set_option linter.unusedSimpArgs false
set_option linter.defProp false
namespace Go.Proofs.Eng
open Go.RowKit
variable [DrK]
section
variable {P:Program} {call:ia} {md:FuncId->Md} {g:Gh} {s:ASt} {w:World}
def Bw (tmps:Array Value):ResultVar->Sem Value
 | .tmp t=>pure (tmps.getD t undef)
 | .cell b t=>do loadVar t (<- asAddr (tmps.getD b undef))
theorem Lr (fn:Func) (tmps:Array Value):results fn tmps=(do let vs <- fn.results.mapM (Bw tmps);pure (if h:vs.size=1 then vs[0]else .tuple vs)):=by
 unfold results
 congr
theorem xw {fn:Func} {rs:List PR} {tm:List AV} {l:List AV} {a:Act} (hr:il (Av P) fn.results.toList=some rs) (hl:ma tm s rs=some l) (hI:Inv g s w) (ht:ga g s w tm a.tmps.toList) :
  ∃v,(results fn a.tmps).run P w = .ok v w/\Rep g s w (oq l) v:=by
 have key:∀(vs:List ResultVar) (rs:List PR) (l:List AV),il (Av P) vs=some rs->ma tm s rs=some l ->
   ∃us:List Value,(vs.mapM (Bw a.tmps)).run P w = .ok us w/\ga g s w l us:=by
  intro vs
  induction vs with
  | nil=>
   intro rs l h1 h2
   simp only[il,fe]at h1;subst h1
   simp only[ma,fe]at h2;subst h2
   exact⟨[],by simp,.nil _ _ _⟩
  | cons r vs ih=>
   intro rs l h1 h2
   simp only[il]at h1
   split at h1
   ·rename_i y hy
    split at h1
    ·rename_i ys hys
     simp only[fe]at h1;subst h1
     have one:∀{u:Value} {av:AV} {l0:List AV},(Bw a.tmps r).run P w = .ok u w->Rep g s w av u->ma tm s ys=some l0->l=av::l0 ->
       ∃us:List Value,((r::vs).mapM (Bw a.tmps)).run P w = .ok us w/\ga g s w l us:=by
      intro u av l0 h3 h4 h5 h6
      obtain⟨us,h7,h8⟩:=ih ys l0 hys h5
      subst h6
      refine⟨u::us, ?_,.cons h4 h8⟩
      simp only[List.mapM_cons,Sem.run_bind,h3,Result.andThen_ok,h7,Sem.run_pure]
     cases r with
     | tmp t=>
      simp only[Av,fe]at hy;subst hy
      simp only[ma]at h2
      split at h2
      ·rename_i av l0 e1 e2
       simp only[fe]at h2
       obtain⟨c,hc,hrc⟩:=ht.get e1
       rw[Array.getElem?_toList]at hc
       exact one (u:=c) (by simp[Bw,Array.getD_eq_getD_getElem?,hc]) hrc e2 h2.symm
      ·simp at h2
     | cell b t=>
      simp only[Av]at hy
      obtain⟨⟨ag,n⟩,hA,rfl⟩:=fp hy
      simp only[ma]at h2
      split at h2
      ·rename_i av l0 e1 e2
       simp only[fe]at h2
       obtain⟨pv,e3,e4⟩:=nc e1
       obtain⟨c,hc,hrc⟩:=ht.get e3
       rw[Array.getElem?_toList]at hc
       obtain⟨u,hu,hru⟩:=Dq hI hA hrc e4
       have hc':a.tmps.getD b undef=c:=by simp[Array.getD_eq_getD_getElem?,hc]
       refine one (u:=u) ?_ hru e2 h2.symm
       simp only[Bw,hc',Sem.run_bind]
       cases hrc with
       | ptr h=>simpa[Instr.loadAt,Instr.sureAddr,asAddr]using hu
       | ip cs hn hr hc=>simpa[Instr.loadAt,Instr.sureAddr,asAddr]using hu
       | _=>simp[sf]at e4
      ·simp at h2
    ·simp at h1
   ·simp at h1
 obtain⟨us,h1,h2⟩:=key _ _ _ hr hl
 rw[Lr,Array.mapM_eq_mapM_toList]
 cases l with
 | nil=>
  have:us=[]:=by have:=h2.1;simpa using this.symm
  subst this
  refine⟨.tuple #[], ?_,.tup [] rfl (λk a c h=>by simp at h)⟩
  simp only[Sem.run_bind,Sem.run_map,h1,Result.andThen_ok,Sem.run_pure]
  rfl
 | cons x l=>
  obtain⟨u,us',rfl,hx,hr'⟩:=h2.cons_inv
  cases l with
  | nil=>
   have:us'=[]:=by have:=hr'.1;simpa using this.symm
   subst this
   refine⟨u, ?_,hx⟩
   simp only[Sem.run_bind,Sem.run_map,h1,Result.andThen_ok,Sem.run_pure]
   rfl
  | cons y l=>
   refine⟨.tuple (u::us').toArray, ?_,.tup _ h2.1 h2.2⟩
   obtain⟨u2,us2,rfl,_,_⟩:=hr'.cons_inv
   simp only[Sem.run_bind,Sem.run_map,h1,Result.andThen_ok,Sem.run_pure]
   simp
def x6 (g:Gh) (s:ASt) (w:World):Rc->FrameMode->Prop
 | .no,u=>u = .returning
 | .can v,u=>∃c,u = .panicking [{v:=c,recovered:=false}]/\Rep g s w v c
 | .did,u=>∃c,u = .panicking [{v:=c,recovered:=true}]
theorem x6.mono {g':Gh} {s':ASt} {w':World} (e:Ext g s w g' s' w') {rc:Rc} {u:FrameMode} (h:x6 g s w rc u):x6 g' s' w' rc u:=by
 cases rc with
 | no=>exact h
 | can v=>obtain⟨c,h1,h2⟩:=h;exact⟨c,h1,h2.mono e⟩
 | did=>exact h
theorem Q0 {bsf:Bf} {op:Op} (h:gv P bsf op=some .ug):∃ts,op = .call {callee:=.builtin .recover,args := #[],argTypes:=ts}:=by
 cases op
 case makeFunc fn first caps=>cases fn<;>simp only[gv]at h<;>((repeat' (split at h))<;>first|(simp at h;done)|(obtain⟨_,_,e⟩:=fp h;cases e))
 case makeMap t r=>cases r<;>simp only[gv]at h<;>((repeat' (split at h))<;>first|(simp at h;done)|(obtain⟨_,_,e⟩:=fp h;cases e))
 all_goals simp only[gv]at h
 case call c=>
  obtain⟨callee,args,ts⟩:=c
  cases callee with
  | value f=>
   simp only at h
   split at h
   ·(repeat' (split at h))<;>(obtain⟨y,_,e⟩:=fp h;cases e)
   ·split at h<;>simp at h
  | invoke r m=>simp at h
  | builtin b=>
   simp only at h
   split at h
   case h_6=>
    rename_i hy
    refine⟨ts, ?_⟩
    rw[<- dx (xs:=args),hy]
   all_goals (repeat' (split at h))<;>first|(simp at h;done)|(obtain⟨_,_,e⟩:=fp h;cases e)
 case «defer» c=>
  obtain⟨callee,args,ts⟩:=c
  cases callee<;>simp only at h<;>try (simp at h;done)
  split at h<;>simp at h
 all_goals (repeat' (split at h))<;>first|(simp at h;done)|(obtain⟨_,_,e⟩:=fp h;cases e)
def a47 (g:Gh) (s:ASt) (w:World) (ex:gg) (rc:Rc) (st':St) (c0:Frame) (cs:List Frame) (Q:Exit->Act->List Frame->World->Prop):Prop:=
 ∀g' a' w' e u',Ext g s w g' st'.s w'->jv g' w' st' a'->O5 g' st'.s w' ex e->x6 g' st'.s w' rc u'->Q e a' ({c0 with mode:=u'}::cs) w'
theorem vq {bsf:Bf} (hS:Sound P call) {ops:Array Oper} {c0:Frame} {cs:List Frame}:∀(l:List PI) (k:Nat) (rc rc':Rc) (st:St) (a:Act) (g:Gh) (w:World) (ex:gg) (st':St) (u:FrameMode) (Q:Exit->Act->List Frame->World->Prop),
    Bg P bsf ops k l->oy call md l rc st=some (ex,rc',st')->jv g w st a->x6 g st.s w rc u->a47 g st.s w ex rc' st' c0 cs Q->wpOpsS P ops Q (List.range' k l.length) a ({c0 with mode:=u}::cs) w
  | [],k,rc,rc',st,a,g,w,ex,st',u,Q,_,hs,hR,hrc,hQ=>by
    simp only[oy,fe,ff]at hs
    obtain⟨rfl,rfl,rfl⟩:=hs
    exact hQ g a w .normal u (.refl _ _ _) hR trivial hrc
  | i::l,k,rc,rc',st,a,g,w,ex,st',u,Q,hp,hs,hR,hrc,hQ=>by
    obtain⟨o,ho,h1,h2,h3⟩:=hp 0 i rfl
    have hp':Bg P bsf ops (k+1) l:=λj i' hj=>by
      obtain⟨o',ho',r⟩:=hp (j+1) i' (by simpa using hj)
      exact⟨o',by rw[<- ho'];congr 1;omega,r⟩
    rw[Nat.add_zero]at ho
    simp only[ak,List.range'_succ,wpOpsS,ho]
    have QF:∀{g':Gh} {st1:St} {w':World},Ext g st.s w g' st1.s w'->a47 g' st1.s w' ex rc' st' c0 cs Q:=λe g'' a'' w'' e'' u'' hE hR hx hu=>hQ g'' a'' w'' e'' u'' (e.trans hE) hR hx hu
    simp only[oy]at hs
    split at hs
    · rename_i hop hgd
      rw[hop]at h3
      obtain⟨ts,hoo⟩:=Q0 h3
      have hwt:Region.wanted o (yielded ops a.tmps)=true:=by
        rw[hgd]at h2
        exact pk h2 rfl hR.tm
      rw[if_pos hwt]
      have hrun:(execOp a.eval o).run P w = .ok .recover w:=by simp[execOp,hoo,resolve,invoke,builtin]
      rw[hrun]
      simp only
      cases rc with
      | can v=>
        obtain⟨c,rfl,hc⟩:=hrc
        simp only at hs
        simp only[recoverD]
        exact vq hS l (k+1) .did rc' _ _ g w ex st' _ Q hp' hs ⟨hR.inv,by rw[<- h1];exact oa hR.tm hc i.dst,by rw[put_defers];exact hR.df⟩ ⟨c,rfl⟩ hQ
      | no=>
        have hu:u = .returning:=hrc
        subst hu
        simp only at hs
        simp only[recoverD]
        exact vq hS l (k+1) .no rc' _ _ g w ex st' _ Q hp' hs ⟨hR.inv,by rw[<- h1];exact oa hR.tm (.v rfl) i.dst,by rw[put_defers];exact hR.df⟩ rfl hQ
      | did=>
        obtain⟨c,rfl⟩:=hrc
        simp only at hs
        simp only[recoverD]
        exact vq hS l (k+1) .did rc' _ _ g w ex st' _ Q hp' hs ⟨hR.inv,by rw[<- h1];exact oa hR.tm (.v rfl) i.dst,by rw[put_defers];exact hR.df⟩ ⟨c,rfl⟩ hQ
    · have main:∀ex1 st1,iw call md false i st=some (ex1,st1)->(ex1 = .normal->oy call md l rc st1=some (ex,rc',st'))->((ex1 = .normal->False)->(ex1,rc,st1)=(ex,rc',st')) ->
          (if Region.wanted o (yielded ops a.tmps)=true then o.wp P a w (λa' w'=>wpOpsS P ops Q (List.range' (k+1) l.length) a' ({c0 with mode:=u}::cs) w') (λe a' w'=>Q e a' ({c0 with mode:=u}::cs) w')else wpOpsS P ops Q (List.range' (k+1) l.length) (a.put o.dst undef) ({c0 with mode:=u}::cs) w):=by
        intro ex1 st1 h4 hn hx
        exact o8 hS h1 h2 h3 h4 hR (K:=λa' w'=>wpOpsS P ops Q (List.range' (k+1) l.length) a' ({c0 with mode:=u}::cs) w') (Q:=λe a' w'=>Q e a' ({c0 with mode:=u}::cs) w')
          (λe g' a' w' hE hR' _=>vq hS l (k+1) rc rc' st1 a' g' w' ex st' u Q hp' (hn e) hR' (hrc.mono hE) (QF hE))
          (λv e g' a' w' uu hE hR' hu=>by
            subst e
            have:=hx (by simp)
            cases this
            exact hQ g' a' w' _ u hE hR' ⟨uu,rfl,hu⟩ (hrc.mono hE))
      have fin:(if Region.wanted o (yielded ops a.tmps)=true then o.wp P a w (λa' w'=>wpOpsS P ops Q (List.range' (k+1) l.length) a' ({c0 with mode:=u}::cs) w') (λe a' w'=>Q e a' ({c0 with mode:=u}::cs) w')else wpOpsS P ops Q (List.range' (k+1) l.length) (a.put o.dst undef) ({c0 with mode:=u}::cs) w):=by
        cases h4:iw call md false i st with
        | none=>rw[h4]at hs;simp at hs
        | some r=>
          obtain⟨ex1,st1⟩:=r
          rw[h4]at hs
          refine main ex1 st1 h4 (λe=>by subst e;exact hs) (λe => ?_)
          cases ex1 with
          | normal=>exact absurd rfl e
          | exit i=>simpa using hs
          | ret=>simpa using hs
          | pan v=>simpa using hs
      split
      · rename_i hwt
        rw[if_pos hwt]at fin
        unfold Oper.wp at fin
        split
        · rename_i w' hrun
          rw[hrun]at fin
          exact fin.elim
        · exact fin
      · rename_i hwt
        rw[if_neg hwt]at fin
        exact fin
theorem y8 {bsf:Bf} (hS:Sound P call) {c0:Frame} {cs:List Frame}:∀(c:Code) (pc:PC),ik P bsf c=some pc -> ∀(rc rc':Rc) (st st':St) (ex:gg) (a:Act) (g:Gh) (w:World) (u:FrameMode) (Q:Exit->Act->List Frame->World->Prop),
  nk call md pc rc st=some (ex,rc',st')->jv g w st a->x6 g st.s w rc u->a47 g st.s w ex rc' st' c0 cs Q->c.wpS P Q a ({c0 with mode:=u}::cs) w
 | .skip,pc,hp=>by
  simp only[ik,fe]at hp;subst hp
  intro rc rc' st st' ex a g w u Q hs hR hrc hQ
  simp only[nk,fe,ff]at hs
  obtain⟨rfl,rfl,rfl⟩:=hs
  exact wpS_of_wp (wp_skip (hQ g a w .normal u (.refl _ _ _) hR trivial hrc))
 | .region id ops d,pc,hp=>by
  intro rc rc' st st' ex a g w u Q hs hR hrc hQ
  cases d with
  | false=>
   simp only[ik]at hp
   obtain⟨l,hl,rfl⟩:=fp hp
   obtain⟨h1,h2⟩:=yn hl
   simp only[nk]at hs
   refine wpS_region ?_
   have:=vq hS l 0 rc rc' st a g w ex st' u Q h1 hs hR hrc hQ
   rwa [h2,<- List.range_eq_range']at this
  | true=>
   simp only[ik]at hp
   exfalso
   obtain⟨_,_,rfl⟩:=qi hp
   simp[nk]at hs
 | .seq x y,pc,hp=>by
  simp only[ik]at hp
  split at hp
  ·rename_i px py hx hy
   simp only[fe]at hp;subst hp
   intro rc rc' st st' ex a g w u Q hs hR hrc hQ
   simp only[nk]at hs
   cases h1:nk call md px rc st with
   | none=>rw[h1]at hs;simp at hs
   | some r=>
    obtain⟨ex1,rc1,st1⟩:=r
    rw[h1]at hs
    refine wpS_seq (y8 hS (c0:=c0) (cs:=cs) x px hx rc rc1 st st1 ex1 a g w u _ h1 hR hrc λg' a' w' e u' hE hR' hx' hrc' => ?_)
    cases ex1 with
    | normal=>
     cases e<;>first|exact hx'.elim|skip
     exact y8 hS y py hy rc1 rc' st1 st' ex a' g' w' u' Q hs hR' hrc' λg'' a'' w'' e'' u'' hE' hR'' hx'' hu''=>hQ g'' a'' w'' e'' u'' (hE.trans hE') hR'' hx'' hu''
    | exit i=>simp only[fe,ff]at hs;obtain⟨rfl,rfl,rfl⟩:=hs;cases e<;>first|exact hx'.elim|exact hQ g' a' w' _ u' hE hR' hx' hrc'
    | ret=>simp only[fe,ff]at hs;obtain⟨rfl,rfl,rfl⟩:=hs;cases e<;>first|exact hx'.elim|exact hQ g' a' w' _ u' hE hR' hx' hrc'
    | pan v=>simp only[fe,ff]at hs;obtain⟨rfl,rfl,rfl⟩:=hs;cases e<;>first|exact hx'.elim|exact hQ g' a' w' _ u' hE hR' hx' hrc'
  ·simp at hp
 | .cond c x y,pc,hp=>by
  simp only[ik]at hp
  split at hp
  ·rename_i pcnd px py hc hx hy
   simp only[fe]at hp;subst hp
   intro rc rc' st st' ex a g w u Q hs hR hrc hQ
   simp only[nk]at hs
   split at hs
   ·rename_i h1
    exact wpS_cond (t:=true) (fx hc h1 hR.tm).qc (y8 hS x px hx rc rc' st st' ex a g w u Q hs hR hrc hQ)
   ·rename_i h1
    exact wpS_cond (t:=false) (fx hc h1 hR.tm).qc (y8 hS y py hy rc rc' st st' ex a g w u Q hs hR hrc hQ)
   ·simp at hs
  ·simp at hp
 | .ret,pc,hp=>by
  simp only[ik,fe]at hp;subst hp
  intro rc rc' st st' ex a g w u Q hs hR hrc hQ
  simp only[nk,fe,ff]at hs
  obtain⟨rfl,rfl,rfl⟩:=hs
  exact wpS_of_wp (wp_ret (hQ g a w .ret u (.refl _ _ _) hR trivial hrc))
 | .block id b,pc,hp=>by
  simp only[ik]at hp
  obtain⟨pb,hb,rfl⟩:=fp hp
  intro rc rc' st st' ex a g w u Q hs
  simp[nk]at hs
 | .loop b,pc,hp=>by
  simp only[ik]at hp
  obtain⟨pb,hb,rfl⟩:=fp hp
  intro rc rc' st st' ex a g w u Q hs
  simp[nk]at hs
 | .exit id,pc,hp=>by
  simp only[ik,fe]at hp;subst hp
  intro rc rc' st st' ex a g w u Q hs
  simp[nk]at hs
 | .rangeFunc ..,pc,hp=>by simp[ik]at hp
 | .scope _,pc,hp=>by simp[ik]at hp
 | .label _,pc,hp=>by simp[ik]at hp
 | .goto _,pc,hp=>by simp[ik]at hp
 | .refuse _,pc,hp=>by simp[ik]at hp
def Kl (P:Program) (f:FuncId) (o:List AV->ASt->Option (AV × ASt)):Prop:=
 ∀args s v s',o args s=some (v,s')->Fits P f /\ ∀g w vs,Inv g s w->ga g s w args vs ->
  Calls P f vs.toArray w λe w'=>∃g',Inv g' s' w'/\Ext g s w g' s' w'/\qk g' s' w' (.ret v) e
def xy (P:Program) (pfs:FuncId->Option PF):Prop:=∀f pf,pfs f=some pf->(∃bsf,Fo P bsf f=some pf)\/(∃o,pf.body = .ora o/\Kl P f o) \/ ∃bsf,Kt P bsf/\Bm P bsf f=some pf/\pf.body.qo=true
theorem wk {bsf:Bf} {f:FuncId} {pf:PF} (h:Fo P bsf f=some pf):∃fn c,P.funcs[f]? = some fn/\fn.body=some c/\(fn.name == "runtime.NumGoroutine")=false/\il (Av P) fn.results.toList=some pf.res/\ik P bsf c=some pf.body/\pf.nt=fn.ntmps:=by
 unfold Fo at h
 split at h
 ·rename_i fn hf
  split at h
  ·rename_i c hc
   split at h
   ·rename_i r b hr hb
    split at h
    ·simp at h
    ·rename_i hn
     simp only[fe]at h;subst h
     exact⟨fn,c,hf,hc,by simpa using hn,hr,hb,rfl⟩
   ·simp at h
  ·simp at h
 ·simp at h
theorem Be {args:List AV} {vs:List Value} {nt:Nat} (hr:ga g s w args vs):ga g s w (args++List.replicate (nt-args.length) .undef) (vs.toArray++Array.replicate (nt-vs.toArray.size) undef).toList:=by
 have:(vs.toArray++Array.replicate (nt-vs.toArray.size) undef).toList=vs++List.replicate (nt-args.length) undef:=by simp[hr.1]
 rw[this]
 exact hr.append (ga.replicate Rep.undef _)
theorem Qp {rc:Rc} {u:FrameMode} (h:x6 g s w rc u):x6 g s w (K6 (B5 rc)) (settle u):=by
 cases rc with
 | no=>have:u = .returning:=h;subst this;rfl
 | can v=>obtain⟨c,rfl,h2⟩:=h;exact⟨c,rfl,h2⟩
 | did=>obtain⟨c,rfl⟩:=h;rfl
theorem A7 (hS:Sound P call) {pfs:FuncId->Option PF} (hP:xy P pfs) {fn:Func} {a:Act} {R:Ending->World->Prop} :
  ∀(df:List (FuncId × List AV)) (ds:List Deferred) (p p':Option AV) (s s':ASt) (g:Gh) (w:World) (u:FrameMode),jy call md pfs df p s=some (p',s')->Inv g s w->Ge g s w df ds->x6 g s w (K6 p) u ->
   (∀g' w' u',Inv g' s' w'->Ext g s w g' s' w'->x6 g' s' w' (K6 p') u'->Leaves P fn a.tmps R [] u' w')->Leaves P fn a.tmps R ds u w
 | [],ds,p,p',s,s',g,w,u,h,hI,hd,hu,hK=>by
  simp only[jy,fe,ff]at h
  obtain⟨rfl,rfl⟩:=h
  have:ds=[]:=hd
  subst this
  exact hK g w u hI (.refl _ _ _) hu
 | (f,args)::df,ds,p,p',s,s',g,w,u,h,hI,hd,hu,hK=>by
  obtain⟨as,cap,ds',rfl,hr,hd'⟩:=hd
  simp only[jy]at h
  split at h
  ·rename_i pf hpf
   split at h
   ·simp at h
   rename_i hnq
   obtain⟨bsf,hprep⟩:∃bsf,Fo P bsf f=some pf:=by
    rcases hP f pf hpf with h1|⟨o,ho,_⟩|⟨bsf,_,_,hq⟩
    ·exact h1
    ·rw[ho]at h;simp[nk]at h
    ·exact absurd hq hnq
   obtain⟨fnd,c,hf,hb,hn,hres,hc,hnt⟩:=wk hprep
   have hfit:Fits P f:=⟨fnd,c,hf,hb,hn⟩
   have hune:u ≠ .run:=by
    cases p with
    | none=>have:u = .returning:=hu;rw[this];simp
    | some v=>obtain⟨c,rfl,_⟩:=hu;simp
   refine leaves_cons (f:=f) (args:=(as++cap).toArray) hune ?_ ?_
   ·have:=hfit.callFunc (as++cap).toArray w
    simpa[invoke]using this
   ·generalize hst0:({tm:=args++List.replicate (pf.nt-args.length) .undef,df:=[],s:=s}:St)=st0 at h
    have hRst:jv g w st0 {tmps:=(as++cap).toArray++Array.replicate (fnd.ntmps-(as++cap).toArray.size) undef,defers:=[]}:=by
     rw[<- hst0,hnt]
     exact⟨hI,Be hr,rfl⟩
    have hs0:st0.s=s:=by rw[<- hst0]
    have main:∀ex rc1 st1,nk call md pf.body (K6 p) st0=some (ex,rc1,st1)->(ex = .ret\/ex = .normal)->st1.df=[]->(∃l,ma st1.tm st1.s pf.res=some l)->jy call md pfs df (B5 rc1) st1.s=some (p',s') ->
      CallsD P f (as++cap).toArray u w λ
       | .returned _,u',w'=>Leaves P fn a.tmps R ds' (settle u') w'
       | .panicked chain,u',w'=>Leaves P fn a.tmps R ds' (raised u' chain) w'
       | .outgrown,_,w'=>R .outgrown w':=by
     intro ex rc1 st1 hex hexr hdf hresA hrest
     refine callsD_of_wpS hf hb λc0 cs hc0 => ?_
     have hc0':({c0 with mode:=u}:Frame)=c0:=by subst hc0;rfl
     have:=y8 hS (c0:=c0) (cs:=cs) c pf.body hc _ rc1 st0 st1 ex _ g w u (bodyPostS P fnd c0 cs λ
       | .returned _,u',w'=>Leaves P fn a.tmps R ds' (settle u') w'
       | .panicked chain,u',w'=>Leaves P fn a.tmps R ds' (raised u' chain) w'
       | .outgrown,_,w'=>R .outgrown w') hex hRst (by rw[hs0];exact hu) (by
      intro g' a' w' e u' hE hR' hx hrc'
      obtain⟨l,hl⟩:=hresA
      obtain⟨v,hv,_⟩:=xw (a:=a') hres hl hR'.inv hR'.tm
      have hdf':a'.defers=[]:=by have:=hR'.df;rw[hdf]at this;exact this
      rw[hs0]at hE
      have rest:=A7 hS hP (fn:=fn) (a:=a) (R:=R) df ds' (B5 rc1) p' st1.s s' g' w' (settle u') hrest hR'.inv (hd'.mono hE) (Qp hrc') λg'' w'' u'' h1 h2 h3=>hK g'' w'' u'' h1 (hE.trans h2) h3
      rcases hexr with rfl|rfl
      ·cases e<;>first|exact hx.elim|skip
       exact⟨hdf',u',rfl,v,hv,rest⟩
      ·cases e<;>first|exact hx.elim|skip
       exact⟨hdf',u',rfl,v,hv,rest⟩)
     rwa [hc0']at this
    split at h
    ·rename_i rc1 st1 hex
     split at h
     ·rename_i hcnd
      simp only[dy,List.isEmpty_iff,Option.isSome_iff_exists]at hcnd
      exact main _ rc1 st1 hex (.inl rfl) hcnd.1 hcnd.2 h
     ·simp at h
    ·rename_i rc1 st1 hex
     split at h
     ·rename_i hcnd
      simp only[dy,List.isEmpty_iff,Option.isSome_iff_exists]at hcnd
      exact main _ rc1 st1 hex (.inr rfl) hcnd.1 hcnd.2 h
     ·simp at h
    ·simp at h
  ·simp at h
theorem Ii (hS:Sound P call) {pfs:FuncId->Option PF} (hP:xy P pfs) {fn:Func} {res:List PR} {st:St} {p:Option AV} {out:jx} {s':ASt} (hres:il (Av P) fn.results.toList=some res) (h:jw call md pfs res st p=some (out,s')) {a:Act} {u:FrameMode} (hR:jv g w st a)
  (hu:x6 g st.s w (K6 p) u):Leaves P fn a.tmps (λe w'=>∃g',Inv g' s' w'/\Ext g st.s w g' s' w'/\qk g' s' w' out e) a.defers u w:=by
 have key:∀p' s1,jy call md pfs st.df p st.s=some (p',s1)->(match p' with|none=>(ma st.tm s1 res).map λl=>(jx.ret (oq l),s1)|some v=>some (.pan v,s1))=some (out,s') ->
   Leaves P fn a.tmps (λe w'=>∃g',Inv g' s' w'/\Ext g st.s w g' s' w'/\qk g' s' w' out e) a.defers u w:=by
  intro p' s1 hun hout
  refine A7 hS hP st.df a.defers p p' st.s s1 g w u hun hR.inv hR.df hu λg' w' u' h1 h2 h3 => ?_
  cases p' with
  | none=>
   have:u' = .returning:=h3
   subst this
   obtain⟨l,hl,e⟩:=fp hout
   cases e
   obtain⟨v,hv,hr⟩:=xw (a:=a) hres hl h1 (hR.tm.mono h2)
   exact⟨v,hv,g',h1,h2,hr⟩
  | some v=>
   obtain⟨c,rfl,hc⟩:=h3
   simp only[fe,ff]at hout
   obtain⟨rfl,rfl⟩:=hout
   exact⟨g',h1,h2,c,rfl,hc⟩
 unfold jw at h
 split at h
 ·exact key none st.s (by rename_i hdf;rw[hdf];rfl) h
 ·rename_i v hdf
  exact key (some v) st.s (by rw[hdf];rfl) h
 ·split at h
  ·rename_i s1 hun;exact key none s1 hun h
  ·rename_i v s1 hun;exact key (some v) s1 hun h
  ·simp at h
theorem Ml (hS:Sound P call) (hD:∀bsf,mo P bsf call md) {pfs:FuncId->Option PF} (hP:xy P pfs) {F:Nat} {f:FuncId} {pf:PF} (hpf:pfs f=some pf) (hno:pf.body.J5=none) (hnq:pf.body.qo=false) {args:List AV} {out:jx} {s s':ASt} (h:uz call md pfs F pf args s=some (out,s')) :
  Fits P f /\ ∀g w vs,Inv g s w->ga g s w args vs->Calls P f vs.toArray w λe w'=>∃g',Inv g' s' w'/\Ext g s w g' s' w'/\qk g' s' w' out e:=by
 obtain⟨bsf,hprep⟩:∃bsf,Fo P bsf f=some pf:=by
  rcases hP f pf hpf with h1|⟨o,ho,_⟩|⟨bsf,_,_,hq⟩
  ·exact h1
  ·rw[ho]at hno;cases hno
  ·rw[hnq]at hq;cases hq
 obtain⟨fn,c,hf,hb,hn,hres,hc,hnt⟩:=wk hprep
 refine⟨⟨fn,c,hf,hb,hn⟩,λg w vs hI hr => ?_⟩
 refine calls_of_wp_defers hf hb ?_
 unfold uz at h
 simp only[hnq,ej,dz,if_false]at h
 generalize hst0:({tm:=args++List.replicate (pf.nt-args.length) .undef,df:=[],s:=s}:St)=st0 at h
 have hRst:jv g w st0 {tmps:=vs.toArray++Array.replicate (fn.ntmps-vs.toArray.size) undef,defers:=[]}:=by
  rw[<- hst0,hnt]
  exact⟨hI,Be hr,rfl⟩
 have hs0:st0.s=s:=by rw[<- hst0]
 have fin:∀{st:St} {p:Option AV} {g':Gh} {a':Act} {w':World} {u:FrameMode},jw call md pfs pf.res st p=some (out,s')->Ext g st0.s w g' st.s w'->jv g' w' st a'->x6 g' st.s w' (K6 p) u ->
   Leaves P fn a'.tmps (λe w'=>∃g',Inv g' s' w'/\Ext g s w g' s' w'/\qk g' s' w' out e) a'.defers u w':=by
  intro st p g' a' w' u hl hE hR' hu
  have:=Ii hS hP hres hl hR' hu
  have mono:∀{R R':Ending->World->Prop},(∀e w,R e w->R' e w) -> ∀(ds:List Deferred) (u:FrameMode) (w:World),Leaves P fn a'.tmps R ds u w->Leaves P fn a'.tmps R' ds u w:=by
   intro R R' hRR ds
   induction ds with
   | nil=>
    intro u w h
    cases u with
    | run=>exact h
    | returning=>obtain⟨v,h1,h2⟩:=h;exact⟨v,h1,hRR _ _ h2⟩
    | panicking ch=>exact hRR _ _ h
   | cons d ds ih=>
    intro u w h
    obtain⟨h1,fv,cap,f,args,h2,h3,h4⟩:=h
    refine⟨h1,fv,cap,f,args,h2,h3,h4.mono ?_⟩
    intro e u' w' he
    cases e with
    | returned v=>exact ih _ _ he
    | panicked ch=>exact ih _ _ he
    | outgrown=>exact hRR _ _ he
  rw[hs0]at hE
  exact mono (λe w'' ⟨g'',h1,h2,h3⟩=>⟨g'',h1,hE.trans h2,h3⟩) _ _ _ this
 cases hex:exec call md F pf.body st0 with
 | none=>rw[hex]at h;simp at h
 | some r=>
  obtain⟨ex,st⟩:=r
  rw[hex]at h
  refine Lt hS (hD bsf) F hc st0 st ex _ g w _ hex hRst λg' a' w' e hE hR' hx => ?_
  cases ex with
  | ret=>
   cases e<;>first|exact hx.elim|skip
   exact fin (p:=none) h hE hR' rfl
  | normal=>
   cases e<;>first|exact hx.elim|skip
   exact fin (p:=none) h hE hR' rfl
  | pan v=>
   cases e<;>first|exact hx.elim|skip
   obtain⟨u,rfl,hu⟩:=hx
   exact fin (p:=some v) h hE hR' ⟨u,rfl,hu⟩
  | exit id=>simp at h
theorem Pe {bsf:Bf} {c:Code} {pc:PC} (h:ik P bsf c=some pc):pc.J5=none:=by
 cases c with
 | region id ops d=>
  cases d with
  | false=>simp only[ik]at h;obtain⟨_,_,rfl⟩:=fp h;rfl
  | true=>
   simp only[ik]at h
   obtain⟨_,_,rfl⟩:=qi h
   rfl
 | _=>
  unfold ik at h
  repeat' split at h
  all_goals first
   | (cases h;rfl)
   | (obtain⟨_,_,rfl⟩:=fp h;rfl)
   | (cases h;done)
theorem ym {bsf:Bf}:∀{c:Code} {pc:PC},ik P bsf c=some pc->pc.qo=false
 | .skip,pc,h=>by simp only[ik,fe]at h;subst h;rfl
 | .region id ops d,pc,h=>by
  cases d with
  | false=>simp only[ik]at h;obtain⟨_,_,rfl⟩:=fp h;rfl
  | true=>
   simp only[ik]at h
   obtain⟨_,_,rfl⟩:=qi h
   rfl
 | .seq a b,pc,h=>by
  simp only[ik]at h
  split at h
  ·rename_i pa pb ha hb
   cases h
   simp only[PC.qo,ym ha,ym hb,Bool.or_self]
  ·cases h
 | .cond c a b,pc,h=>by
  simp only[ik]at h
  split at h
  ·cases h;rfl
  ·cases h
 | .block id b,pc,h=>by
  simp only[ik]at h
  obtain⟨pb,hb,rfl⟩:=fp h
  simp only[PC.qo,ym hb]
 | .loop b,pc,h=>by simp only[ik]at h;obtain⟨_,_,rfl⟩:=fp h;rfl
 | .exit id,pc,h=>by simp only[ik,fe]at h;subst h;rfl
 | .ret,pc,h=>by simp only[ik,fe]at h;subst h;rfl
 | .rangeFunc ..,pc,h=>by simp[ik]at h
 | .scope _,pc,h=>by simp[ik]at h
 | .label _,pc,h=>by simp[ik]at h
 | .goto _,pc,h=>by simp[ik]at h
 | .refuse _,pc,h=>by simp[ik]at h
theorem a3d (hS:Sound P call) {bsf:Bf} (hD:mo P bsf call md) (hA:Kt P bsf) (N:Nat) {n:Nat} {we:World}:∀(c:Code) (pc:PC),zh P bsf c=some pc -> ∀(X:List Deferred) (st st':St) (ex:gg) (a:Act) (g:Gh) (w:World) (Q:Exit->Act->World->Prop),(∀a w,¬Q .outgrown a w)->exec call md N pc st=some (ex,st')->jv g w st a->so we g w X->we.heap.size<=w.heap.size->QQ we g st.s w ex st' Q ->
  c.wpIn Fence.wide n P Q (wd X a) w:=by
 have base:∀(c:Code) (pc:PC),(if pg c=true then ik P bsf c else none)=some pc -> ∀(X:List Deferred) (st st':St) (ex:gg) (a:Act) (g:Gh) (w:World) (Q:Exit->Act->World->Prop),(∀a w,¬Q .outgrown a w)->exec call md N pc st=some (ex,st')->jv g w st a->so we g w X->we.heap.size<=w.heap.size->QQ we g st.s w ex st' Q ->
   c.wpIn Fence.wide n P Q (wd X a) w:=by
  intro c pc hp X st st' ex a g w Q hLO hs hR hX hwe hQ
  split at hp
  ·rename_i hnd
   exact Il hS hD Pw N hnd hp X st st' ex a g w Q hLO hs hR λg' a' w' e hE hR' hx=>hQ g' a' w' e X hE hR' (hX.mono hE) hx
  ·cases hp
 intro c
 induction c with
 | rangeFunc f ps ca cb iha ihb=>
  intro pc hp X st st' ex a g w Q hLO hs hR hX hwe hQ
  simp only[zh]at hp
  split at hp
  ·rename_i hnd
   simp only[dy]at hnd
   split at hp
   ·rename_i x pa pb hx hpa hpb
    simp only[fe]at hp
    subst hp
    exact a4j hS hD hA hnd.1 hnd.2 hx hpa hpb hs hR hX hwe hQ
   ·cases hp
  ·cases hp
 | seq x y ihx ihy=>
  intro pc hp X st st' ex a g w Q hLO hs hR hX hwe hQ
  simp only[zh]at hp
  split at hp
  ·rename_i px py hx hy
   simp only[fe]at hp;subst hp
   simp only[exec,iy]at hs
   cases h1:iy call md (ko call md N) px st with
   | none=>rw[h1]at hs;simp at hs
   | some r=>
    obtain⟨ex1,st1⟩:=r
    rw[h1]at hs
    refine wpIn_seq (ihx px hx X st st1 ex1 a g w _ (λa w h=>hLO a w h) h1 hR hX hwe λg' a' w' e X' hE hR' hX' hx' => ?_)
    cases ex1 with
    | normal=>
     cases e<;>first|exact hx'.elim|skip
     exact ihy py hy X' st1 st' ex a' g' w' Q hLO hs hR' hX' (dt hwe hE.size) λg2 a2 w2 e2 X2 hE2 hR2 hX2 hx2=>hQ g2 a2 w2 e2 X2 (hE.trans hE2) hR2 hX2 hx2
    | exit i=>simp only[fe,ff]at hs;obtain⟨rfl,rfl⟩:=hs;cases e<;>first|exact hx'.elim|exact hQ g' a' w' _ X' hE hR' hX' hx'
    | ret=>simp only[fe,ff]at hs;obtain⟨rfl,rfl⟩:=hs;cases e<;>first|exact hx'.elim|exact hQ g' a' w' _ X' hE hR' hX' hx'
    | pan v=>simp only[fe,ff]at hs;obtain⟨rfl,rfl⟩:=hs;cases e<;>first|exact hx'.elim|exact hQ g' a' w' _ X' hE hR' hX' hx'
  ·cases hp
 | block id b ih=>
  intro pc hp X st st' ex a g w Q hLO hs hR hX hwe hQ
  simp only[zh]at hp
  obtain⟨pb,hb,rfl⟩:=fp hp
  simp only[exec,iy]at hs
  cases h1:iy call md (ko call md N) pb st with
  | none=>rw[h1]at hs;simp at hs
  | some r=>
   obtain⟨ex1,st1⟩:=r
   rw[h1]at hs
   refine wpIn_block (ih pb hb X st st1 ex1 a g w _ (λa w h=>hLO a w h) h1 hR hX hwe λg' a' w' e X' hE hR' hX' hx' => ?_)
   cases ex1 with
   | exit i=>
    cases e<;>first|exact hx'.elim|skip
    rename_i j
    have hij:i=j:=hx'
    subst hij
    simp only at hs
    simp only[Exit.inBlock]
    split at hs
    ·rename_i hi
     simp only[fe,ff]at hs;obtain⟨rfl,rfl⟩:=hs
     rw[if_pos hi]
     exact hQ g' a' w' .normal X' hE hR' hX' trivial
    ·rename_i hi
     simp only[fe,ff]at hs;obtain⟨rfl,rfl⟩:=hs
     rw[if_neg hi]
     exact hQ g' a' w' _ X' hE hR' hX' rfl
   | normal=>simp only[fe,ff]at hs;obtain⟨rfl,rfl⟩:=hs;cases e<;>first|exact hx'.elim|exact hQ g' a' w' _ X' hE hR' hX' hx'
   | ret=>simp only[fe,ff]at hs;obtain⟨rfl,rfl⟩:=hs;cases e<;>first|exact hx'.elim|exact hQ g' a' w' _ X' hE hR' hX' hx'
   | pan v=>simp only[fe,ff]at hs;obtain⟨rfl,rfl⟩:=hs;cases e<;>first|exact hx'.elim|exact hQ g' a' w' _ X' hE hR' hX' hx'
 | _=>
  intro pc hp
  simp only[zh]at hp
  exact base _ pc hp
theorem Jn {bsf:Bf} {f:FuncId} {pf:PF} (h:Bm P bsf f=some pf):∃fn c,P.funcs[f]? = some fn/\fn.body=some c/\(fn.name == "runtime.NumGoroutine")=false/\il (Av P) fn.results.toList=some pf.res/\zh P bsf c=some pf.body/\pf.nt=fn.ntmps:=by
 unfold Bm at h
 split at h
 ·rename_i fn hf
  split at h
  ·rename_i c hc
   split at h
   ·rename_i r b hr hb
    split at h
    ·simp at h
    ·rename_i hn
     simp only[fe]at h;subst h
     exact⟨fn,c,hf,hc,by simpa using hn,hr,hb,rfl⟩
   ·simp at h
  ·simp at h
 ·simp at h
theorem xk {we:World} {g0:Gh} {s0:ASt} {fn:Func} {tmps:Array Value} {tm:List AV} {R:Ending->World->Prop} {n:Nat} {u:FrameMode} (hu:u ≠ .run) {l:List AV} {us:List Value}:∀(X:List Deferred) (w:World),so we g w X->Inv g s w->ga g s w tm tmps.toList->ga g s w l us->Ext g0 s0 we g s w ->
  (∀w',Inv g s w'->ga g s w' tm tmps.toList->ga g s w' l us->Ext g0 s0 we g s w'->LeavesIn Fence.wide n P fn tmps R [] u w')->LeavesInM Fence.wide n P fn tmps R X u w
 | [],w,_,hI,ht,hl,hE,hK=>hK w hI ht hl hE
 | d::X,w,hX,hI,ht,hl,hE,hK=>by
  obtain⟨D,rfl,h2,h3,h4,h5⟩:=hX.at_ d (by simp)
  refine⟨hu,.inl ⟨D,w.putObj D (.deferred none),rfl,run_takeDeferred h3, ?_⟩⟩
  refine xk hu X _ ⟨(List.pairwise_cons.1 hX.ne).2,λd hd => ?_⟩ (hI.mz h4 h5 h3 rfl) (ht.mz h3 rfl) (hl.mz h3 rfl) (hE.mz h2) hK
  obtain⟨D',k1,k2,k3,k4,k5⟩:=hX.at_ d (by simp[hd])
  have hne:D' ≠ D:=λe=>(List.pairwise_cons.1 hX.ne).1 d hd (by rw[k1,e])
  exact⟨D',k1,k2,(World.putObj_heap_other hne).trans k3,k4,k5⟩
theorem a39 (hS:Sound P call) {bsf:Bf} (hD:mo P bsf call md) (hA:Kt P bsf) {pfs:FuncId->Option PF} {F:Nat} {f:FuncId} {pf:PF} (hprep:Bm P bsf f=some pf) (hq:pf.body.qo=true) {args:List AV} {out:jx} {s s':ASt} (h:uz call md pfs F pf args s=some (out,s')) :
  Fits P f /\ ∀g w vs,Inv g s w->ga g s w args vs->Calls P f vs.toArray w λe w'=>∃g',Inv g' s' w'/\Ext g s w g' s' w'/\qk g' s' w' out e:=by
 obtain⟨fn,c,hf,hb,hn,hres,hc,hnt⟩:=Jn hprep
 refine⟨⟨fn,c,hf,hb,hn⟩,λg w vs hI hr => ?_⟩
 refine(callsIn_wide (n:=0)).1 (callsIn_of_wp_marks hf hb trivial ?_ rfl)
 unfold uz at h
 generalize hst0:({tm:=args++List.replicate (pf.nt-args.length) .undef,df:=[],s:=s}:St)=st0 at h
 have hRst:jv g w st0 {tmps:=vs.toArray++Array.replicate (fn.ntmps-vs.toArray.size) undef,defers:=[]}:=by
  rw[<- hst0,hnt]
  exact⟨hI,Be hr,rfl⟩
 have hs0:st0.s=s:=by rw[<- hst0]
 cases hex:exec call md F pf.body st0 with
 | none=>rw[hex]at h;simp at h
 | some r=>
  obtain⟨ex,st⟩:=r
  rw[hex]at h
  refine a3d hS hD hA F (n:=0) (we:=w) c pf.body hc [] st0 st ex _ g w _ ?_ hex hRst ⟨.nil,λd hd=>by simp at hd⟩ (di _) λg' a' w' e X' hE hR' hX' hx => ?_
  ·rintro a w' ⟨g',_,_,h3⟩
   cases out<;>exact h3
  rw[hs0]at hE
  have hdf:∀{x:Option (jx × ASt)},(if (pf.body.qo && !st.df.isEmpty)=true then none else x)=some (out,s')->st.df=[]/\x=some (out,s'):=by
   intro x hx
   split at hx
   ·cases hx
   ·rename_i hc
    rw[hq]at hc
    simp only[Bool.true_and,Bool.not_eq_true',Bool.not_eq_false]at hc
    exact⟨by simpa using hc,hx⟩
  have key:st.df=[]->jw call md pfs pf.res st none=some (out,s')->LeavesInM Fence.wide 0 P fn (wd X' a').tmps (λe w'=>∃g',Inv g' s' w'/\Ext g s w g' s' w'/\qk g' s' w' out e) (wd X' a').defers .returning w':=by
   intro hd hl
   have had:a'.defers=[]:=by have:=hR'.df;rw[hd]at this;exact this
   have:(wd X' a').defers=X':=by simp[wd,had]
   rw[this]
   unfold jw at hl
   rw[hd]at hl
   simp only at hl
   obtain⟨l,hl2,e⟩:=fp hl
   simp only[ff]at e
   obtain⟨rfl,rfl⟩:=e
   refine xk (tm:=st.tm) (by simp) (l:=[]) (us:=[]) X' w' hX' hR'.inv hR'.tm (.nil _ _ _) hE λw2 hI2 ht2 _ hE2 => ?_
   obtain⟨v,hv,hvr⟩:=xw (a:=a') hres hl2 hI2 ht2
   exact⟨v,hv,g',hI2,hE2,hvr⟩
  cases ex with
  | ret=>
   cases e<;>first|exact hx.elim|skip
   obtain⟨hd,hl⟩:=hdf h
   exact key hd hl
  | normal=>
   cases e<;>first|exact hx.elim|skip
   obtain⟨hd,hl⟩:=hdf h
   exact key hd hl
  | pan v=>
   cases e<;>first|exact hx.elim|skip
   obtain⟨hd,hl⟩:=hdf h
   obtain⟨u,rfl,hu⟩:=hx
   have had:a'.defers=[]:=by have:=hR'.df;rw[hd]at this;exact this
   have hdd:(wd X' a').defers=X':=by simp[wd,had]
   unfold jw at hl
   rw[hd]at hl
   simp only[fe,ff]at hl
   obtain⟨rfl,rfl⟩:=hl
   show LeavesInM Fence.wide 0 P fn (wd X' a').tmps _ (wd X' a').defers (.panicking _) w'
   rw[hdd]
   refine xk (tm:=st.tm) (by simp) (l:=[v]) (us:=[u]) X' w' hX' hR'.inv hR'.tm (.one hu) hE λw2 hI2 ht2 hv2 hE2 => ?_
   obtain⟨c',cs',e1,e2,_⟩:=hv2.cons_inv
   cases e1
   exact⟨g',hI2,hE2,u,rfl,e2⟩
  | exit id=>simp at h
theorem Cg {pfs:FuncId->Option PF} (hP:xy P pfs) (hD:∀bsf call,Sound P call->mo P bsf call md):∀F,Sound P (oh md pfs F)
 | 0=>by intro f args s out s' h;simp[oh]at h
 | F+1=>by
  have ih:=Cg hP hD F
  intro f args s out s' h
  simp only[oh]at h
  split at h
  ·rename_i pf hpf
   split at h
   ·rename_i o ho
    obtain⟨⟨v,s2⟩,hv,e⟩:=fp h
    simp only[ff]at e
    obtain⟨rfl,rfl⟩:=e
    rcases hP f pf hpf with⟨bsf,hprep⟩|⟨o',ho',hok⟩|⟨bsf,_,_,hq⟩
    ·obtain⟨_,c,_,_,_,_,hc,_⟩:=wk hprep
     exact absurd ho (by rw[Pe hc];simp)
    ·rw[ho']at ho;cases ho
     obtain⟨h1,h2⟩:=hok args s v _ hv
     exact⟨h1,λg w vs hI hr=>h2 g w vs hI hr⟩
    ·cases hb:pf.body<;>rw[hb]at ho hq<;>first|(cases ho;done)|(cases hq;done)
   ·rename_i ho
    cases hq:pf.body.qo with
    | false=>exact Ml ih (λbsf=>hD bsf _ ih) hP hpf ho hq h
    | true=>
     rcases hP f pf hpf with⟨bsf,hprep⟩|⟨o',ho',hok⟩|⟨bsf,hA,hprep,_⟩
     ·obtain⟨_,c,_,_,_,_,hc,_⟩:=wk hprep
      rw[ym hc]at hq;cases hq
     ·rw[ho']at hq;cases hq
     ·exact a39 ih (hD bsf _ ih) hA hprep hq h
  ·simp at h
end
end Go.Proofs.Eng
namespace Go.Proofs.Eng
open Go.RowKit
variable [DrK]
theorem tv {α β:Type} {f f':α->Option β}:∀{l:List α},(∀x ∈ l,f x=f' x)->il f l=il f' l
 | [],_=>rfl
 | x::l,h=>by simp only[il,h x (by simp),tv (l:=l) λy hy=>h y (by simp[hy])]
theorem Cu {tm tm':List AV}:∀{ps:List (Nat × Nat × X)} {cells:List AV},(∀x ∈ ps.map (·.2.2),evX tm x=evX tm' x)->ui tm cells ps=ui tm' cells ps
 | [],_,_=>rfl
 | (off,n,x)::ps,cells,h=>by
  have h1:=h x (by simp)
  have h2:=λcells=>Cu (ps:=ps) (cells:=cells) λy hy=>h y (by simp at hy ⊢;exact .inr hy)
  simp only[ui,h1,h2]
theorem Ci {tm tm':List AV} {n:Nat}:∀{ps:List (Nat × Nat × X)} {es:List AV},(∀x ∈ ps.map (·.2.2),evX tm x=evX tm' x)->wz tm n es ps=wz tm' n es ps
 | [],_,_=>rfl
 | (off,m,x)::ps,es,h=>by
  have h1:=h x (by simp)
  have h2:=λes=>Ci (ps:=ps) (n:=n) (es:=es) λy hy=>h y (by simp at hy ⊢;exact .inr hy)
  simp only[wz,h1,h2]
theorem wv {tm tm':List AV} {len d:Nat} {x:Option X} (h:∀y ∈ x.toList,evX tm y=evX tm' y):jd len d x tm=jd len d x tm':=by
 cases x with
 | none=>rfl
 | some y=>simp only[jd,h y (by simp)]
theorem vo {tm tm':List AV} {s:ASt} {po:PO} (h:∀x ∈ po.xs,evX tm x=evX tm' x):opA tm s po=opA tm' s po:=by
 cases po with
 | build z ps=>simp only[opA,Cu (cells:=z) h]
 | bsl z n ps=>simp only[opA,Ci (n:=z.cells.length) (es:=List.replicate n z) h]
 | slice es x lo hi mx=>
  have hx:=h x (by simp[PO.xs])
  have hlo:∀len d,jd len d lo tm=jd len d lo tm':=λlen d=>wv λy hy=>h y (by simp only[PO.xs,List.mem_cons,List.mem_append];exact .inr (.inl (.inl hy)))
  have hhi:∀len d,jd len d hi tm=jd len d hi tm':=λlen d=>wv λy hy=>h y (by simp only[PO.xs,List.mem_cons,List.mem_append];exact .inr (.inl (.inr hy)))
  have hmx:∀len d,jd len d mx tm=jd len d mx tm':=λlen d=>wv λy hy=>h y (by simp only[PO.xs,List.mem_cons,List.mem_append];exact .inr (.inr hy))
  simp only[opA,hx,hlo,hhi]
  cases mx with
  | none=>rfl
  | some m=>simp only[hmx,fh,h m (by simp[PO.xs])]
 | Hv f l=>simp only[opA,tv (l:=l) h]
 | tn f l=>simp only[opA,tv (l:=l) h]
 | call f l=>simp only[opA,h f (by simp[PO.xs]),tv (l:=l) λx hx=>h x (by simp[PO.xs,hx])]
 | dfr f l=>simp only[opA,h f (by simp[PO.xs]),tv (l:=l) λx hx=>h x (by simp[PO.xs,hx])]
 | _=>simp_all [opA,PO.xs]
def jl (call:ia) (md:FuncId->Md) (i:PI) (tm:List AV) (s:ASt):Option ((AV ⊕ AV) × ASt):=
 match iu tm i.g with
 | some false=>some (.inl .undef,s)
 | some true=>
  match opA tm s i.op with
  | some (.val v s)=>some (.inl v,s)
  | some (.call f args)=>
   match me call md true s f args with
   | some (.ret v,s)=>some (.inl v,s)
   | some (.pan v,s)=>some (.inr v,s)
   | none=>none
  | some (.panic v)=>some (.inr v,s)
  | _=>none
 | none=>none
section
variable {call:ia} {md:FuncId->Md} {i:PI} {st st':St} {tm tm':List AV} {s s':ASt} {v:AV}
theorem Ax (hk:i.op.kd ≠ .X) (h:iw call md true i st=some (.normal,st')):∃v,jl call md i st.tm st.s=some (.inl v,st'.s)/\st' = {tm:=put st.tm i.dst v,df:=st.df,s:=st'.s}:=by
 unfold iw at h
 unfold jl
 split at h
 ·rename_i hw
  simp only[fe,ff,true_and]at h;subst h
  rw[hw]
  exact⟨_,rfl,rfl⟩
 ·rename_i hw
  rw[hw]
  simp only
  split at h
  ·rename_i v s1 ho
   simp only[fe,ff,true_and]at h;subst h
   rw[ho]
   exact⟨v,rfl,rfl⟩
  ·rename_i f args ho
   rw[ho]
   simp only
   split at h
   ·rename_i v s1 hc
    simp only[fe,ff,true_and]at h;subst h
    rw[hc]
    exact⟨v,rfl,rfl⟩
   ·simp at h
   ·simp at h
  ·simp at h
  ·rename_i f args ho
   exfalso
   cases hop:i.op with
   | dfr f l=>rw[hop]at hk;exact hk rfl
   | _=>rw[hop]at ho;simp only[opA]at ho;(repeat' (split at ho))<;>first|(simp at ho;done)|(simp[Option.bind_eq_some_iff]at ho;done)
  ·simp at h
  ·simp at h
 ·simp at h
theorem vi (h:jl call md i tm s=some (.inl v,s')) (df:List (FuncId × List AV)):iw call md true i {tm,df,s}=some (.normal,{tm:=put tm i.dst v,df,s:=s'}):=by
 unfold jl at h
 unfold iw
 simp only
 split at h
 ·rename_i hw
  simp only[fe,ff,Sum.inl.injEq]at h
  obtain⟨rfl,rfl⟩:=h
  rw[hw]
 ·rename_i hw
  rw[hw]
  simp only
  split at h
  ·rename_i v s1 ho
   simp only[fe,ff,Sum.inl.injEq]at h
   obtain⟨rfl,rfl⟩:=h
   rw[ho]
  ·rename_i f args ho
   rw[ho]
   simp only
   split at h
   ·rename_i v s1 hc
    simp only[fe,ff,Sum.inl.injEq]at h
    obtain⟨rfl,rfl⟩:=h
    rw[hc]
   ·simp at h
   ·simp at h
  ·simp at h
  ·simp at h
 ·simp at h
theorem Wb (h:iw call md true i st=some (.pan v,st')):jl call md i st.tm st.s=some (.inr v,st'.s):=by
 unfold iw at h
 unfold jl
 split at h
 ·simp at h
 ·rename_i hw
  rw[hw]
  simp only
  split at h
  ·simp at h
  ·rename_i f args ho
   rw[ho]
   simp only
   split at h
   ·simp at h
   ·rename_i v s1 hc
    simp only[fe,ff,gg.pan.injEq]at h
    obtain⟨rfl,rfl⟩:=h
    rw[hc]
   ·simp at h
  ·rename_i v ho
   simp only[fe,ff,gg.pan.injEq]at h
   obtain⟨rfl,rfl⟩:=h
   rw[ho]
  ·simp at h
  ·simp at h
  ·simp at h
 ·simp at h
theorem Vx (h:jl call md i tm s=some (.inr v,s')) (df:List (FuncId × List AV)):∃st',iw call md true i {tm,df,s}=some (.pan v,st')/\st'.s=s'/\st'.tm=tm/\st'.df=df:=by
 unfold jl at h
 unfold iw
 simp only
 split at h
 ·simp at h
 ·rename_i hw
  rw[hw]
  simp only
  split at h
  ·simp at h
  ·rename_i f args ho
   rw[ho]
   simp only
   split at h
   ·simp at h
   ·rename_i v s1 hc
    simp only[fe,ff,Sum.inr.injEq]at h
    obtain⟨rfl,rfl⟩:=h
    rw[hc]
    exact⟨_,rfl,rfl,rfl,rfl⟩
   ·simp at h
  ·rename_i v ho
   simp only[fe,ff,Sum.inr.injEq]at h
   obtain⟨rfl,rfl⟩:=h
   rw[ho]
   exact⟨_,rfl,rfl,rfl,rfl⟩
  ·simp at h
 ·simp at h
theorem nr (hx:∀x ∈ i.op.xs,evX tm x=evX tm' x) (hg:∀t b,i.g=some (t,b)->tm[t]? = tm'[t]?):jl call md i tm s=jl call md i tm' s:=by
 have h1:iu tm i.g=iu tm' i.g:=by
  cases hgd:i.g with
  | none=>rfl
  | some r=>obtain⟨t,b⟩:=r;simp only[iu,hg t b hgd]
 unfold jl
 rw[h1,vo hx]
theorem xh {n:Nat} {x:AV} (h:im x=true):frz n s x=s:=by
 cases n<;>simp[frz,h]
theorem ye {n:Nat}:∀{l:List AV} {s:ASt},gi l=true->l.foldl (frz n) s=s
 | [],_,_=>rfl
 | x::l,s,h=>by
  rw[gi,dy]at h
  rw[dc,xh h.1]
  exact ye h.2
theorem jh {n:Nat} {x:AV} (h:im x=true):gr (n+1) s x=some x:=by
 unfold gr;rw[if_pos h]
theorem uq {n:Nat}:∀{l:List AV},gi l=true->il (gr (n+1) s) l=some l
 | [],_=>rfl
 | x::l,h=>by
  rw[gi,dy]at h
  simp only[il,jh h.1,uq h.2]
theorem P5 {f:FuncId} {args:List AV} {out:jx} (h:my call md true s f args=some (out,s')):s'=s /\ ∀s1,my call md true s1 f args=some (out,s1):=by
 unfold my at h ⊢
 split at h
 ·rename_i hm
  simp only[Bool.true_and]at h ⊢
  split at h
  ·simp at h
  ·rename_i hp
   simp only[Bool.not_eq_true,Bool.not_eq_false']at hp
   rw[uq hp]at h
   simp only at h
   split at h
   ·rename_i out1 s2 hc
    obtain⟨o',ho',e⟩:=fp h
    cases e
    refine⟨ye hp,λs1 => ?_⟩
    simp only[hp,ed,dz,if_false]
    rw[uq hp]
    simp only[hc,ho',fh,ye hp]
   ·simp at h
 ·simp at h
 ·simp at h
theorem B7 {f:FuncId} {args:List AV} {out:jx} (h:me call md true s f args=some (out,s')):s'=s /\ ∀s1,me call md true s1 f args=some (out,s1):=P5 h
theorem a5x {po:PO} (hk:po.kd = .S) {r:OpR} (h:opA tm s po=some r):(∃v,r = .val v s /\ ∀s1,opA tm s1 po=some (.val v s1))\/(∃v,r = .panic v /\ ∀s1,opA tm s1 po=some (.panic v)):=by
 cases po<;>simp only[PO.kd,reduceCtorEq]at hk
 case app es bs x y=>cases bs<;>simp at hk
 all_goals
  simp only[opA]at h
  (repeat' (split at h))<;>first
   | (simp at h;done)
   | (simp only[fe]at h;subst h;first|exact .inl ⟨_,rfl,λs1=>by simp[opA, *]⟩|exact .inr ⟨_,rfl,λs1=>by simp[opA, *]⟩)
   | (obtain⟨q,hq,rfl⟩:=fp h;exact .inl ⟨_,rfl,λs1=>by simp[opA, *]⟩)
   | (obtain⟨m,hm,h⟩:=nc h;obtain⟨q,hq,rfl⟩:=fp h;exact .inl ⟨_,rfl,λs1=>by simp[opA, *]⟩)
theorem Jv {po:PO} {H:List fq} {T:List Nat} (hk:po.kd = .R) {r:OpR} (h:opA tm ⟨H,T⟩ po=some r):∃v,r = .val v ⟨H,T⟩ /\ ∀T1,opA tm ⟨H,T1⟩ po=some (.val v ⟨H,T1⟩):=by
 cases po<;>simp only[PO.kd,reduceCtorEq]at hk
 case app es bs x y=>cases bs<;>simp at hk
 case load ag n x=>
  simp only[opA]at h
  obtain⟨q,hq,rfl⟩:=fp h
  obtain⟨p,hp,hl⟩:=nc hq
  have hl':∀T1,sf ⟨H,T1⟩ ag n p=some q:=λT1=>by rw[<- hl];rfl
  exact⟨_,rfl,λT1=>by simp[opA,hp,hl']⟩
 all_goals
  simp only[opA]at h
  (repeat' (split at h))<;>first
   | (simp at h;done)
   | (simp only[fe]at h;subst h;exact⟨_,rfl,λT1=>by simp[opA, *]⟩)
theorem a1e {po:PO} {H:List fq} {T:List Nat} (hk:po.kd = .W) {r:OpR} (h:opA tm ⟨H,T⟩ po=some r):∃v H',r = .val v ⟨H',T⟩ /\ ∀T1,opA tm ⟨H,T1⟩ po=some (.val v ⟨H',T1⟩):=by
 cases po<;>simp only[PO.kd,reduceCtorEq]at hk
 case app es bs x y=>cases bs<;>simp at hk
 case store n x y=>
  simp only[opA]at h
  split at h
  ·rename_i p v e1 e2
   obtain⟨q,hq,rfl⟩:=fp h
   unfold uo at hq
   split at hq
   ·rename_i i off
    split at hq
    ·rename_i l hl
     split at hq
     ·rename_i hc
      simp only[fe]at hq;subst hq
      exact⟨_,_,rfl,λT1=>by simp only[opA,e1,e2,uo];simp only at hl;simp[hl,hc]⟩
     ·simp at hq
    ·simp at hq
   ·simp at hq
  ·simp at h
 case sk st m k x=>
  simp only[opA]at h
  split at h
  ·split at h
   ·split at h
    ·split at h
     ·obtain⟨q,hq,rfl⟩:=fp h
      exact⟨_,_,rfl,λT1=>by simp[opA, *]⟩
     ·simp at h
    ·simp at h
   ·simp at h
  ·simp at h
theorem Rr {po:PO} {H:List fq} {T:List Nat} (hk:po.kd = .T) {r:OpR} (h:opA tm ⟨H,T⟩ po=some r):∃v T',r = .val v ⟨H,T'⟩:=by
 cases po<;>simp only[PO.kd,reduceCtorEq]at hk
 case app es bs x y=>
  cases bs<;>simp at hk
  simp only[opA]at h
  split at h
  ·obtain⟨⟨q1,q2⟩,hq,rfl⟩:=fp h
   unfold tr at hq
   split at hq
   ·simp only[fe,ff]at hq;obtain⟨rfl,rfl⟩:=hq;exact⟨_,T,rfl⟩
   ·split at hq
    ·simp only at hq
     repeat' split at hq
     all_goals first|(simp at hq;done)|(simp only[fe,ff]at hq;obtain⟨rfl,rfl⟩:=hq;exact⟨_,_,rfl⟩)
    ·simp at hq
  all_goals simp at h
theorem ov (hk:i.op.kd = .S\/i.op.kd = .C) {x:AV ⊕ AV} (h:jl call md i tm s=some (x,s')):s'=s /\ ∀s1,jl call md i tm s1=some (x,s1):=by
 unfold jl at h ⊢
 split at h
 ·rename_i hw
  simp only[fe,ff]at h;obtain⟨rfl,rfl⟩:=h
  exact⟨rfl,λ_=>rfl⟩
 ·rename_i hw
  rcases hk with hk|hk
  ·cases ho:opA tm s i.op with
   | none=>rw[ho]at h;simp at h
   | some r=>
    rw[ho]at h
    rcases a5x hk ho with⟨v,rfl,hv⟩|⟨v,rfl,hv⟩
    ·simp only[fe,ff]at h;obtain⟨rfl,rfl⟩:=h
     exact⟨rfl,λs1=>by rw[hv s1]⟩
    ·simp only[fe,ff]at h;obtain⟨rfl,rfl⟩:=h
     exact⟨rfl,λs1=>by rw[hv s1]⟩
  ·cases hop:i.op with
   | call f l=>
    rw[hop]at h
    simp only[opA]at h ⊢
    split at h
    ·rename_i v s1 heq;split at heq<;>simp at heq
    ·rename_i g args heq
     split at heq
     ·rename_i gf caps l' e1 e2
      simp only[fe,OpR.call.injEq]at heq
      obtain⟨rfl,rfl⟩:=heq
      split at h
      ·rename_i v s1 hc
       simp only[fe,ff]at h;obtain⟨rfl,rfl⟩:=h
       obtain⟨k1,k2⟩:=B7 hc
       exact⟨k1,λs1=>by simp only[e1,e2,k2 s1]⟩
      ·rename_i v s1 hc
       simp only[fe,ff]at h;obtain⟨rfl,rfl⟩:=h
       obtain⟨k1,k2⟩:=B7 hc
       exact⟨k1,λs1=>by simp only[e1,e2,k2 s1]⟩
      ·simp at h
     ·rename_i gf caps l' e1 e2
      simp only[fe,OpR.call.injEq]at heq
      obtain⟨rfl,rfl⟩:=heq
      split at h
      ·rename_i v s1 hc
       simp only[fe,ff]at h;obtain⟨rfl,rfl⟩:=h
       obtain⟨k1,k2⟩:=B7 hc
       exact⟨k1,λs1=>by simp only[e1,e2,k2 s1]⟩
      ·rename_i v s1 hc
       simp only[fe,ff]at h;obtain⟨rfl,rfl⟩:=h
       obtain⟨k1,k2⟩:=B7 hc
       exact⟨k1,λs1=>by simp only[e1,e2,k2 s1]⟩
      ·simp at h
     ·simp at heq
    ·rename_i v heq;split at heq<;>simp at heq
    ·simp at h
   | app es bs x y=>rw[hop]at hk;cases bs<;>simp[PO.kd]at hk
   | _=>rw[hop]at hk;simp[PO.kd]at hk
 ·simp at h
theorem A5 {H:List fq} {T:List Nat} (hk:i.op.kd = .R) {x:AV ⊕ AV} (h:jl call md i tm ⟨H,T⟩=some (x,s')):s'=⟨H,T⟩ /\ ∀T1,jl call md i tm ⟨H,T1⟩=some (x,⟨H,T1⟩):=by
 unfold jl at h ⊢
 split at h
 ·simp only[fe,ff]at h;obtain⟨rfl,rfl⟩:=h
  exact⟨rfl,λ_=>rfl⟩
 ·cases ho:opA tm ⟨H,T⟩ i.op with
  | none=>rw[ho]at h;simp at h
  | some r=>
   rw[ho]at h
   obtain⟨v,rfl,hv⟩:=Jv hk ho
   simp only[fe,ff]at h;obtain⟨rfl,rfl⟩:=h
   exact⟨rfl,λs1=>by rw[hv s1]⟩
 ·simp at h
theorem R8 {H:List fq} {T:List Nat} (hk:i.op.kd = .W) {x:AV ⊕ AV} (h:jl call md i tm ⟨H,T⟩=some (x,s')):s'.T=T /\ ∀T1,jl call md i tm ⟨H,T1⟩=some (x,⟨s'.H,T1⟩):=by
 unfold jl at h ⊢
 split at h
 ·simp only[fe,ff]at h;obtain⟨rfl,rfl⟩:=h
  exact⟨rfl,λ_=>rfl⟩
 ·cases ho:opA tm ⟨H,T⟩ i.op with
  | none=>rw[ho]at h;simp at h
  | some r=>
   rw[ho]at h
   obtain⟨v,H',rfl,hv⟩:=a1e hk ho
   simp only[fe,ff]at h;obtain⟨rfl,rfl⟩:=h
   exact⟨rfl,λs1=>by rw[hv s1]⟩
 ·simp at h
theorem a4r {H:List fq} {T:List Nat} (hk:i.op.kd = .T) {x:AV ⊕ AV} (h:jl call md i tm ⟨H,T⟩=some (x,s')):s'.H=H:=by
 unfold jl at h
 split at h
 ·simp only[fe,ff]at h;obtain⟨rfl,rfl⟩:=h
  rfl
 ·cases ho:opA tm ⟨H,T⟩ i.op with
  | none=>rw[ho]at h;simp at h
  | some r=>
   rw[ho]at h
   obtain⟨v,T',rfl⟩:=Rr hk ho
   simp only[fe,ff]at h;obtain⟨rfl,rfl⟩:=h
   rfl
 ·simp at h
end
end Go.Proofs.Eng
namespace Go.Proofs.Eng
open Go.RowKit
variable [DrK]
structure Bt (call:ia) (md:FuncId->Md) (E:List PI) (S:Nat->St) (v:Nat->AV):Prop where
 val:∀k i,E[k]? = some i->jl call md i (S k).tm (S k).s=some (.inl (v k),(S (k+1)).s)
 tm:∀k i,E[k]? = some i->(S (k+1)).tm=put (S k).tm i.dst (v k)
 df:∀k i,E[k]? = some i->(S (k+1)).df=(S k).df
def ox (E:List PI) (v:Nat->AV) (tm0:List AV) (Lk:Nat->Bool):Nat->List AV
 | 0=>tm0
 | k+1=>match E[k]? with
  | some i=>if Lk k then put (ox E v tm0 Lk k) i.dst (v k)else ox E v tm0 Lk k
  | none=>ox E v tm0 Lk k
def hOf (E:List PI) (S:Nat->St) (H0:List fq) (Lk:Nat->Bool):Nat->List fq
 | 0=>H0
 | k+1=>match E[k]? with
  | some i=>if Lk k=true/\i.op.kd = .W then(S (k+1)).s.H else hOf E S H0 Lk k
  | none=>hOf E S H0 Lk k
def tOf (E:List PI) (S:Nat->St) (T0:List Nat) (Lk:Nat->Bool):Nat->List Nat
 | 0=>T0
 | k+1=>match E[k]? with
  | some i=>if Lk k=true/\i.op.kd = .T then(S (k+1)).s.T else tOf E S T0 Lk k
  | none=>tOf E S T0 Lk k
section
variable {call:ia} {md:FuncId->Md} {E:List PI} {S:Nat->St} {v:Nat->AV} {tm0:List AV} {H0:List fq} {T0:List Nat} {Lk Lk':Nat->Bool}
theorem zz (tm:List AV) (d:Option Nat) (x:AV):(put tm d x).length=tm.length:=by cases d<;>simp[put]
theorem l9 {tm:List AV} {d:Option Nat} {x:AV} {c:Nat} (h:d ≠ some c):(put tm d x)[c]? = tm[c]? := by
 cases d with
 | none=>rfl
 | some d=>simp only[put];rw[b9,if_neg (λe=>h (by rw[e]))]
theorem lz {tm:List AV} {x:AV} {c:Nat}:(put tm (some c) x)[c]? = if c<tm.length then some x else none:=by
 simp only[put,b9,if_true]
theorem nq (n:Nat):(ox E v tm0 Lk n).length=tm0.length:=by
 induction n with
 | zero=>rfl
 | succ n ih=>
  simp only[ox]
  split
  ·split
   ·rw[zz,ih]
   ·exact ih
  ·exact ih
theorem ot (d:Nat):∀(n:Nat),(∀j i,j<n->E[j]? = some i->i.dst=some d->Lk j=Lk' j)->(ox E v tm0 Lk n)[d]? = (ox E v tm0 Lk' n)[d]?
 | 0,_=>rfl
 | n+1,h=>by
  have ih:=ot d n λj i hj=>h j i (by omega)
  simp only[ox]
  split
  ·rename_i i hi
   by_cases hd:i.dst=some d
   ·have:=h n i (by omega) hi hd
    rw[this]
    split
    ·rw[hd,lz,lz,nq,nq]
    ·exact ih
   ·split<;>split
    ·rw[l9 hd,l9 hd];exact ih
    ·rw[l9 hd];exact ih
    ·rw[l9 hd];exact ih
    ·exact ih
  ·exact ih
theorem qp:∀(n:Nat),(∀j i,j<n->E[j]? = some i->i.op.kd = .W->Lk j=Lk' j)->hOf E S H0 Lk n=hOf E S H0 Lk' n
 | 0,_=>rfl
 | n+1,h=>by
  have ih:=qp n λj i hj=>h j i (by omega)
  simp only[hOf]
  split
  ·rename_i i hi
   by_cases hw:i.op.kd = .W
   ·rw[h n i (by omega) hi hw,ih]
   ·simp only[hw,and_false,if_false];exact ih
  ·exact ih
theorem qv:∀(n:Nat),(∀j i,j<n->E[j]? = some i->i.op.kd = .T->Lk j=Lk' j)->tOf E S T0 Lk n=tOf E S T0 Lk' n
 | 0,_=>rfl
 | n+1,h=>by
  have ih:=qv n λj i hj=>h j i (by omega)
  simp only[tOf]
  split
  ·rename_i i hi
   by_cases hw:i.op.kd = .T
   ·rw[h n i (by omega) hi hw,ih]
   ·simp only[hw,and_false,if_false];exact ih
  ·exact ih
theorem Ab (hr:Bt call md E S v) (h0:(S 0).tm=tm0) (k:Nat):∀(n:Nat),n<=E.length->(S (min n k)).tm=ox E v tm0 (λj=>decide (j<k)) n
 | 0,_=>by simpa[ox]using h0
 | n+1,hn=>by
  have ih:=Ab hr h0 k n (by omega)
  have hE:E[n]? = some E[n]:=aa (by omega)
  simp only[ox,hE]
  by_cases hk:n<k
  ·rw[if_pos (by simpa using hk),<- ih]
   have h1:min (n+1) k=n+1:=by omega
   have h2:min n k=n:=by omega
   rw[h1,h2]
   exact hr.tm n _ hE
  ·rw[if_neg (by simpa using hk),<- ih]
   congr 2;omega
structure wh (E:List PI) (c:Nat):Prop where
 le:c<=E.length
 first:∀k i,k<c->E[k]? = some i->i.op.kd = .A/\i.g=none
 rest:∀k i,c<=k->E[k]? = some i->i.op.kd ≠ .A/\i.op.kd ≠ .X
theorem yd {i:PI} {tm:List AV} {s s':ASt} {x:AV ⊕ AV} (hA:i.op.kd ≠ .A) (hX:i.op.kd ≠ .X) (h:jl call md i tm s=some (x,s')):(i.op.kd ≠ .W->s'.H=s.H)/\(i.op.kd ≠ .T->s'.T=s.T):=by
 obtain⟨H,T⟩:=s
 cases hk:i.op.kd with
 | S=>have:=(ov (.inl hk) h).1;subst this;exact⟨λ_=>rfl,λ_=>rfl⟩
 | C=>have:=(ov (.inr hk) h).1;subst this;exact⟨λ_=>rfl,λ_=>rfl⟩
 | R=>have:=(A5 hk h).1;subst this;exact⟨λ_=>rfl,λ_=>rfl⟩
 | W=>have:=(R8 hk h).1;exact⟨λh=>absurd rfl h,λ_=>this⟩
 | T=>have:=a4r hk h;exact⟨λ_=>this,λh=>absurd rfl h⟩
 | A=>exact absurd hk hA
 | X=>exact absurd hk hX
theorem Ar (hr:Bt call md E S v) {c:Nat} (hc:wh E c) (h0:(S c).s.H=H0) (k:Nat) (hk:c<=k):∀(n:Nat),n<=E.length->(S (max c (min n k))).s.H=hOf E S H0 (λj=>decide (j<k)) n
 | 0,_=>by simpa[hOf]using h0
 | n+1,hn=>by
  have ih:=Ar hr hc h0 k hk n (by omega)
  have hE:E[n]? = some E[n]:=aa (by omega)
  simp only[hOf,hE]
  by_cases hnc:n<c
  ·have h1:=(hc.first n _ hnc hE).1
   rw[if_neg (by rw[h1];simp),<- ih]
   congr 3;omega
  ·have hrest:=hc.rest n _ (by omega) hE
   by_cases hnk:n<k
   ·have e1:max c (min (n+1) k)=n+1:=by omega
    have e2:max c (min n k)=n:=by omega
    rw[e1]
    rw[e2]at ih
    by_cases hw:E[n].op.kd = .W
    ·rw[if_pos ⟨by simpa using hnk,hw⟩]
    ·rw[if_neg (λh=>hw h.2),<- ih]
     exact(yd hrest.1 hrest.2 (hr.val n _ hE)).1 hw
   ·rw[if_neg (by simp[hnk]),<- ih]
    congr 3;omega
theorem B9 (hr:Bt call md E S v) {c:Nat} (hc:wh E c) (h0:(S c).s.T=T0) (k:Nat) (hk:c<=k):∀(n:Nat),n<=E.length->(S (max c (min n k))).s.T=tOf E S T0 (λj=>decide (j<k)) n
 | 0,_=>by simpa[tOf]using h0
 | n+1,hn=>by
  have ih:=B9 hr hc h0 k hk n (by omega)
  have hE:E[n]? = some E[n]:=aa (by omega)
  simp only[tOf,hE]
  by_cases hnc:n<c
  ·have h1:=(hc.first n _ hnc hE).1
   rw[if_neg (by rw[h1];simp),<- ih]
   congr 3;omega
  ·have hrest:=hc.rest n _ (by omega) hE
   by_cases hnk:n<k
   ·have e1:max c (min (n+1) k)=n+1:=by omega
    have e2:max c (min n k)=n:=by omega
    rw[e1]
    rw[e2]at ih
    by_cases hw:E[n].op.kd = .T
    ·rw[if_pos ⟨by simpa using hnk,hw⟩]
    ·rw[if_neg (λh=>hw h.2),<- ih]
     exact(yd hrest.1 hrest.2 (hr.val n _ hE)).2 hw
   ·rw[if_neg (by simp[hnk]),<- ih]
    congr 3;omega
theorem qf {i:PI} {tm tm':List AV} (h:∀d,i.looks d=true->tm[d]? = tm'[d]?):(∀x ∈ i.op.xs,evX tm x=evX tm' x)/\(∀t b,i.g=some (t,b)->tm[t]? = tm'[t]?):=by
 refine⟨λx hx => ?_,λt b hg=>h t ?_⟩
 ·cases x with
  | c v=>rfl
  | t n=>
   simp only[evX]
   refine h n ?_
   simp only[PI.looks,ei,List.any_eq_true]
   exact .inl ⟨_,hx,by simp⟩
 ·simp[PI.looks,hg]
theorem a0p (hr:Bt call md E S v) {c:Nat} (hc:wh E c) (hH:(S c).s.H=H0) (hT0:(S c).s.T=T0) (h0:(S 0).tm=tm0) {k:Nat} {i:PI} (hi:E[k]? = some i) (hk:c<=k) (hLk:Lk k=false)
  (hreads:∀d,i.looks d=true -> ∀j q,E[j]? = some q->q.dst=some d->Lk j=decide (j<k))
  (hW:(i.op.kd = .R\/i.op.kd = .W\/i.op.kd = .T) -> ∀j q,E[j]? = some q->q.op.kd = .W->Lk j=decide (j<k))
  (hT:i.op.kd = .T -> ∀j q,E[j]? = some q->q.op.kd = .T->Lk j=decide (j<k))
  (hdst:∀d,i.dst=some d -> ∀j q,E[j]? = some q->q.dst=some d->j=k) :
  jl call md i (ox E v tm0 Lk E.length) ⟨hOf E S H0 Lk E.length,tOf E S T0 Lk E.length⟩=some (.inl (v k),⟨hOf E S H0 (λj=>Lk j||j==k) E.length,tOf E S T0 (λj=>Lk j||j==k) E.length⟩) /\
  (∀d:Nat,(ox E v tm0 (λj=>Lk j||j==k) E.length)[d]? = (put (ox E v tm0 Lk E.length) i.dst (v k))[d]?):=by
 have hkl:k<E.length:=(List.getElem?_eq_some_iff.1 hi).1
 have hval:=hr.val k i hi
 obtain⟨hkA,hkX⟩:=hc.rest k i hk hi
 have hSk:(S k).tm=ox E v tm0 (λj=>decide (j<k)) E.length:=by
  have:=Ab hr h0 k E.length (di _)
  rwa [show min E.length k=k by omega]at this
 have hHk:(S k).s.H=hOf E S H0 (λj=>decide (j<k)) E.length:=by
  have:=Ar hr hc hH k hk E.length (di _)
  rwa [show max c (min E.length k)=k by omega]at this
 have hTk:(S k).s.T=tOf E S T0 (λj=>decide (j<k)) E.length:=by
  have:=B9 hr hc hT0 k hk E.length (di _)
  rwa [show max c (min E.length k)=k by omega]at this
 have hHk1:(S (k+1)).s.H=hOf E S H0 (λj=>decide (j<k+1)) E.length:=by
  have:=Ar hr hc hH (k+1) (by omega) E.length (di _)
  rwa [show max c (min E.length (k+1))=k+1 by omega]at this
 have hTk1:(S (k+1)).s.T=tOf E S T0 (λj=>decide (j<k+1)) E.length:=by
  have:=B9 hr hc hT0 (k+1) (by omega) E.length (di _)
  rwa [show max c (min E.length (k+1))=k+1 by omega]at this
 have hc1:jl call md i (ox E v tm0 Lk E.length) (S k).s=some (.inl (v k),(S (k+1)).s):=by
  rw[<- hval]
  obtain⟨q1,q2⟩:=qf (i:=i) (tm:=ox E v tm0 Lk E.length) (tm':=(S k).tm) λd hd=>by
   rw[hSk];exact ot d _ λj q _ hj hqd=>hreads d hd j q hj hqd
  exact nr q1 q2
 have hHsame:i.op.kd ≠ .W->hOf E S H0 (λj=>Lk j||j==k) E.length=hOf E S H0 Lk E.length:=λhw=>qp _ λj q _ hj hq=>by
  by_cases e:j=k
  ·subst e;rw[hi]at hj;cases hj;exact absurd hq hw
  ·simp[e]
 have hTsame:i.op.kd ≠ .T->tOf E S T0 (λj=>Lk j||j==k) E.length=tOf E S T0 Lk E.length:=λhw=>qv _ λj q _ hj hq=>by
  by_cases e:j=k
  ·subst e;rw[hi]at hj;cases hj;exact absurd hq hw
  ·simp[e]
 have hHL:(i.op.kd = .R\/i.op.kd = .W\/i.op.kd = .T)->hOf E S H0 Lk E.length=(S k).s.H:=λhw=>by rw[hHk];exact qp _ λj q _ hj hq=>hW hw j q hj hq
 refine⟨?_,λd => ?_⟩
 ·have hS:(S k).s=⟨(S k).s.H,(S k).s.T⟩:=rfl
  cases hkd:i.op.kd with
  | S=>
   rw[hHsame (by rw[hkd];simp),hTsame (by rw[hkd];simp)]
   exact(ov (.inl hkd) hc1).2 _
  | C=>
   rw[hHsame (by rw[hkd];simp),hTsame (by rw[hkd];simp)]
   exact(ov (.inr hkd) hc1).2 _
  | R=>
   rw[hHsame (by rw[hkd];simp),hTsame (by rw[hkd];simp),hHL (.inl hkd)]
   exact(A5 hkd hc1).2 _
  | W=>
   have e1:hOf E S H0 (λj=>Lk j||j==k) E.length=(S (k+1)).s.H:=by
    rw[hHk1]
    refine qp _ λj q _ hj hq => ?_
    have:=hW (.inr (.inl hkd)) j q hj hq
    by_cases e:j=k
    ·subst e;simp
    ·show (Lk j||j==k)=decide (j<k+1)
     rw[this,show (j==k)=false by simpa using e,Bool.or_false]
     exact decide_eq_decide.2 (by omega)
   rw[e1,hTsame (by rw[hkd];simp),hHL (.inr (.inl hkd))]
   exact(R8 hkd hc1).2 _
  | T=>
   have e1:tOf E S T0 (λj=>Lk j||j==k) E.length=(S (k+1)).s.T:=by
    rw[hTk1]
    refine qv _ λj q _ hj hq => ?_
    have:=hT hkd j q hj hq
    by_cases e:j=k
    ·subst e;simp
    ·show (Lk j||j==k)=decide (j<k+1)
     rw[this,show (j==k)=false by simpa using e,Bool.or_false]
     exact decide_eq_decide.2 (by omega)
   have e2:tOf E S T0 Lk E.length=(S k).s.T:=by rw[hTk];exact qv _ λj q _ hj hq=>hT hkd j q hj hq
   have e3:(S (k+1)).s.H=(S k).s.H:=(yd hkA hkX hval).1 (by rw[hkd];simp)
   rw[e1,e2,hHsame (by rw[hkd];simp),hHL (.inr (.inr hkd)),<- e3]
   rw[e3]
   have:({H:=(S k).s.H,T:=(S (k+1)).s.T}:ASt)=(S (k+1)).s:=by rw[<- e3]
   rw[this]
   exact hc1
  | A=>exact absurd hkd hkA
  | X=>exact absurd hkd hkX
 ·by_cases hd:i.dst=some d
  ·rw[hd,lz,nq]
   have key:∀n,k<n->n<=E.length->(ox E v tm0 (λj=>Lk j||j==k) n)[d]? = if d<tm0.length then some (v k)else none:=by
    intro n
    induction n with
    | zero=>intro h;omega
    | succ n ih=>
     intro h1 h2
     have hE:E[n]? = some E[n]:=aa (by omega)
     simp only[ox,hE]
     by_cases e:n=k
     ·subst e
      rw[hi]at hE;cases hE
      simp only[beq_self_eq_true,Bool.or_true,if_true]
      rw[hd,lz,nq]
     ·have hne:E[n].dst ≠ some d:=λh=>e (hdst d hd n _ hE h)
      split
      ·rw[l9 hne];exact ih (by omega) (by omega)
      ·exact ih (by omega) (by omega)
   exact key E.length hkl (di _)
  ·rw[l9 hd]
   refine ot d _ λj q _ hj hqd => ?_
   by_cases e:j=k
   ·subst e;rw[hi]at hj;cases hj;exact absurd hqd hd
   ·simp[e]
theorem a35 (hr:Bt call md E S v) {c:Nat} (hc:wh E c) (hH:(S c).s.H=H0) (hT0:(S c).s.T=T0) (h0:(S 0).tm=tm0) {q:Nat} {p:PI} {x:AV} {s':ASt} (hq:c<=q) (hql:q<=E.length) (hp:jl call md p (S q).tm (S q).s=some (.inr x,s')) (hpk:p.op.kd = .S\/p.op.kd = .C)
  (hreads:∀d,p.looks d=true -> ∀j i,E[j]? = some i->i.dst=some d->Lk j=decide (j<q))
  (hW:∀j i,E[j]? = some i->(i.op.kd = .W\/i.op.kd = .T)->Lk j=decide (j<q)) :
  jl call md p (ox E v tm0 Lk E.length) ⟨hOf E S H0 Lk E.length,tOf E S T0 Lk E.length⟩=some (.inr x,(S q).s)/\(⟨hOf E S H0 Lk E.length,tOf E S T0 Lk E.length⟩:ASt)=(S q).s:=by
 have hSk:(S q).tm=ox E v tm0 (λj=>decide (j<q)) E.length:=by
  have:=Ab hr h0 q E.length (di _)
  rwa [show min E.length q=q by omega]at this
 have hHk:(S q).s.H=hOf E S H0 (λj=>decide (j<q)) E.length:=by
  have:=Ar hr hc hH q hq E.length (di _)
  rwa [show max c (min E.length q)=q by omega]at this
 have hTk:(S q).s.T=tOf E S T0 (λj=>decide (j<q)) E.length:=by
  have:=B9 hr hc hT0 q hq E.length (di _)
  rwa [show max c (min E.length q)=q by omega]at this
 have e1:hOf E S H0 Lk E.length=(S q).s.H:=by rw[hHk];exact qp _ λj i _ hj hi=>hW j i hj (.inl hi)
 have e2:tOf E S T0 Lk E.length=(S q).s.T:=by rw[hTk];exact qv _ λj i _ hj hi=>hW j i hj (.inr hi)
 have e3:(⟨hOf E S H0 Lk E.length,tOf E S T0 Lk E.length⟩:ASt)=(S q).s:=by rw[e1,e2]
 refine⟨?_,e3⟩
 rw[e3]
 have hs:s'=(S q).s:=(ov hpk hp).1
 rw[hs]at hp
 rw[<- hp]
 obtain⟨q1,q2⟩:=qf (i:=p) (tm:=ox E v tm0 Lk E.length) (tm':=(S q).tm) λd hd=>by
  rw[hSk];exact ot d _ λj i _ hj hid=>hreads d hd j i hj hid
 exact nr q1 q2
def B0 (call:ia) (md:FuncId->Md):List PI->St->St->Prop
 | [],st,st'=>st=st'
 | i::l,st,st'=>∃st1,iw call md true i st=some (.normal,st1)/\B0 call md l st1 st'
theorem B0.append:∀{l m:List PI} {a b c:St},B0 call md l a b->B0 call md m b c->B0 call md (l++m) a c
 | [],_,_,_,_,h,k=>by have:_=_:=h;subst this;exact k
 | _::_,_,_,_,_,⟨s1,h1,h2⟩,k=>⟨s1,h1,h2.append k⟩
theorem B0.Zh:∀{l:List PI} {a b:St},(∀i ∈ l,i.op.kd ≠ .X)->B0 call md l a b -> ∃S v,S 0=a/\S l.length=b/\Bt call md l S v
 | [],a,b,_,h=>by
  have:a=b:=h
  subst this
  exact⟨λ_=>a,λ_=>.unk,rfl,rfl,⟨λk i h=>by simp at h,λk i h=>by simp at h,λk i h=>by simp at h⟩⟩
 | i::l,a,b,hX,⟨s1,h1,h2⟩=>by
  obtain⟨S,v,e1,e2,hr⟩:=h2.Zh λj hj=>hX j (by simp[hj])
  obtain⟨x,hx,hst⟩:=Ax (hX i (by simp)) h1
  refine⟨λk=>match k with|0=>a|k+1=>S k,λk=>match k with|0=>x|k+1=>v k,rfl,e2,⟨λk j hj => ?_,λk j hj => ?_,λk j hj => ?_⟩⟩
  ·cases k with
   | zero=>simp at hj;subst hj;simp only[e1];exact hx
   | succ k=>exact hr.val k j (by simpa using hj)
  ·cases k with
   | zero=>simp at hj;subst hj;simp only[e1];rw[hst]
   | succ k=>exact hr.tm k j (by simpa using hj)
  ·cases k with
   | zero=>simp at hj;subst hj;simp only[e1];rw[hst]
   | succ k=>exact hr.df k j (by simpa using hj)
theorem zt {hd:List PI} {k:Nat} {x:AV} {s:ASt}:∀{l:List PI} {st:St} {r:St × Option (AV × ASt)},js call md hd l st (some (k,x,s))=some r->r.2=some (x,s)/\B0 call md (l.filter λq => !q.pre.contains k) st r.1
 | [],st,r,h=>by
  simp only[js,fe]at h;subst h
  exact⟨rfl,rfl⟩
 | i::l,st,r,h=>by
  simp only[js]at h
  split at h
  ·rename_i hp
   obtain⟨h1,h2⟩:=zt h
   refine⟨h1, ?_⟩
   rw[List.filter_cons,if_neg (by rw[hp];simp)]
   exact h2
  ·rename_i hp
   split at h
   ·rename_i st1 hs
    obtain⟨h1,h2⟩:=zt h
    refine⟨h1, ?_⟩
    rw[List.filter_cons,if_pos (by simpa using hp)]
    exact⟨st1,hs,h2⟩
   ·simp at h
theorem F5 {hd:List PI}:∀{l:List PI} {st:St} {r:St × Option (AV × ASt)},js call md hd l st none=some r ->
  (r.2=none/\B0 call md l st r.1)\/(∃l1 p l2 st1 x st2,l=l1++p::l2/\B0 call md l1 st st1/\iw call md true p st1=some (.pan x,st2)/\Cj hd p=true/\r.2=some (x,st1.s)/\B0 call md (l2.filter λq => !q.pre.contains p.ix) st1 r.1)
 | [],st,r,h=>by
  simp only[js,fe]at h;subst h
  exact .inl ⟨rfl,rfl⟩
 | i::l,st,r,h=>by
  simp only[js]at h
  split at h
  ·rename_i st1 hs
   rcases F5 h with⟨h1,h2⟩|⟨l1,p,l2,s1,x,s2,rfl,h2,h3,h4,h5,h6⟩
   ·exact .inl ⟨h1,st1,hs,h2⟩
   ·exact .inr ⟨i::l1,p,l2,s1,x,s2,rfl,⟨st1,hs,h2⟩,h3,h4,h5,h6⟩
  ·rename_i x st1 hs
   split at h
   ·rename_i he
    obtain⟨h1,h2⟩:=zt h
    exact .inr ⟨[],i,l,st,x,st1,rfl,rfl,hs,he,h1,h2⟩
   ·simp at h
  ·simp at h
end
end Go.Proofs.Eng
namespace Go.Proofs.Eng
open Go.RowKit
variable [DrK]
section
variable {P:Program} {call:ia} {md:FuncId->Md} {bsf:Bf}
theorem zw {cl:List (List Nat)}:∀{l:List PI} {k j:Nat} {p:PI},(number cl l k)[j]? = some p -> ∃i,l[j]? = some i/\p = {i with ix:=k+j,pre:=cl.getD (k+j) []}
 | [],k,j,p,h=>by simp[number]at h
 | i::l,k,j,p,h=>by
  simp only[number]at h
  cases j with
  | zero=>simp at h;exact⟨i,rfl,by rw[<- h];simp⟩
  | succ j=>
   obtain⟨i',h1,h2⟩:=zw (by simpa using h)
   exact⟨i',by simpa using h1,by rw[h2,show k+1+j=k+(j+1) by omega]⟩
theorem z8 {cl:List (List Nat)}:∀{l:List PI} {k:Nat},(number cl l k).length=l.length
 | [],_=>rfl
 | _::l,_=>by simp[number,z8 (l:=l)]
structure jo (P:Program) (bsf:Bf) (ops:Array Oper) (ps:List PI):Prop where
 len:ps.length=ops.size
 Wm:Bg P bsf ops 0 ps
 ix:∀(j:Nat) (p:PI),ps[j]? = some p->p.ix=j
 pre:∀(i:Nat) (o:Oper) (p:PI),ops[i]? = some o->ps[i]? = some p -> ∀j ∈ p.pre,∃e ∈ o.after,Region.binds .any e=true/\(e.on=j \/ ∃q:PI,ps[e.on]? = some q/\j ∈ q.pre)
 down:∀(k:Nat) (o:Oper) (e:Edge),ops[k]? = some o->e ∈ o.after->Region.binds .any e=true->e.on<k
structure l6 (ops:Array Oper) (ps:List PI) (m n:Nat):Prop where
 le:n<=ops.size
 mle:m<=n
 kdX:∀(i:Nat) (p:PI),m<=i->i<n->ps[i]? = some p->p.op.kd ≠ .X/\(p.op.kd ≠ .A\/p.g=none)
 At:∀(i j:Nat) (p q:PI),m<=j->j<i->i<n->ps[i]? = some p->ps[j]? = some q->p.op.kd.At q.op.kd=true->j ∈ p.pre
 dst:∀(i j:Nat) (p q:PI) (d:Nat),m<=i->i<n->m<=j->j<n->ps[i]? = some p->ps[j]? = some q->q.dst=some d->(i=j\/p.dst ≠ some d)/\(p.looks d=true->j ∈ p.pre\/(i<j/\p.op.kd ≠ .A/\q.op.kd ≠ .A/\i ∈ q.pre))
 sink:n=ops.size \/ ∀i,m<=i->i<n -> ∃j,i<j/\j<=n /\ ∃o:Oper,ops[j]? = some o /\ ∃e ∈ o.after,e.on=i/\Region.binds .any e=true
 later:∀j,n<j->j<ops.size -> ∃o:Oper,ops[j]? = some o /\ ∃e ∈ o.after,n<=e.on/\Region.binds .any e=true
theorem zo {ops:Array Oper} {j i:Nat} (h:waits ops j i=true):∃o,ops[j]? = some o /\ ∃e ∈ o.after,e.on=i/\Region.binds .any e=true:=by
 unfold waits at h
 split at h
 ·simp at h
 ·rename_i o ho
  rw[<- Array.any_toList,List.any_eq_true]at h
  obtain⟨e,he,h⟩:=h
  have he:=Array.mem_toList_iff.1 he
  simp only[dy,beq_iff_eq]at h
  exact⟨o,ho,e,he,h.1,h.2⟩
theorem ry {ps:List PI} {m n:Nat} (h:H8 ps m n=true):(∀(i:Nat) (p:PI),m<=i->i<n->ps[i]? = some p->p.op.kd ≠ .X/\(p.op.kd ≠ .A\/p.g=none)) /\
  (∀(i j:Nat) (p q:PI),m<=j->j<i->i<n->ps[i]? = some p->ps[j]? = some q->p.op.kd.At q.op.kd=true->j ∈ p.pre) /\
  (∀(i j:Nat) (p q:PI) (d:Nat),m<=i->i<n->m<=j->j<n->ps[i]? = some p->ps[j]? = some q->q.dst=some d->(i=j\/p.dst ≠ some d)/\(p.looks d=true->j ∈ p.pre\/(i<j/\p.op.kd ≠ .A/\q.op.kd ≠ .A/\i ∈ q.pre))):=by
 simp only[H8,aw,List.mem_range'_1]at h
 have h0:∀(i:Nat) (p:PI),m<=i->i<n->ps[i]? = some p->(p.op.kd ≠ .X/\(p.op.kd ≠ .A\/p.g=none)) /\ ∀(j:Nat) (q:PI),m<=j->j<n->ps[j]? = some q->((i<=j\/p.op.kd.At q.op.kd=false)\/j ∈ p.pre)/\(∀d,q.dst=some d->(i=j\/p.dst ≠ some d)/\(p.looks d=true->j ∈ p.pre\/(i<j/\p.op.kd ≠ .A/\q.op.kd ≠ .A/\i ∈ q.pre))):=by
  intro i p hm hi hp
  have:=h i ⟨hm,by omega⟩
  rw[hp]at this
  simp only[dy,bne_iff_ne,ne_eq,ei,Option.isNone_iff_eq_none,aw,List.mem_range'_1]at this
  obtain⟨⟨h1,h2⟩,h3⟩:=this
  refine⟨⟨h1,h2⟩,λj q hmj hj hq => ?_⟩
  have:=h3 j ⟨hmj,by omega⟩
  rw[hq]at this
  simp only[dy,ei,decide_eq_true_eq,Bool.not_eq_true',List.contains_iff_mem]at this
  refine⟨this.1,λd hd => ?_⟩
  have h7:=this.2
  rw[hd]at h7
  simp only[dy,ei,beq_iff_eq,bne_iff_ne,ne_eq,Bool.not_eq_true',List.contains_iff_mem,decide_eq_true_eq,and_assoc]at h7
  exact⟨h7.1,λhl=>(or_assoc.1 h7.2).resolve_left (by rw[hl];simp)⟩
 refine⟨λi p hm hi hp=>(h0 i p hm hi hp).1,λi j p q hm hji hi hp hq hcl => ?_,λi j p q d h1 h2 h3 h4 h5 h6 h7=>((h0 i p h1 h2 h5).2 j q h3 h4 h6).2 d h7⟩
 have:=((h0 i p (by omega) hi hp).2 j q hm (by omega) hq).1
 rcases this with(h1|h1)|h1
 ·omega
 ·rw[hcl]at h1;cases h1
 ·exact h1
theorem w9 {ps:List PI} {m n:Nat} (h:Gb ps m n=true):∀(i j:Nat) (p q:PI) (d:Nat),m<=i->i<n->m<=j->j<n->ps[i]? = some p->ps[j]? = some q->q.dst=some d->p.looks d=true->j ∈ p.pre:=by
 intro i j p q d h1 h2 h3 h4 hp hq hd hl
 simp only[Gb,aw,List.mem_range'_1]at h
 have:=h i ⟨h1,by omega⟩
 rw[hp]at this
 simp only[aw,List.mem_range'_1]at this
 have:=this j ⟨h3,by omega⟩
 rw[hq]at this
 simp only[hd,hl,ed,Bool.false_or,List.contains_iff_mem]at this
 exact this
theorem ny {ops:Array Oper} {m k:Nat} (h:Hs ops m k=true):(∀i,m<=i->i<k -> ∃j,i<j/\j<=k /\ ∃o:Oper,ops[j]? = some o /\ ∃e ∈ o.after,e.on=i/\Region.binds .any e=true) /\
  (∀j,k<j->j<ops.size -> ∃o:Oper,ops[j]? = some o /\ ∃e ∈ o.after,k<=e.on/\Region.binds .any e=true):=by
 simp only[Hs,dy,aw,List.mem_range,List.mem_range'_1]at h
 refine⟨λi hm hi => ?_,λj hk hj => ?_⟩
 ·have:=h.2 i ⟨hm,by omega⟩
  obtain⟨j,hj,h2⟩:=List.any_eq_true.1 this
  simp only[dy,decide_eq_true_eq]at h2
  have hj':=List.mem_range.1 hj
  exact⟨j,h2.1,by omega,zo h2.2⟩
 ·have:=h.1 j hj
  simp only[ei,decide_eq_true_eq]at this
  have:=this.resolve_left (by omega)
  split at this
  ·rename_i o ho
   rw[<- Array.any_toList,List.any_eq_true]at this
   obtain⟨e,he,h5⟩:=this
   simp only[dy,decide_eq_true_eq]at h5
   exact⟨o,ho,e,Array.mem_toList_iff.1 he,h5.2,h5.1⟩
  ·cases this
theorem Q6 {ops:Array Oper} {ns:List Nat} {l':List PI} (h:pz P bsf ops=some (.jk ns l')):∃ps:List PI,jo P bsf ops ps/\Fk P bsf.sh ops ps (ops.size+1) 0=some (ns,l'):=by
 unfold pz at h
 split at h
 ·rename_i l0 hl0
  simp only at h
  split at h
  ·rename_i oz
   obtain⟨r,hr,e⟩:=fp h
   cases e
   generalize hps:number (closure ops.toList []) l0 0=ps at *
   obtain⟨hip,hlen⟩:=yn hl0
   have hl:ps.length=ops.size:=by rw[<- hps,z8,hlen]
   simp only[a15,aw,List.mem_range]at oz
   have hget:∀(i:Nat) (o:Oper),ops[i]? = some o -> ∃p,ps[i]? = some p:=by
    intro i o ho
    have:i<ps.length:=by rw[hl];exact(Array.getElem?_eq_some_iff.1 ho).1
    exact⟨ps[i],aa this⟩
   have key:∀(i:Nat) (o:Oper) (p:PI),ops[i]? = some o->ps[i]? = some p->(∀e ∈ o.after,Region.binds .any e=true->e.on<i)/\(∀j ∈ p.pre,∃e ∈ o.after,Region.binds .any e=true/\(e.on=j \/ ∃q:PI,ps[e.on]? = some q/\j ∈ q.pre)):=by
    intro i o p ho hp
    have:=oz i (Array.getElem?_eq_some_iff.1 ho).1
    rw[ho,hp]at this
    simp only[dy,aw]at this
    refine⟨λe he hb => ?_,λj hj => ?_⟩
    ·have h1:=this.1
     rw[Array.all_eq_true_iff_forall_mem]at h1
     have:=h1 e he
     simpa[hb]using this
    ·have:=this.2 j hj
     rw[<- Array.any_toList,List.any_eq_true]at this
     obtain⟨e,he,h5⟩:=this
     simp only[dy,ei,beq_iff_eq]at h5
     refine⟨e,Array.mem_toList_iff.1 he,h5.1, ?_⟩
     rcases h5.2 with h6|h6
     ·exact .inl h6
     ·split at h6
      ·rename_i q hq;exact .inr ⟨q,hq,by simpa using h6⟩
      ·simp at h6
   refine⟨ps,⟨hl, ?_, ?_,λi o p ho hp=>(key i o p ho hp).2,λk o e ho he hb => ?_⟩,hr⟩
   ·intro j p hp
    rw[<- hps]at hp
    obtain⟨i,hi,rfl⟩:=zw hp
    obtain⟨o,ho,r⟩:=hip j i hi
    exact⟨o,ho,r⟩
   ·intro j p hp
    rw[<- hps]at hp
    obtain⟨i,hi,rfl⟩:=zw hp
    simp
   ·obtain⟨p,hp⟩:=hget k o ho
    exact(key k o p ho hp).1 e he hb
  ·simp at h
 ·simp at h
def ll (ops:Array Oper) (listed:Array Bool):Prop:=∀(k:Nat) (o:Oper) (e:Edge),listed.getD k false=true->ops[k]? = some o->e ∈ o.after->Region.binds .any e=true->listed.getD e.on false=true
theorem w8 {ops:Array Oper} {listed:Array Bool} {i:Nat} (h:ll ops listed) (hi:i ∈ Region.ready .any ops listed):ll ops (listed.setIfInBounds i true):=by
 obtain⟨h0,o,ho,hall⟩:=mem_ready.1 hi
 intro k o' e hk ho' he hb
 by_cases hki:k=i
 ·subst hki
  rw[ho]at ho';cases ho'
  exact getD_set_true (hall e he hb)
 ·rw[getD_set_ne false (λe=>hki e.symm)]at hk
  exact getD_set_true (h k o' e hk ho' he hb)
section
variable {ops:Array Oper} {ps:List PI} {m n:Nat}
theorem lf (hF:jo P bsf ops ps) {listed:Array Bool} (hC:ll ops listed):∀(i:Nat) (p:PI),ps[i]? = some p->(∀o e,ops[i]? = some o->e ∈ o.after->Region.binds .any e=true->listed.getD e.on false=true) -> ∀j ∈ p.pre,listed.getD j false=true/\j<i:=by
 intro i
 induction i using Nat.strongRecOn with
 | _ i ih=>
  intro p hp hall j hj
  have hsz:i<ops.size:=by rw[<- hF.len];exact(List.getElem?_eq_some_iff.1 hp).1
  have ho:ops[i]? = some ops[i]:=dw hsz
  obtain⟨e,he,hb,h⟩:=hF.pre i _ p ho hp j hj
  have hlt:=hF.down i _ e ho he hb
  have hle:=hall _ e ho he hb
  rcases h with rfl|⟨q,hq,hjq⟩
  ·exact⟨hle,hlt⟩
  ·have:=ih e.on hlt q hq (λo' e' ho' he' hb'=>hC e.on o' e' hle ho' he' hb') j hjq
   exact⟨this.1,by omega⟩
theorem ph (hF:jo P bsf ops ps) {listed:Array Bool} (hs:listed.size=ops.size):∀(i:Nat),i<ops.size->listed.getD i false=false -> ∃j,j<=i/\j ∈ Region.ready .any ops listed:=by
 intro i
 induction i using Nat.strongRecOn with
 | _ i ih=>
  intro hi hl
  by_cases h:∃o e,ops[i]? = some o/\e ∈ o.after/\Region.binds .any e=true/\listed.getD e.on false=false
  ·obtain⟨o,e,ho,he,hb,hle⟩:=h
   have hlt:=hF.down i o e ho he hb
   obtain⟨j,hj,hr⟩:=ih e.on hlt (by omega) hle
   exact⟨j,by omega,hr⟩
  ·refine⟨i,di _,mem_ready.2 ⟨?_,ops[i],dw hi,λe he hb => ?_⟩⟩
   ·simp only[Array.getD_eq_getD_getElem?]at hl ⊢
    have hlt:i<listed.size:=by omega
    rw[dw hlt]at hl ⊢
    exact hl
   ·cases hle:listed.getD e.on false with
    | true=>rfl
    | false=>exact absurd ⟨ops[i],e,dw hi,he,hb,hle⟩ h
theorem re {listed:Array Bool} {i:Nat} (h:i ∈ Region.ready .any ops listed):i<ops.size:=by
 obtain⟨_,o,ho,_⟩:=mem_ready.1 h
 exact(Array.getElem?_eq_some_iff.1 ho).1
theorem qb {listed:Array Bool} {i:Nat} (hs:listed.size=ops.size) (h:i ∈ Region.ready .any ops listed):listed.getD i false=false:=by
 have hlt:=re h
 obtain⟨h0,_⟩:=mem_ready.1 h
 simp only[Array.getD_eq_getD_getElem?]at h0 ⊢
 rw[dw (by omega)]at h0 ⊢
 exact h0
theorem zu (hG:l6 ops ps m n) {listed:Array Bool} (hC:ll ops listed) (hm:∀j,j<m->listed.getD j false=true) (ht:∀j,n<=j->listed.getD j false=false) {i:Nat} (hi:i ∈ Region.ready .any ops listed) {j0:Nat} (hj0:j0<n) (hl0:listed.getD j0 false=false):i<n:=by
 rcases dj i n with h|hni
 ·exact h
 exfalso
 obtain⟨_,o,ho,hall⟩:=mem_ready.1 hi
 have hlt:=re hi
 rcases dj n i with h|h
 ·obtain⟨o',ho',e,he,hon,hb⟩:=hG.later i h hlt
  rw[ho]at ho';cases ho'
  have:=hall e he hb
  rw[ht e.on hon]at this;cases this
 ·have hin:i=n:=by omega
  subst hin
  rcases hG.sink with h|hsink
  ·omega
  ·have:∀d j,i-j=d->j<i->listed.getD j false=true:=by
    intro d
    induction d using Nat.strongRecOn with
    | _ d ih=>
     intro j hd hj
     rcases dj j m with hjm|hjm
     ·exact hm j hjm
     obtain⟨k,h1,h2,o',ho',e,he,hon,hb⟩:=hsink j hjm hj
     rcases dj k i with hk|hk
     ·have:=ih (i-k) (by omega) k rfl hk
      have:=hC k o' e this ho' he hb
      rwa [hon]at this
     ·have hkn:k=i:=by omega
      subst hkn
      rw[ho]at ho';cases ho'
      have:=hall e he hb
      rwa [hon]at this
   rw[this _ j0 rfl hj0]at hl0;cases hl0
end
end
end Go.Proofs.Eng
