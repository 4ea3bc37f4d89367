/- The engine, tenth part: append. No conditions. -/
import Derived.Test.YtflfmkkcnphdcaaGreatG1
import Derived.Laws.BytesString
import Derived.LoopN
import Derived.Orders
import Derived.RangeFuncLeaves
import Derived.RangeFuncRecord
import Derived.RangeFuncSeq
import Derived.OrdersIn
import Derived.LoopNIn
set_option linter.all false
set_option linter.deprecated false
set_option linter.unnecessarySimpa false
set_option linter.unusedVariables false
set_option linter.unusedSimpArgs false
set_option linter.defProp false
namespace Go.Proofs.Eng
open Go.RowKit
variable [DrK]
section
variable {P:Program} {g:Gh} {s:ASt} {w:World} {tm:List AV} {a:Act} {o:Oper}
theorem Eb (need cap:Nat) (h:cap<need) (hn:need<=1073741824):Builtin.nextslicecap need cap<=4294967296:=by
 unfold Builtin.nextslicecap
 split
 ·omega
 ·split
  ·omega
  ·simp only[Builtin.growBy]
   repeat' split
   all_goals omega
theorem Cq (need cap:Nat) (h:cap<need) (hn:need<=8796093022208):Builtin.nextslicecap need cap<=11000000000000:=by
 unfold Builtin.nextslicecap
 split
 ·omega
 ·split
  ·omega
  ·simp only[Builtin.growBy]
   repeat' split
   all_goals omega
def l8 (w w':World):Prop:=∀b o,w'.cell? ⟨b,o,none⟩=w.cell? ⟨b,o,none⟩
theorem run_append_grow {t u ty e:TypeId} {ie:TypeInfo} {zv:Value} {base:Option Addr} {n cap m:Nat} {xv:Value} {old new:List Value} (hT:P.underlying t=some (.slice e)) (hU:(∃e',P.underlying u=some (.slice e'))\/P.underlying u=some .string)
  (hi:P.info? e=some ie) (hz:ie.zero=some zv) (hby:ie.bytes<=65536/\(ie.size=1->ie.bytes<=24)) (hlen:∀w,(Builtin.lenOf xv).run P w = .ok m w) (hnew:∀w',l8 w w'->(Builtin.firstCells ie.size m xv).run P w' = .ok new.toArray w')
  (hold:∀w',l8 w w'->(Builtin.firstCells ie.size n (.slice base n cap)).run P w' = .ok old.toArray w') (hneed:¬n+m<=cap) (hle:n+m<=1073741824\/ie.size=1/\n+m<=8796093022208) :
  ∃newCap d,w.drawn<=d/\n+m<=newCap/\(Builtin.append_ #[t,u] ty #[.slice base n cap,xv]).run P w =
   .ok (.slice (some ⟨w.heap.size,0,none⟩) (n+m) newCap) (({w with drawn:=d}:World).alloc (.cells (old++new++(Builtin.zeroCells zv.cells (newCap-(n+m))).toList).toArray e)):=by
 have hmax:IntKind.i64.max=9223372036854775807:=by decide
 have h1:¬(((n+m:Nat):Int)>IntKind.i64.max):=by rw[hmax];omega
 have h2:¬Builtin.nextslicecap (n+m) cap*ie.bytes>2 ^ 48:=by
  rcases hle with hle|⟨hs,hle⟩
  ·have:=Nat.mul_le_mul (Eb (n+m) cap (by omega) hle) hby.1
   omega
  ·have:=Nat.mul_le_mul (Cq (n+m) cap (by omega) hle) (hby.2 hs)
   omega
 let w1:World:={w with drawn:=w.drawn+1}
 have hs1:l8 w w1:=λ_ _=>rfl
 refine⟨n+m+(w.tape w.drawn (.appendCap (n+m) cap e)) % (2 ^ 63-(n+m)),w.drawn+1,by omega,by omega, ?_⟩
 have hcat:∀Z:Array Value,old.toArray++new.toArray++Z=(old++new++Z.toList).toArray:=λZ=>by apply Array.ext';simp
 have hask:∀b (w:World),(askRoom b).run P w = .ok () w:=by intro b w;unfold askRoom;split<;>simp[mark,Sem.run]
 have hch:(choose (.appendCap (n+m) cap e)).run P w = .ok (n+m+(w.tape w.drawn (.appendCap (n+m) cap e)) % (2 ^ 63-(n+m))) w1:=by
  simp[choose,Sem.run,Question.forced,Question.cut,w1]
 unfold Builtin.append_
 simp only[List.getElem?_toArray,bw,bu,Sem.run_bind,gu hT,Result.andThen_ok,nj hi]
 rcases hU with⟨e',hU⟩|hU<;>simp only[gu hU,Sem.run_pure,Result.andThen_ok,dz,if_false,hlen,Sem.run_bind,if_neg hneed,h1,false_and,Ah hi,h2,hch,hask,hold w1 hs1,ee,if_true,hnew w1 hs1,vd hi hz,Sem.run_pure] <;>
  simp only[newRow,newObj,Sem.run_bind,Sem.run_pure,Result.andThen_ok,hcat]<;>rfl
theorem uw {t u ty e:TypeId} {ie:TypeInfo} {b:Nat} {n cap m:Nat} {xv:Value} {new cur:List Value} {el:TypeId} (hT:P.underlying t=some (.slice e)) (hU:(∃e',P.underlying u=some (.slice e'))\/P.underlying u=some .string)
  (hi:P.info? e=some ie) (hlen:∀w,(Builtin.lenOf xv).run P w = .ok m w) (hnew:(Builtin.firstCells ie.size m xv).run P w = .ok new.toArray w)
  (hneed:n+m<=cap) (hcur:w.heap[b]? = some (.cells cur.toArray el (0,0))) (hsz:n*ie.size+new.length<=cur.length) (h1:∀c ∈ new,c.oneCell'=true) :
  (Builtin.append_ #[t,u] ty #[.slice (some ⟨b,0,none⟩) n cap,xv]).run P w = .ok (.slice (some ⟨b,0,none⟩) (n+m) cap) (w.setRow b (setAt cur (n*ie.size) new).toArray):=by
 have hst:=run_storeCells_at (P:=P) b (n*ie.size) el new 0 cur.toArray w hcur (by simpa using hsz) h1
 unfold Builtin.append_
 simp only[List.getElem?_toArray,bw,bu,Sem.run_bind,gu hT,Result.andThen_ok,nj hi]
 rcases hU with⟨e',hU⟩|hU<;>simp only[gu hU,Sem.run_pure,Result.andThen_ok,dz,if_false,hlen,Sem.run_bind,if_pos hneed,ee,if_true,hnew,l5,dp,hst,Sem.run_pure]<;>simp[setAt]
theorem Fh {t u ty e:TypeId} {ie:TypeInfo} {b off:Nat} {n cap m:Nat} {xv:Value} {new cur:List Value} {el:TypeId} (hT:P.underlying t=some (.slice e)) (hU:(∃e',P.underlying u=some (.slice e'))\/P.underlying u=some .string)
  (hi:P.info? e=some ie) (hlen:∀w,(Builtin.lenOf xv).run P w = .ok m w) (hnew:(Builtin.firstCells ie.size m xv).run P w = .ok new.toArray w)
  (hneed:n+m<=cap) (hcur:w.heap[b]? = some (.cells cur.toArray el (0,0))) (hsz:off+n*ie.size+new.length<=cur.length) (h1:∀c ∈ new,c.oneCell'=true) :
  (Builtin.append_ #[t,u] ty #[.slice (some ⟨b,off,none⟩) n cap,xv]).run P w = .ok (.slice (some ⟨b,off,none⟩) (n+m) cap) (w.setRow b (setAt cur (off+n*ie.size) new).toArray):=by
 have hst:=run_storeCells_at (P:=P) b (off+n*ie.size) el new 0 cur.toArray w hcur (by simpa using hsz) h1
 unfold Builtin.append_
 simp only[List.getElem?_toArray,bw,bu,Sem.run_bind,gu hT,Result.andThen_ok,nj hi]
 rcases hU with⟨e',hU⟩|hU<;>simp only[gu hU,Sem.run_pure,Result.andThen_ok,dz,if_false,hlen,Sem.run_bind,if_pos hneed,ee,if_true,hnew,l5,hst,Sem.run_pure]<;>simp[setAt]
theorem run_append_nil {t u ty e:TypeId} {ie:TypeInfo} {base:Option Addr} {n cap:Nat} {xv:Value} (hT:P.underlying t=some (.slice e)) (hU:(∃e',P.underlying u=some (.slice e'))\/P.underlying u=some .string)
  (hi:P.info? e=some ie) (hlen:∀w,(Builtin.lenOf xv).run P w = .ok 0 w) (hnew:(Builtin.firstCells ie.size 0 xv).run P w = .ok #[] w) (hneed:n<=cap) :
  (Builtin.append_ #[t,u] ty #[.slice base n cap,xv]).run P w = .ok (.slice base n cap) w:=by
 unfold Builtin.append_
 simp only[List.getElem?_toArray,bw,bu,Sem.run_bind,gu hT,Result.andThen_ok,nj hi]
 rcases hU with⟨e',hU⟩|hU<;>simp only[gu hU,Sem.run_pure,Result.andThen_ok,dz,if_false,hlen,Sem.run_bind,Nat.add_zero,if_pos hneed,ee,if_true,hnew]<;>cases base<;>simp[storeCells]
def Gh.own (g:Gh) (id:Nat) (q:Ow):Gh:={g with ow:=λj=>if j=id then some q else g.ow j}
theorem Gz (hI:Inv g s w) {id:Nat} {T':List Nat} (hid:id<T'.length) (hle:s.T.length<=T'.length) (hT1:∀i v,i ≠ id->s.T[i]? = some v->T'[i]? = some v) (hT2:∀v,s.T[id]? = some v -> ∃v',T'[id]? = some v'/\v<v')
  {cs:Array Value} {el:TypeId} {d es cap n:Nat} (hsz:cap*es<=cs.size) (hn:n<=cap) (hd:w.drawn<=d:=by omega) :
  let g':=g.own id ⟨w.heap.size,es,cap,n⟩
  let s':ASt:={s with T:=T'}
  let w':=({w with drawn:=d}:World).alloc (.cells cs el)
  Inv g' s' w'/\Ext g s w g' s' w':=by
 intro g' s' w'
 have hblk:∀b,b<w.heap.size->w'.heap[b]? = w.heap[b]? := λb hb=>Below.heap_alloc {w with drawn:=d} _ b hb
 have hsize:w'.heap.size=w.heap.size+1:=ks _ _
 have e:Ext g s w g' s' w':={
  mu:=λ_ _ h=>h
  T:=λi v h=>by
   by_cases hi:i=id
   ·subst hi
    obtain⟨v',h1,h2⟩:=hT2 v h
    exact⟨v',h1,by omega,λe=>by omega⟩
   ·exact⟨v,hT1 i v hi h,di _,λ_=>by simp only[g',Gh.own,if_neg hi]⟩
  size:=by omega
  sz:=.same hblk
  cell:=λb o hb _=>World.cell?_of_block (w:=w) (a:=⟨b,o,none⟩) (hblk b hb)
  wr:=λb o hb h h'=>by
   rcases h' with h'|⟨id,q,h1,h2,h3⟩|h'
   ·exact h (.inl h')
   ·simp only[g',Gh.own]at h1
    split at h1
    ·cases h1;simp at h2;omega
    ·exact h (.inr (.inl ⟨id,q,h1,h2,h3⟩))
   ·exact h (.inr (.inr h'))
  obj:=λb hb h=>⟨hblk b hb,λh'=>by
   rcases h' with h'|⟨id,q,h1,h2⟩
   ·exact h (.inl h')
   ·simp only[g',Gh.own]at h1
    split at h1
    ·cases h1;simp at h2;omega
    ·exact h (.inr ⟨id,q,h1,h2⟩)⟩
  fb:=rfl
  os:=rfl
  tape:=rfl
  output:=⟨rfl,λ_=>hd⟩}
 refine⟨⟨λi b h=>⟨(hI.lt i b h).1,by have:=(hI.lt i b h).2;omega⟩,hI.inj,λi b ob h ho => ?_,λid q h => ?_,λid id' q q' h h' hb => ?_,λid q i h h' => ?_,λb o h=>by have:=hI.u5 b o h;omega,hI.vg,λid q o h hf => ?_,hI.knE e⟩,e⟩
 ·have:=hI.obj i b ob h ho
  have hb:=hblk b (hI.lt i b h).2
  cases ob with
  | cells fz l=>obtain⟨cs,el,h1,h2⟩:=this;exact⟨cs,el,h1.imp λ_ h=>hb.trans h,h2.mono e⟩
  | map es=>obtain⟨ents,clk,h1,h2,h3⟩:=this;exact⟨ents,clk,hb.trans h1,h2.mono e,h3.mono e⟩
  | dead=>trivial
 ·simp only[g',Gh.own]at h
  split at h
  ·rename_i hi;cases h;subst hi;exact⟨hid,hn,cs,el,je _ _,hsz⟩
  ·obtain⟨h1,h2,c,el',h3,h4⟩:=hI.rf _ q h
   exact⟨dq h1 hle,h2,c,el',(hblk _ (Array.getElem?_eq_some_iff.1 h3).1).trans h3,h4⟩
 ·simp only[g',Gh.own]at h h'
  have hlt:∀id q,g.ow id=some q->q.b<w.heap.size:=λid q h=>by obtain⟨_,_,c,el',h3,_⟩:=hI.rf id q h;exact(Array.getElem?_eq_some_iff.1 h3).1
  split at h<;>split at h'
  ·rename_i h1 h2;rw[h1,h2]
  ·cases h;have:=hlt _ _ h';simp at hb;omega
  ·cases h';have:=hlt _ _ h;simp at hb;omega
  ·exact hI.og _ _ q q' h h' hb
 ·simp only[g',Gh.own]at h
  split at h
  ·cases h;have:=(hI.lt _ _ h').2;simp at this
  ·exact hI.s8 _ q i h h'
 ·simp only[g',Gh.own]at h
  split at h
  ·cases h;exact absurd (hI.u5 _ _ hf) (Nat.lt_irrefl _)
  ·exact hI.u9 _ q o h hf
theorem Eh (hI:Inv g s w) {id ver:Nat} {q:Ow} (hq:g.ow id=some q) (hT:s.T[id]? = some ver) {cs cs':List Value} {el:TypeId} (hcs:w.heap[q.b]? = some (.cells cs.toArray el (0,0))) (hlen:cs'.length=cs.length)
  (hsame:∀k,k<q.n*q.es->cs'[k]? = cs[k]?) {n':Nat} (hn:q.n<=n') (hn':n'<=q.cap) (hes:q.cap*q.es<=cs.length) :
  let g':=g.own id ⟨q.b,q.es,q.cap,n'⟩
  let s':ASt:={s with T:=s.T.set id (ver+1)}
  let w':=w.setRow q.b cs'.toArray
  Inv g' s' w'/\Ext g s w g' s' w':=by
 intro g' s' w'
 have hidlt:id<s.T.length:=(List.getElem?_eq_some_iff.1 hT).1
 have hne:∀b,b ≠ q.b->w'.heap[b]? = w.heap[b]? := λb hb=>setRow_other w q.b b _ hb
 have hnew:w'.heap[q.b]? = some (.cells cs'.toArray el (0,0)):=setRow_heap w q.b _ _ el (0,0) hcs
 have hsize:w'.heap.size=w.heap.size:=setRow_size w _ _
 have hmul:q.n*q.es<=n'*q.es:=Nat.mul_le_mul_right _ hn
 have e:Ext g s w g' s' w':={
  mu:=λ_ _ h=>h
  T:=λid' v h=>by
   by_cases hid:id'=id
   ·subst hid;rw[hT]at h;cases h
    exact⟨ver+1,by simp[s',hidlt],by omega,λe=>by omega⟩
   ·exact⟨v,by simp only[s'];rw[b9,if_neg (Ne.symm hid)];exact h,di _,λ_=>by simp only[g',Gh.own,if_neg hid]⟩
  size:=by omega
  sz:=.one hne λc el' fz h=>by rw[hcs]at h;cases h;exact⟨_,_,hnew,by simp[hlen]⟩
  cell:=λb o hb h=>by
   by_cases hbq:b=q.b
   ·subst hbq
    have ho:o<q.n*q.es:=by
     rcases dj o (q.n*q.es)with h'|h'
     ·exact h'
     ·exact absurd (.inr (.inl ⟨id,q,hq,rfl,h'⟩)) h
    simp only[World.cell?,hnew,hcs]
    simpa using hsame o ho
   ·exact World.cell?_of_block (w:=w) (a:=⟨b,o,none⟩) (hne b hbq)
  wr:=λb o hb h h'=>by
   rcases h' with h'|⟨id',q',h1,h2,h3⟩|h'
   ·exact h (.inl h')
   ·simp only[g',Gh.own]at h1
    split at h1
    ·cases h1;simp only at h2 h3;exact h (.inr (.inl ⟨id,q,hq,h2,by omega⟩))
    ·exact h (.inr (.inl ⟨id',q',h1,h2,h3⟩))
   ·exact h (.inr (.inr h'))
  obj:=λb hb h=>⟨hne b λe=>h (.inr ⟨id,q,hq,e.symm⟩),λh'=>by
   rcases h' with h'|⟨id',q',h1,h2⟩
   ·exact h (.inl h')
   ·simp only[g',Gh.own]at h1
    split at h1
    ·cases h1;exact h (.inr ⟨id,q,hq,h2⟩)
    ·exact h (.inr ⟨id',q',h1,h2⟩)⟩
  fb:=rfl
  os:=rfl
  tape:=rfl
  output:=⟨rfl,λ_=>di _⟩}
 refine⟨⟨λi b h=>⟨(hI.lt i b h).1,by have:=(hI.lt i b h).2;omega⟩,hI.inj,λi b ob h ho => ?_,λid' q' h => ?_,λid1 id2 q1 q2 h h' hb => ?_,λid' q' i h h' => ?_,λb o h=>by have:=hI.u5 b o h;omega,hI.vg,λid' q' o h hf => ?_,hI.knE e⟩,e⟩
 ·have:=hI.obj i b ob h ho
  have hb:=hne b λe=>hI.s8 id q i hq (by rw[<- e];exact h)
  cases ob with
  | cells fz l=>obtain⟨cs,el,h1,h2⟩:=this;exact⟨cs,el,h1.imp λ_ h=>hb.trans h,h2.mono e⟩
  | map es=>obtain⟨ents,clk,h1,h2,h3⟩:=this;exact⟨ents,clk,hb.trans h1,h2.mono e,h3.mono e⟩
  | dead=>trivial
 ·simp only[g',Gh.own]at h
  split at h
  ·cases h;subst id';exact⟨by simpa[s']using hidlt,hn',_,el,hnew,by simpa[hlen]using hes⟩
  ·rename_i hid
   obtain⟨h1,h2,c,el',h3,h4⟩:=hI.rf id' q' h
   exact⟨by simpa[s']using h1,h2,c,el',(hne _ λe=>hid (hI.og id' id q' q h hq e)).trans h3,h4⟩
 ·simp only[g',Gh.own]at h h'
  split at h<;>split at h'
  ·subst id1;subst id2;rfl
  ·cases h;subst id1;exact hI.og _ _ _ _ hq h' hb
  ·cases h';subst id2;exact hI.og _ _ _ _ h hq hb
  ·exact hI.og id1 id2 q1 q2 h h' hb
 ·simp only[g',Gh.own]at h
  split at h
  ·cases h;exact hI.s8 id q i hq h'
  ·exact hI.s8 id' q' i h h'
 ·simp only[g',Gh.own]at h
  split at h
  ·cases h;exact hI.u9 id q o hq hf
  ·exact hI.u9 id' q' o h hf
theorem vz {ag:Bool} {es:Nat}:∀(n:Nat) (l:List AV),n*es<=l.length->(ag||(es==1&&(l.take n).all AV.one))=true->flat (chunk es ag n l)=l.take (n*es)/\(chunk es ag n l).length=n
 | 0,l,_,_=>by simp[chunk,flat]
 | n+1,l,h,hag=>by
  rw[Nat.succ_mul]at h
  cases ag with
  | true=>
   obtain⟨h1,h3⟩:=vz (ag:=true) (es:=es) n (l.drop es) (by rw[b8];omega) (by simp)
   simp only[chunk,if_true,kp,AV.cells,h1]
   refine⟨?_,by simp[h3]⟩
   rw[Nat.succ_mul,Nat.add_comm,List.take_add]
  | false=>
   simp only[Bool.false_or,dy,beq_iff_eq]at hag
   obtain⟨rfl,hag⟩:=hag
   cases l with
   | nil=>simp at h
   | cons x l=>
    simp only[List.take_succ_cons,cz,dy]at hag
    obtain⟨h1,h3⟩:=vz (ag:=false) (es:=1) n l (by simp at h ⊢;omega) (by simp[hag.2])
    have hx:x.cells=[x]:=by cases x<;>first|rfl|simp[AV.one]at hag
    simp only[chunk,dz,if_false,List.headD_cons,kp,hx]
    refine⟨?_,by simp[chunk]at h3 ⊢;exact h3⟩
    simp only[List.drop_succ_cons,List.drop_zero,h1,Nat.mul_one,List.singleton_append,List.take_succ_cons]
theorem J1 {x:AV} {u:Value} {l:List AV} (h:ku s x=some l) (hr:Rep g s w x u) (hI:Inv g s w) :
  ∃p cap b o cs,u = .slice p l.length cap/\ga g s w (flat l) cs/\(∀k c,cs[k]? = some c->w.cell? ⟨b,o+k,none⟩=some c)/\(l ≠ []->p=some ⟨b,o,none⟩)/\l.length<=cap/\(x = .sl [] .nil->p=none):=by
 unfold ku at h
 split at h
 ·simp only[fe]at h;subst h
  obtain⟨p,cap,b,o,cs,h1,h2,h3,h4,h5,h6⟩:=hr.n8
  exact⟨p,cap,b,o,cs,h1,h2,λk c hk=>(h3 k c hk).1,h4,h5,λe=>by cases e;exact h6.1⟩
 ·rename_i i off len es ag
  split at h
  ·rename_i fz c hH
   split at h
   ·rename_i hc
    simp only[fe]at h;subst h
    obtain⟨b,cap,hb,hu,kh,_⟩:=hr.wc
    obtain⟨cs,el,h1,h2,h3⟩:=hI.ptr hb hH
    obtain⟨k1,k2⟩:=vz (ag:=ag) len (c.drop off) (by simp;omega) hc.2
    refine⟨some ⟨b,off,none⟩,cap,b,off,(cs.drop off).take (len*es),by rw[k2];exact hu, ?_,λk v hk => ?_,λ_=>rfl,by rw[k2];exact kh,λe=>by cases e⟩
    ·rw[k1];exact(h2.drop off).take _
    ·rw[bc]at hk
     split at hk
     ·rw[ba]at hk
      have:=h3 _ _ hk
      simpa using this
     ·simp at hk
   ·simp at h
  ·simp at h
 ·simp at h
theorem sy {p:Option Addr} {b o n cap es:Nat} {cs:List Value} {w':World} (hl:cs.length=n*es) (hc:∀k c,cs[k]? = some c->w.cell? ⟨b,o+k,none⟩=some c) (hp:n ≠ 0->p=some ⟨b,o,none⟩) (hs:l8 w w') (he:0<es) :
  (Builtin.firstCells es n (.slice p n cap)).run P w' = .ok cs.toArray w':=by
 by_cases h0:n=0
 ·subst h0
  have:cs=[]:=by have:=hl;rw[Nat.zero_mul]at this;exact c9 this
  subst this
  cases p with
  | none=>simp[Builtin.firstCells]
  | some ad=>simp[Builtin.firstCells,loadCells,loadCellsFrom]
 ·rw[hp h0]
  have:=run_loadCells_list (P:=P) (w:=w') ⟨b,o,none⟩ cs (λj c hj=>by rw[l5,hs];exact hc j c hj)
  rw[hl]at this
  simp[Builtin.firstCells,this]
theorem D6 {x:AV} {u:Value} {xs:List AV} {es:Nat} (h:zk s x=some xs) (hr:Rep g s w x u) (hI:Inv g s w) (hxs:∀y ∈ xs,y.cells.length=es) (he:0<es) :
  ∃cs:List Value,(∀w,(Builtin.lenOf u).run P w = .ok xs.length w)/\(∀w',l8 w w'->(Builtin.firstCells es xs.length u).run P w' = .ok cs.toArray w')/\ga g s w (flat xs) cs:=by
 unfold zk at h
 split at h
 ·rename_i bs
  simp only[fe]at h;subst h
  cases hr.ke
  have hfl:flat (bs.toList.map λc=>AV.v (.int .u8 c.toNat))=bs.toList.map λc=>AV.v (.int .u8 c.toNat):=by
   have:∀l:List UInt8,flat (l.map λc=>AV.v (.int .u8 c.toNat))=l.map λc=>AV.v (.int .u8 c.toNat):=by
    intro l;induction l with
    | nil=>rfl
    | cons c l ih=>simp only[bq,kp,ih,AV.cells];rfl
   exact this _
  have hsize:bs.toList.length=bs.size:=by rw[ByteArray.toList_eq];simp
  refine⟨bs.toList.map λc=>.int .u8 c.toNat,λw=>by simp[Builtin.lenOf,hsize],λw' _ => ?_, ?_⟩
  ·simp only[Builtin.firstCells,dg,hsize,ByteArray.extract_zero_size,Sem.run_pure]
   congr 1
   rw[ByteArray.toList_eq]
   apply Array.ext'
   simp
  ·rw[hfl]
   refine⟨by simp,λk a c h1 h2 => ?_⟩
   simp only[bh,fi]at h1 h2
   obtain⟨y,hy,rfl⟩:=h1
   obtain⟨z,hz,rfl⟩:=h2
   rw[hy]at hz;cases hz
   exact .v rfl
 ·obtain⟨p,cap,b,o,cs,h1,h2,h3,h4,h5,_⟩:=J1 h hr hI
  subst h1
  refine⟨cs,λw=>by simp[Builtin.lenOf],λw' hs=>sy (by rw[<- h2.1,lh hxs]) h3 (λhne=>h4 (by rintro rfl;simp at hne)) hs he,h2⟩
theorem D8 {xs:List AV} {es:Nat} (h:(xs.all λx=>x.cells.length==es&&x.cells.all ic)=true):(∀y ∈ xs,y.cells.length=es)/\(flat xs).all ic=true:=by
 simp only[aw,dy,beq_iff_eq]at h
 refine⟨λy hy=>(h y hy).1, ?_⟩
 rw[aw]
 intro c hc
 unfold flat at hc
 obtain⟨y,hy,hcy⟩:=List.mem_flatMap.1 hc
 exact(h y hy).2 c hcy
theorem uf (l m:List AV):flat (l++m)=flat l++flat m:=by simp[flat]
theorem Gt (hI:Inv g s w) {i b b':Nat} {c c':List AV} {w':World} (hb:g.mu i=some b) (hH:s.H[i]? = some (.cells false c)) (hs:w.heap.size<=w'.heap.size) (hoth:∀k,k<w.heap.size->k ≠ b'->w'.heap[k]? = w.heap[k]?) (hb':b'=b\/(w.heap.size<=b'/\b'<w'.heap.size)) (hz:x9 w w')
  (h1:w'.os=w.os) (h2:w'.tape=w.tape) (h3:w'.output=w.output/\(DrK.d->w.drawn<=w'.drawn)) :
  let g':=g.bind s.H.length b'
  let s':ASt:={s with H:=s.H.set i .dead++[.cells false c']}
  Ext g s w g' s' w'/\(Ih g' s' w' b' (.cells false c')->Inv g' s' w'):=by
 intro g' s'
 have hn:=oe hI
 have hilt:=(hI.lt i b hb).1
 have hblt:=(hI.lt i b hb).2
 have hnew:s'.H[s.H.length]? = some (.cells false c'):=by simp[s']
 have hold:∀j,j<s.H.length->s'.H[j]? = (s.H.set i .dead)[j]? := λj hj=>by simp only[s'];rw[ae (by simpa using hj)]
 have hne:∀j,j<s.H.length->j ≠ i->s'.H[j]? = s.H[j]? := λj hj h=>by rw[hold j hj,b9,if_neg (Ne.symm h)]
 have hdi:s'.H[i]? = some .dead:=by rw[hold i hilt,b9,if_pos rfl,if_pos hilt]
 have x5:∀j:Nat,s.H[j]? = some fq.dead->s'.H[j]? = some fq.dead:=λj h=>by
  have hj:=(List.getElem?_eq_some_iff.1 h).1
  by_cases e:j=i
  ·rw[e];exact hdi
  ·rw[hne j hj e];exact h
 have hmuo:∀j k,g.mu j=some k->j ≠ s.H.length:=λj k h e=>by rw[e,hn]at h;cases h
 have hmu:∀j k,g'.mu j=some k->(j=s.H.length/\k=b')\/(j ≠ s.H.length/\g.mu j=some k):=λj k h=>by
  simp only[g',Gh.bind]at h
  split at h
  ·rename_i e;cases h;exact .inl ⟨e,rfl⟩
  ·rename_i e;exact .inr ⟨e,h⟩
 have hfr:∀k,k<w.heap.size->k=b'->k=b:=λk hk e=>by
  rcases hb' with h|⟨h,_⟩
  ·rw[e,h]
  ·omega
 have e:Ext g s w g' s' w':={
  mu:=λj k h=>by simp only[g',Gh.bind,if_neg (hmuo j k h)];exact h
  T:=λ_ v h=>⟨v,h,di _,λ_=>rfl⟩
  size:=hs
  sz:=hz
  cell:=λk o hk h=>by
   by_cases hkb:k=b'
   ·have:=hfr k hk hkb
    subst this
    exact absurd (.inl ⟨i,c,hb,hH⟩) h
   ·exact World.cell?_of_block (w:=w) (a:=⟨k,o,none⟩) (hoth k hk hkb)
  wr:=λk o hk h h'=>by
   rcases h' with⟨j,l,e1,e2⟩|h'
   ·rcases hmu j k e1 with⟨_,e3⟩|⟨e3,e4⟩
    ·have:=hfr k hk e3
     subst this
     exact h (.inl ⟨i,c,hb,hH⟩)
    ·have hj:=(hI.lt j k e4).1
     by_cases hji:j=i
     ·subst hji;rw[hdi]at e2;cases e2
     ·rw[hne j hj hji]at e2;exact h (.inl ⟨j,l,e4,e2⟩)
   ·exact h (.inr h')
  obj:=λk hk h=>⟨hoth k hk λe=>h (.inl ⟨i,by rw[hb,hfr k hk e]⟩),λh'=>by
   rcases h' with⟨j,e1⟩|h'
   ·rcases hmu j k e1 with⟨_,e3⟩|⟨_,e4⟩
    ·exact h (.inl ⟨i,by rw[hb,hfr k hk e3]⟩)
    ·exact h (.inl ⟨j,e4⟩)
   ·exact h (.inr h')⟩
  fb:=rfl
  os:=h1
  tape:=h2
  output:=h3}
 have hlen:s'.H.length=s.H.length+1:=by simp[s']
 have hob':∀q o,g.ow q=some o->o.b ≠ b':=λq o h e=>by
  obtain⟨_,_,c0,el0,h5,_⟩:=hI.rf q o h
  have:=hfr o.b (Array.getElem?_eq_some_iff.1 h5).1 e
  exact hI.s8 q o i h (by rw[hb,this])
 refine⟨e,λhob=>⟨λj k h => ?_,λj k q h h' => ?_,λj k o h ho => ?_,λq o h => ?_,hI.og,λq o j h h' => ?_,λk o h=>dq (hI.u5 k o h) hs,λj k o h hf => ?_,hI.u9,hI.knE e⟩⟩
 ·rcases hmu j k h with⟨e1,e2⟩|⟨_,e2⟩
  ·rw[hlen,e1,e2]
   exact⟨Nat.lt_succ_self _,by rcases hb' with h|h<;>omega⟩
  ·have:=hI.lt j k e2
   exact⟨by omega,by omega⟩
 ·have one:∀m,g.mu m=some b'->s'.H[m]? = some .dead:=λm hm=>by
   have hml:=hI.lt m b' hm
   have hbb:=hfr b' hml.2 rfl
   rcases hI.inj m i b' hm (by rw[hb,hbb])with h5|h5|h5
   ·rw[h5];exact hdi
   ·exact x5 m h5
   ·rw[hH]at h5;cases h5
  rcases hmu j q h with⟨e1,e2⟩|⟨_,e2⟩<;>rcases hmu k q h' with⟨e3,e4⟩|⟨_,e4⟩
  ·exact .inl (e1.trans e3.symm)
  ·exact .inr (.inr (one k (by rw[e4,e2])))
  ·exact .inr (.inl (one j (by rw[e2,e4])))
  ·rcases hI.inj j k q e2 e4 with h5|h5|h5
   ·exact .inl h5
   ·exact .inr (.inl (x5 j h5))
   ·exact .inr (.inr (x5 k h5))
 ·rcases hmu j k h with⟨e1,e2⟩|⟨e1,e2⟩
  ·rw[e1,hnew]at ho;cases ho
   rw[e2];exact hob
  ·have hj:=hI.lt j k e2
   by_cases hji:j=i
   ·subst hji;rw[hdi]at ho;cases ho;trivial
   ·rw[hne j hj.1 hji]at ho
    by_cases hod:o = .dead
    ·subst hod;trivial
    have hkb:k ≠ b':=λh=>by
     rcases hI.inj j i k e2 (by rw[hb,hfr k hj.2 h])with h5|h5|h5
     ·exact hji h5
     ·rw[ho]at h5;exact hod (Option.some.inj h5)
     ·rw[hH]at h5;cases h5
    have:=hI.obj j k o e2 ho
    have hbk:=hoth k hj.2 hkb
    cases o with
    | cells fz l=>obtain⟨cs,el,h1,h2⟩:=this;exact⟨cs,el,h1.imp λ_ h=>hbk.trans h,h2.mono e⟩
    | map es=>obtain⟨ents,clk,h1,h2,h3⟩:=this;exact⟨ents,clk,hbk.trans h1,h2.mono e,h3.mono e⟩
    | dead=>trivial
 ·obtain⟨h5,h6,c0,el0,h7,h8⟩:=hI.rf q o h
  exact⟨h5,h6,c0,el0,(hoth _ (Array.getElem?_eq_some_iff.1 h7).1 (hob' q o h)).trans h7,h8⟩
 ·rcases hmu j _ h' with⟨_,e2⟩|⟨_,e2⟩
  ·exact hob' q o h e2
  ·exact hI.s8 q o j h e2
 ·rcases hmu j k h with⟨_,e2⟩|⟨_,e2⟩
  ·subst e2
   have:=hfr k (hI.u5 _ _ hf) rfl
   subst this
   exact hI.vg i k o hb hf
  ·exact hI.vg j k o e2 hf
theorem Wl {t u e:TypeId} {x y:Operand} {x' y':X} {es i off len es':Nat} {ag ag':Bool} {z:AV} {xs:List AV} {av v:AV} {s':ASt} (ho:o.op = .call {callee:=.builtin .append,args := #[x,y],argTypes := #[t,u]}) (hT:P.underlying t=some (.slice e))
  (hU:(∃e',P.underlying u=some (.slice e'))\/P.underlying u=some .string) (hE:tj P e=some (ag,es,z)) (hx:gh x=some x') (hy:gh y=some y') (ex:evX tm x'=some (.bs i off len es' ag')) (ey:evX tm y'=some av) (hsrc:zk s av=some xs)
  (ha:Ps s es i off len es' ag' xs=some (v,s')) (hI:Inv g s w) (ht:ga g s w tm a.tmps.toList):WR P g s w a o v s':=by
 obtain⟨hA,hzT,hzl,ie,hie,hby,hes⟩:=qz hE
 obtain⟨zv,iz,h1,h2,h3⟩:=lu hzT
 rw[hie]at h1;cases h1
 obtain⟨_,_,hpos,_⟩:=jm hA
 have hry:=fx hy ey ht
 obtain⟨b,cap,hb,hu,kh,C0,el0,fz0,hz1,hz2⟩:=(fx hx ex ht).wc
 unfold Ps at ha
 split at ha
 case h_2=>simp at ha
 rename_i c hH
 split at ha
 case isFalse=>simp at ha
 rename_i hcond
 obtain⟨rfl,rfl,hlc,hne,hle,hxx⟩:=hcond
 simp only[fe,ff]at ha
 obtain⟨rfl,rfl⟩:=ha
 obtain⟨hxl,hxo⟩:=D8 hxx
 have hxs0:0<xs.length:=List.length_pos_iff.2 hne
 obtain⟨cs,el,⟨rest,hc1⟩,hc2⟩:=hI.obj i b _ hb hH
 rw[hz1]at hc1
 simp only[fe,Obj.cells.injEq]at hc1
 obtain⟨rfl,rfl,rfl⟩:=hc1
 rw[dp]at hz2
 obtain⟨ys,k1,k2,k3⟩:=D6 (P:=P) (es:=es) hsrc hry hI hxl hpos
 have hysl:ys.length=xs.length*es:=by rw[<- k3.1,lh hxl]
 have hcl:c.length=cs.length:=hc2.1
 have htk:(cs.take (len*es)).length=len*es:=by rw[b7];omega
 have hexec:∀r,(Builtin.append_ #[t,u] o.type #[.slice (some ⟨b,0,none⟩) len cap,a.eval y]).run P w=r->(execOp a.eval o).run P w=r.andThen λv w'=>.ok (.value v) w':=by
  rintro r rfl
  simp only[execOp,ho,resolve,invoke,builtin,Sem.run_bind,Sem.run_pure,Result.andThen_ok,List.map_toArray,bq,List.map_nil,hu]
 have hnew:ga g s w (c.take (len*es)++flat xs) (cs.take (len*es)++ys):=(hc2.take _).append k3
 simp only[List.size_toArray]at hz2
 by_cases hneed:len+xs.length<=cap
 ·have hneed':(len+xs.length)*es<=cap*es:=Nat.mul_le_mul_right _ hneed
  rw[Nat.add_mul]at hneed'
  have hrun:=uw (P:=P) (w:=w) (ty:=o.type) (u:=u) (n:=len) (cap:=cap) (new:=ys) (cur:=cs++rest) hT hU hie k1 (by rw[hes];exact k2 w λ_ _=>rfl) hneed hz1 (by rw[hes,hysl];omega) (k3.vm hxo)
  rw[hes]at hrun
  have hset:setAt (cs++rest) (len*es) ys=(cs.take (len*es)++ys)++(cs++rest).drop (len*es+ys.length):=by
   unfold setAt
   rw[List.take_append_of_le_length (by omega)]
  have hheap:(w.setRow b (setAt (cs++rest) (len*es) ys).toArray).heap[b]? = some (.cells (setAt (cs++rest) (len*es) ys).toArray el0 (0,0)):=setRow_heap w b _ _ el0 (0,0) hz1
  have hsl:(setAt (cs++rest) (len*es) ys).length=(cs++rest).length:=by
   rw[hset];simp only[ah,b8,htk,hysl]at hz2 ⊢;omega
  have hoth:∀k,k ≠ b->(w.setRow b (setAt (cs++rest) (len*es) ys).toArray).heap[k]? = w.heap[k]? := λk hk=>setRow_other w b k _ hk
  obtain⟨j1,j2⟩:=Gt (c':=c.take (len*es)++flat xs) (b':=b) (w':=w.setRow b (setAt (cs++rest) (len*es) ys).toArray) hI hb hH (Nat.le_of_eq (setRow_size w _ _).symm) (λk _ hk=>hoth k hk) (.inl rfl)
   (x9.one hoth λc0 el' fz h=>by rw[hz1]at h;cases h;exact⟨_,_,hheap,by simp only[List.size_toArray,hsl]⟩) rfl rfl ⟨rfl,λ_=>di _⟩
  refine⟨_,_,_,.inl (by rw[hexec _ hrun];rfl),j2 ⟨cs.take (len*es)++ys,el0,⟨_,by rw[hheap,hset]⟩,hnew.mono j1⟩,j1,.bs (by simp[Gh.bind]) hneed ⟨_,_,_,hheap,by simp only[List.size_toArray,hsl,dp];exact hz2⟩,.bind _ _ _⟩
 ·have hold:∀w',l8 w w'->(Builtin.firstCells ie.size len (.slice (some ⟨b,0,none⟩) len cap)).run P w' = .ok (cs.take (len*es)).toArray w':=λw' hs=>
   sy (w:=w) (b:=b) (o:=0) (by rw[hes];exact htk) (λk v hk=>by
    have hk':(cs++rest)[k]? = some v:=by
     rw[bc]at hk
     split at hk
     ·rw[ae (List.getElem?_eq_some_iff.1 hk).1];exact hk
     ·simp at hk
    simp only[World.cell?,hz1,dp]
    simpa using hk') (λ_=>rfl) hs (by omega)
  obtain⟨newCap,d,hd,hnc,hrun⟩:=run_append_grow (P:=P) (w:=w) (ty:=o.type) (base:=some ⟨b,0,none⟩) (n:=len) (cap:=cap) (old:=cs.take (len*es)) (new:=ys) hT hU hie h2 hby k1 (by rw[hes];exact k2) hold hneed (by omega)
  have hzc:(Builtin.zeroCells zv.cells (newCap-(len+xs.length))).size=(newCap-(len+xs.length))*es:=by
   have hzr:ga g s w z.cells zv.cells.toList:=(l7 (g:=g) (s:=s) (w:=w) h3).cells (qt h3)
   have:zv.cells.size=es:=by have:=hzr.1;rw[hzl]at this;simpa using this.symm
   simp[Builtin.zeroCells,this]
  generalize hZ:(Builtin.zeroCells zv.cells (newCap-(len+xs.length))).toList=Z at hrun
  have hZl:Z.length=(newCap-(len+xs.length))*es:=by rw[<- hZ];simpa using hzc
  have htot:(cs.take (len*es)++ys++Z).length=newCap*es:=by
   rw[ah,ah,htk,hysl,hZl,<- Nat.add_mul,<- Nat.add_mul];congr 1;omega
  have hblk:∀k,k<w.heap.size->(({w with drawn:=d}:World).alloc (.cells (cs.take (len*es)++ys++Z).toArray e)).heap[k]? = w.heap[k]? := λk hk=>Below.heap_alloc {w with drawn:=d} _ k hk
  have hsz:(({w with drawn:=d}:World).alloc (.cells (cs.take (len*es)++ys++Z).toArray e)).heap.size=w.heap.size+1:=ks _ _
  obtain⟨j1,j2⟩:=Gt (c':=c.take (len*es)++flat xs) (b':=w.heap.size) (w':=({w with drawn:=d}:World).alloc (.cells (cs.take (len*es)++ys++Z).toArray e)) hI hb hH (by omega) (λk hk _=>hblk k hk) (.inr ⟨di _,by omega⟩)
   (.same hblk) rfl rfl ⟨rfl,λ_=>hd⟩
  refine⟨_,_,_,.inl (by rw[hexec _ hrun];rfl),j2 ⟨cs.take (len*es)++ys,e,⟨Z,je _ _⟩,hnew.mono j1⟩,j1,.bs (by simp[Gh.bind]) hnc ⟨_,e,_,je _ _,by simp only[List.size_toArray,htot,dp]⟩,.bind _ _ _⟩
theorem a55 {t u e:TypeId} {x y:Operand} {x' y':X} {es:Nat} {ag:Bool} {z:AV} {bs:Option Bool} {l xs:List AV} {tl:Tl} {av v:AV} {s':ASt} (ho:o.op = .call {callee:=.builtin .append,args := #[x,y],argTypes := #[t,u]}) (hT:P.underlying t=some (.slice e))
  (hU:(∃e',P.underlying u=some (.slice e'))\/P.underlying u=some .string) (hE:tj P e=some (ag,es,z)) (hx:gh x=some x') (hy:gh y=some y') (ex:evX tm x'=some (.sl l tl)) (ey:evX tm y'=some av) (hsrc:zk s av=some xs)
  (hbs:∀b,bs=some b->b=ag) (ha:tr s es bs l tl xs=some (v,s')) (hI:Inv g s w) (ht:ga g s w tm a.tmps.toList):WR P g s w a o v s':=by
 obtain⟨hA,hz,hzl,ie,hie,hby,hes⟩:=qz hE
 obtain⟨zv,iz,h1,h2,h3⟩:=lu hz
 rw[hie]at h1;cases h1
 obtain⟨_,_,hpos,_⟩:=jm hA
 have hrx:=fx hx ex ht
 have hry:=fx hy ey ht
 obtain⟨p,cap,b,off,cs,hu,hr,hc,hp,kh,htl⟩:=hrx.n8
 have hexec:∀r,(Builtin.append_ #[t,u] o.type #[.slice p l.length cap,a.eval y]).run P w=r->(execOp a.eval o).run P w=r.andThen λv w'=>.ok (.value v) w':=by
  rintro r rfl
  simp only[execOp,ho,resolve,invoke,builtin,Sem.run_bind,Sem.run_pure,Result.andThen_ok,List.map_toArray,bq,List.map_nil,hu]
 cases xs with
 | nil=>
  simp only[tr,fe,ff]at ha
  obtain⟨rfl,rfl⟩:=ha
  obtain⟨ys,k1,k2,k3⟩:=D6 (P:=P) (es:=es) hsrc hry hI (by simp) hpos
  have:ys=[]:=by have:=k3.1;simp only[flat,List.flatMap_nil,ao]at this;exact c9 this.symm
  subst this
  have hrun:=run_append_nil (P:=P) (w:=w) (ty:=o.type) (base:=p) (n:=l.length) (cap:=cap) hT hU hie k1 (by rw[hes];exact k2 w λ_ _=>rfl) kh
  exact⟨g,_,w,.inl (by rw[hexec _ hrun];rfl),hI,.refl _ _ _,by rw[<- hu];exact hrx,.refl _ _⟩
 | cons q qs=>
  simp only[tr]at ha
  split at ha
  case isFalse=>simp at ha
  rename_i hcond
  obtain⟨hle,hll,hxx⟩:=hcond
  have hl':=Db hll
  obtain⟨hxl,hxo⟩:=D8 hxx
  generalize hxs:q::qs=xs at *
  have hxs0:0<xs.length:=by rw[<- hxs];simp
  obtain⟨ys,k1,k2,k3⟩:=D6 (P:=P) (es:=es) hsrc hry hI hxl hpos
  have hcsl:cs.length=l.length*es:=by rw[<- hr.1,lh hl']
  have hysl:ys.length=xs.length*es:=by rw[<- k3.1,lh hxl]
  have hold:∀w',l8 w w'->(Builtin.firstCells ie.size l.length (.slice p l.length cap)).run P w' = .ok cs.toArray w':=λw' hs=>
   sy (by rw[hes];exact hcsl) (λk c hk=>(hc k c hk).1) (λhne=>hp (by rintro rfl;simp at hne)) hs (by omega)
  have grow:¬l.length+xs.length<=cap -> ∀(v:AV) (s':ASt),(bs=none/\(v,s')=(AV.sl (l++xs) (.tl s.T.length 0),({s with T:=s.T++[0]}:ASt))) \/
    (∃ag',bs=some ag'/\(v,s')=(AV.bs s.H.length 0 (l.length+xs.length) es ag',({s with H:=s.H++[.cells false (flat (l++xs))]}:ASt))) \/
    (∃id ver tt,bs=none/\s.T[id]? = some ver/\(tt = .tl id (ver+1)\/tt = .tls id (ver+1) es)/\(v,s')=(AV.sl (l++xs) tt,({s with T:=s.T.set id (ver+1)}:ASt)))->WR P g s w a o v s':=by
   intro hneed v s' hr'
   obtain⟨newCap,d,hd,hnc,hrun⟩:=run_append_grow (P:=P) (w:=w) (ty:=o.type) (base:=p) (n:=l.length) (cap:=cap) (old:=cs) (new:=ys) hT hU hie h2 hby k1 (by rw[hes];exact k2) hold hneed (by rw[hes];exact hle)
   have hnew:ga g s w (flat (l++xs)) (cs++ys):=by rw[uf];exact hr.append k3
   have hzc:(Builtin.zeroCells zv.cells (newCap-(l.length+xs.length))).size=(newCap-(l.length+xs.length))*es:=by
    have hzr:ga g s w z.cells zv.cells.toList:=(l7 (g:=g) (s:=s) (w:=w) h3).cells (qt h3)
    have:zv.cells.size=es:=by have:=hzr.1;rw[hzl]at this;simpa using this.symm
    simp[Builtin.zeroCells,this]
   generalize hZ:(Builtin.zeroCells zv.cells (newCap-(l.length+xs.length))).toList=Z at hrun
   have hZl:Z.length=(newCap-(l.length+xs.length))*es:=by rw[<- hZ];simpa using hzc
   have hlens:(cs++ys).length=(l.length+xs.length)*es:=by rw[ah,hcsl,hysl,Nat.add_mul]
   have htot:(cs++ys++Z).length=newCap*es:=by
    rw[ah,hlens,hZl,<- Nat.add_mul];congr 1;omega
   have hsealed:∀(g':Gh) (s':ASt),g'.fb=g.fb->(∀i b,g'.mu i=some b->g.mu i=some b)->(∀id q,g'.ow id=some q->q=⟨w.heap.size,es,newCap,l.length+xs.length⟩\/g.ow id=some q) ->
     ∀k c,(cs++ys)[k]? = some c->oi g' s' (({w with drawn:=d}:World).alloc (.cells (cs++ys++Z).toArray e)) w.heap.size (0+k) c:=by
    intro g' s' hfb hmu how k c hk
    refine⟨?_, ?_⟩
    ·have hk':(cs++ys++Z)[k]? = some c:=by rw[ae (List.getElem?_eq_some_iff.1 hk).1];exact hk
     have:=je ({w with drawn:=d}:World) (.cells (cs++ys++Z).toArray e)
     simp only[World.cell?,this,dp]
     simpa using hk'
    ·have hklt:k<(l.length+xs.length)*es:=by rw[<- hlens];exact(List.getElem?_eq_some_iff.1 hk).1
     rintro(⟨i,l0,e1,_⟩|⟨id,q0,e1,e2,e3⟩|hf)
     ·have:=(hI.lt i _ (hmu i _ e1)).2;omega
     ·rcases how id q0 e1 with rfl|e1
      ·simp only at e3;omega
      ·obtain⟨_,_,c0,el0,e4,_⟩:=hI.rf id q0 e1
       have:=(Array.getElem?_eq_some_iff.1 e4).1;omega
     ·rw[hfb]at hf;exact absurd (hI.u5 _ _ hf) (Nat.lt_irrefl _)
   have own:∀{id v':Nat} {T':List Nat},id<T'.length->s.T.length<=T'.length->(∀i v,i ≠ id->s.T[i]? = some v->T'[i]? = some v)->(∀v,s.T[id]? = some v -> ∃v',T'[id]? = some v'/\v<v')->T'[id]? = some v' ->
     ∀tt,(tt = .tl id v'\/tt = .tls id v' es)->WR P g s w a o (.sl (l++xs) tt) {s with T:=T'}:=by
    intro id v' T' t1 t2 t3 t4 t5 tt htt
    obtain⟨j1,j2⟩:=Gz (cs:=(cs++ys++Z).toArray) (el:=e) (d:=d) (es:=es) (cap:=newCap) (n:=l.length+xs.length) hI t1 t2 t3 t4 (by simp only[List.size_toArray,htot];exact di _) hnc
    refine⟨_,_,_,.inl (by rw[hexec _ hrun];rfl),j1,j2, ?_,λ_ _ h=>h⟩
    have hR:=hnew.mono j2
    refine .sl (b:=w.heap.size) (o:=0) (cs++ys) hR.1 hR.2 (hsealed _ _ rfl (λ_ _ h=>h) λid' q' h => ?_) (λ_=>rfl) (by simp) hnc ?_
    ·simp only[Gh.own]at h
     split at h
     ·cases h;exact .inl rfl
     ·exact .inr h
    ·rcases htt with rfl|rfl
     ·exact⟨v',t5,di _,λ_=>⟨⟨w.heap.size,es,newCap,l.length+xs.length⟩,by simp[Gh.own],rfl,by rw[hnew.1,hlens],rfl,rfl⟩⟩
     ·exact⟨v',t5,di _,λ_=>⟨⟨w.heap.size,es,newCap,l.length+xs.length⟩,0,by simp[Gh.own],rfl,by simp,λ_=>by simp,rfl⟩⟩
   rcases hr' with⟨hb0,e0⟩|⟨ag0,hb0,e0⟩|⟨id,ver,tt,hb0,hT0,htt,e0⟩<;>cases e0
   ·exact own (by simp) (by simp) (λi v _ h=>by rw[ae (List.getElem?_eq_some_iff.1 h).1];exact h) (λv h=>by have:=(List.getElem?_eq_some_iff.1 h).1;omega) (by simp) _ (.inl rfl)
   ·have hId:=hI.drawn d
    have eId:=Ext.drawn g s w d
    have hg:=hId.grow (.cells false (flat (l++xs)))
    have eg:=Ext.grow hId (.cells false (flat (l++xs)))
    have hn:=oe hId
    have eb:=Ext.bind hg hn (.cells (cs++ys++Z).toArray e)
    refine⟨_,_,_,.inl (by rw[hexec _ hrun];rfl),hg.bind hn (by simp) _ λob hob => ?_,(eId.trans eg).trans eb,.bs (by simp[Gh.bind]) hnc ⟨_,e,_,je _ _,by simp only[List.size_toArray,htot,dp]⟩,.bind _ _ _⟩
    simp at hob
    subst hob
    exact⟨cs++ys,e,⟨Z,je _ _⟩,((hnew.mono eId).mono eg).mono eb⟩
   ·have hlt:=(List.getElem?_eq_some_iff.1 hT0).1
    exact own (by simpa using hlt) (by simp) (λi v hi h=>by rw[b9,if_neg (Ne.symm hi)];exact h) (λv h=>⟨ver+1,by simp[hlt],by rw[hT0]at h;cases h;omega⟩) (by simp[hlt]) _ htt
  cases tl with
  | none=>simp at ha
  | al=>simp at ha
  | nil=>
   obtain⟨_,hn0,hc0⟩:=htl
   cases bs with
   | none=>simp only[fe,ff]at ha;obtain⟨rfl,rfl⟩:=ha;exact grow (by omega) _ _ (.inl ⟨rfl,rfl⟩)
   | some ag'=>simp only[fe,ff]at ha;obtain⟨rfl,rfl⟩:=ha;exact grow (by omega) _ _ (.inr (.inl ⟨ag',rfl,rfl⟩))
  | cap c=>
   have hc0:cap=c:=htl.1
   simp only at ha
   split at ha
   ·cases bs with
    | none=>simp only[fe,ff]at ha;obtain⟨rfl,rfl⟩:=ha;exact grow (by omega) _ _ (.inl ⟨rfl,rfl⟩)
    | some ag'=>simp only[fe,ff]at ha;obtain⟨rfl,rfl⟩:=ha;exact grow (by omega) _ _ (.inr (.inl ⟨ag',rfl,rfl⟩))
   ·simp at ha
  | lim c=>
   have hc0:cap=c:=htl
   simp only at ha
   split at ha
   ·cases bs with
    | none=>simp only[fe,ff]at ha;obtain⟨rfl,rfl⟩:=ha;exact grow (by omega) _ _ (.inl ⟨rfl,rfl⟩)
    | some ag'=>simp only[fe,ff]at ha;obtain⟨rfl,rfl⟩:=ha;exact grow (by omega) _ _ (.inr (.inl ⟨ag',rfl,rfl⟩))
   ·simp at ha
  | tl id ver=>
   cases bs with
   | some ag'=>simp at ha
   | none=>
    simp only at ha
    split at ha
    ·rename_i v0 hb0 hT0
     split at ha
     ·rename_i hv0
      obtain⟨hv0,hne⟩:=hv0
      subst hv0
      simp only[fe,ff]at ha;obtain⟨rfl,rfl⟩:=ha
      by_cases hneed:l.length+xs.length<=cap
      ·obtain⟨v1,t1,t2,t3⟩:=htl
       rw[hT0]at t1;cases t1
       obtain⟨q0,q1,q2,q5,rfl,rfl⟩:=t3 rfl
       obtain⟨_,qn,C,el,qh,qs⟩:=hI.rf id q0 q1
       have hl0:0<l.length:=List.length_pos_iff.2 hne
       have hes0:q0.es=es:=by
        rw[lh hl',q2]at q5
        exact Nat.eq_of_mul_eq_mul_left hl0 q5
       have hC:w.heap[q0.b]? = some (.cells C.toList.toArray el (0,0)):=by simpa using qh
       have hneed':(l.length+xs.length)*es<=q0.cap*es:=Nat.mul_le_mul_right _ hneed
       rw[hes0]at qs
       rw[Nat.add_mul]at hneed'
       have hCl:C.toList.length=C.size:=by simp
       have hfit:l.length*es+ys.length<=C.toList.length:=by rw[hysl,hCl];omega
       have hrun:=uw (P:=P) (w:=w) (ty:=o.type) (u:=u) (n:=l.length) (cap:=q0.cap) (new:=ys) hT hU hie k1 (by rw[hes];exact k2 w λ_ _=>rfl) hneed hC (by rw[hes];exact hfit) (k3.vm hxo)
       rw[hes]at hrun
       have hsl:(setAt C.toList (l.length*es) ys).length=C.toList.length:=by
        unfold setAt;simp only[ah,b7,b8];omega
       have oz:∀k,k<l.length*es->(setAt C.toList (l.length*es) ys)[k]? = C.toList[k]? := by
        intro k hk
        unfold setAt
        rw[aj,ae (by rw[b7];omega),bc,if_pos hk]
       obtain⟨j1,j2⟩:=Eh (cs':=setAt C.toList (l.length*es) ys) (n':=l.length+xs.length) hI q1 hT0 hC hsl (by rw[q2,hes0];exact oz) (by omega) hneed (by rw[hes0,hCl];exact qs)
       have hnew:ga g s w (flat (l++xs)) (cs++ys):=by rw[uf];exact hr.append k3
       refine⟨_,_,_,.inl (by rw[hexec _ hrun];rfl),j1,j2, ?_,λ_ _ h=>h⟩
       have hR:=hnew.mono j2
       have hpp:=hp hne
       simp only[fe,Addr.mk.injEq,and_true]at hpp
       obtain⟨hb0,ho0⟩:=hpp
       refine .sl (b:=q0.b) (o:=0) (cs++ys) hR.1 hR.2 (λk c hk=>⟨?_, ?_⟩) (λ_=>rfl) (by simp) hneed ?_
       ·have hst:(w.setRow q0.b (setAt C.toList (l.length*es) ys).toArray).heap[q0.b]? = some (.cells (setAt C.toList (l.length*es) ys).toArray el (0,0)):=setRow_heap w q0.b _ _ el (0,0) qh
        simp only[World.cell?,hst,dp]
        by_cases hkl:k<cs.length
        ·rw[ae hkl]at hk
         have:=(hc k c hk).1
         rw[<- hb0,<- ho0,dp]at this
         simp only[World.cell?,qh]at this
         have h9:=oz k (by rw[<- hcsl];exact hkl)
         simp only[Array.getElem?_toList]at h9
         simp at this ⊢
         rw[h9];exact this
        ·rw[af (by omega),hcsl]at hk
         rw[hcsl]at hkl
         unfold setAt
         have h9:(C.toList.take (l.length*es)).length=l.length*es:=by rw[b7];omega
         have hk2:=(List.getElem?_eq_some_iff.1 hk).1
         simp
         rw[af (by omega),h9,ae hk2]
         exact hk
       ·have hlens:(cs++ys).length=(l.length+xs.length)*es:=by rw[ah,hcsl,hysl,Nat.add_mul]
        have hklt:k<(l.length+xs.length)*es:=by rw[<- hlens];exact(List.getElem?_eq_some_iff.1 hk).1
        rintro(⟨i,l0,e1,_⟩|⟨id',q',e1,e2,e3⟩|hf)
        ·exact hI.s8 id q0 i q1 e1
        ·simp only[Gh.own]at e1
         split at e1
         ·cases e1;simp only[hes0]at e3;omega
         ·rename_i hid;exact hid (hI.og _ _ q' q0 e1 q1 e2)
        ·exact hI.u9 id q0 _ q1 hf
       ·exact⟨v0+1,by have:=(List.getElem?_eq_some_iff.1 hT0).1;simp[this],di _,λ_=>⟨⟨q0.b,q0.es,q0.cap,l.length+xs.length⟩,by simp[Gh.own],rfl,by simp only[hes0,uf,ah,lh hl',lh hxl,Nat.add_mul],rfl,rfl⟩⟩
      ·exact grow hneed _ _ (.inr (.inr ⟨id,v0,_,rfl,hT0,.inl rfl,rfl⟩))
     ·simp at ha
    ·simp at ha
  | tls id ver e2=>
   cases bs with
   | some ag'=>simp at ha
   | none=>
    simp only at ha
    split at ha
    ·rename_i v0 hb0 hT0
     split at ha
     ·rename_i hv0
      obtain⟨hv0,rfl⟩:=hv0
      subst hv0
      simp only[fe,ff]at ha;obtain⟨rfl,rfl⟩:=ha
      by_cases hneed:l.length+xs.length<=cap
      ·obtain⟨v1,t1,t2,t3⟩:=htl
       rw[hT0]at t1;cases t1
       obtain⟨q0,d,q1,hes0,q5,q6,q7⟩:=t3 rfl
       have hpd:=q6 (by omega)
       subst hpd
       obtain⟨_,qn,C,el,qh,qs⟩:=hI.rf id q0 q1
       have hC:w.heap[q0.b]? = some (.cells C.toList.toArray el (0,0)):=by simpa using qh
       have hneed':(d+l.length+xs.length)*e2<=q0.cap*e2:=Nat.mul_le_mul_right _ (by omega)
       rw[hes0]at qs
       rw[Nat.add_mul,Nat.add_mul]at hneed'
       have hCl:C.toList.length=C.size:=by simp
       have hfit:d*e2+l.length*e2+ys.length<=C.toList.length:=by rw[hysl,hCl];omega
       have hrun:=Fh (P:=P) (w:=w) (ty:=o.type) (u:=u) (n:=l.length) (cap:=cap) (new:=ys) (off:=d*e2) hT hU hie k1 (by rw[hes];exact k2 w λ_ _=>rfl) hneed hC (by rw[hes];exact hfit) (k3.vm hxo)
       rw[hes]at hrun
       generalize hat:d*e2+l.length*e2=at0 at hrun hfit
       have hqn:q0.n*q0.es=at0:=by rw[<- q5,hes0,Nat.add_mul,hat]
       have hsl:(setAt C.toList at0 ys).length=C.toList.length:=by
        unfold setAt;simp only[ah,b7,b8];omega
       have oz:∀k,k<at0->(setAt C.toList at0 ys)[k]? = C.toList[k]? := by
        intro k hk
        unfold setAt
        rw[aj,ae (by rw[b7];omega),bc,if_pos hk]
       obtain⟨j1,j2⟩:=Eh (cs':=setAt C.toList at0 ys) (n':=q0.n+xs.length) hI q1 hT0 hC hsl (by rw[hqn];exact oz) (by omega) (by omega) (by rw[hes0,hCl];exact qs)
       have hnew:ga g s w (flat (l++xs)) (cs++ys):=by rw[uf];exact hr.append k3
       refine⟨_,_,_,.inl (by rw[hexec _ hrun];rfl),j1,j2, ?_,λ_ _ h=>h⟩
       have hR:=hnew.mono j2
       refine .sl (b:=q0.b) (o:=d*e2) (cs++ys) hR.1 hR.2 (λk c hk=>⟨?_, ?_⟩) (λ_=>rfl) (by simp) hneed ?_
       ·have hst:(w.setRow q0.b (setAt C.toList at0 ys).toArray).heap[q0.b]? = some (.cells (setAt C.toList at0 ys).toArray el (0,0)):=setRow_heap w q0.b _ _ el (0,0) qh
        simp only[World.cell?,hst]
        by_cases hkl:k<cs.length
        ·rw[ae hkl]at hk
         have hne:l ≠ []:=by rintro rfl;rw[hcsl]at hkl;simp at hkl
         have hpp:=hp hne
         simp only[fe,Addr.mk.injEq,and_true]at hpp
         obtain⟨hb0,ho0⟩:=hpp
         have:=(hc k c hk).1
         rw[<- hb0,<- ho0]at this
         simp only[World.cell?,qh]at this
         have h9:=oz (d*e2+k) (by rw[hcsl]at hkl;omega)
         simp only[Array.getElem?_toList]at h9
         simp at this ⊢
         rw[h9];exact this
        ·rw[af (by omega),hcsl]at hk
         rw[hcsl]at hkl
         unfold setAt
         have h9:(C.toList.take at0).length=at0:=by rw[b7];omega
         have hk2:=(List.getElem?_eq_some_iff.1 hk).1
         simp
         rw[af (by omega),h9,show d*e2+k-at0=k-l.length*e2 by omega,ae hk2]
         exact hk
       ·have hlens:(cs++ys).length=(l.length+xs.length)*e2:=by rw[ah,hcsl,hysl,Nat.add_mul]
        have hklt:k<(l.length+xs.length)*e2:=by rw[<- hlens];exact(List.getElem?_eq_some_iff.1 hk).1
        rintro(⟨i,l0,e1,_⟩|⟨id',q',e1,e2',e3⟩|hf)
        ·exact hI.s8 id q0 i q1 e1
        ·simp only[Gh.own]at e1
         split at e1
         ·cases e1
          simp only[hes0,<- q5]at e3
          rw[Nat.add_mul,Nat.add_mul]at e3
          rw[Nat.add_mul]at hklt
          omega
         ·rename_i hid;exact hid (hI.og _ _ q' q0 e1 q1 e2')
        ·exact hI.u9 id q0 _ q1 hf
       ·exact⟨v0+1,by have:=(List.getElem?_eq_some_iff.1 hT0).1;simp[this],di _,λ_=>⟨⟨q0.b,q0.es,q0.cap,q0.n+xs.length⟩,d,by simp[Gh.own],hes0,by simp only;omega,λ_=>rfl,q7⟩⟩
      ·exact grow hneed _ _ (.inr (.inr ⟨id,v0,_,rfl,hT0,.inr rfl,rfl⟩))
     ·simp at ha
    ·simp at ha
end
end Go.Proofs.Eng
namespace Go.Proofs.Eng
open Go.RowKit
variable [DrK]
section
variable {P:Program} {g:Gh} {s:ASt} {w:World} {tm:List AV} {a:Act} {o:Oper}
theorem mf {ops:Array Oper} {Q:Exit->Act->World->Prop} {i:Nat} {rest:List Nat} {o:Oper} {a:Act} {w w':World} {v:Value} (ho:ops[i]? = some o) (hg:o.guard=none) (hr:(execOp a.eval o).run P w = .ok (.value v) w') (h:wpOps P ops Q rest (a.put o.dst v) w') :
  wpOps P ops Q (i::rest) a w:=by
 simp only[wpOps,ho]
 rw[if_pos (by simp[Region.wanted,hg])]
 left
 unfold Oper.wp
 rw[hr]
 exact h
theorem wx {f:FuncId} {ag:Bool} {n:Nat} {t:TypeId} (h:sn P f=some (ag,n,t)) :
  ∃fn e z q0 q1 q2 q3 id0 id1 id2 id3,P.funcs[f]? = some fn/\(fn.name == "runtime.NumGoroutine")=false/\fn.params.size=1/\fn.ntmps=8/\fn.results = #[.tmp 2]/\P.underlying t=some (.slice e)/\tj P e=some (ag,n,z) /\
   fn.body=some (.seq (.region id0 q0 false) (.seq (.seq (.region id1 q1 false) (.cond (.tmp 4) (.seq (.region id2 q2 false) .ret) .skip)) (.seq (.region id3 q3 false) .ret))) /\
   (∃o,q0 = #[o]/\o.dst=some 2/\o.op = .assign (.const (.slice none 0 0))/\o.guard=none) /\
   (∃o p t2,q1 = #[o,p]/\o.dst=some 3/\o.op = .move (.tmp 0)/\o.guard=none/\p.dst=some 4/\p.op = .binOp .eql t (.tmp 3) (.const (.slice none 0 0)) t2/\p.guard=none) /\
   (∃o,q2 = #[o]/\o.dst=some 2/\o.op = .assign (.const (.slice none 0 0))/\o.guard=none) /\
   (∃o p q r,q3 = #[o,p,q,r]/\o.dst=some 5/\o.op = .buildSlice t 0 #[]/\o.guard=none/\p.dst=some 6/\p.op = .move (.tmp 0)/\p.guard=none /\
    q.dst=some 7/\q.op = .call {callee:=.builtin .append,args := #[.tmp 5,.tmp 6],argTypes := #[t,t]}/\q.guard=none/\r.dst=some 2/\r.op = .assign (.tmp 7)/\r.guard=none):=by
 unfold sn at h
 cases hf:P.funcs[f]? with
 | none=>rw[hf]at h;simp at h
 | some fn=>
  rw[hf]at h
  simp only at h
  split at h
  case h_2=>simp at h
  rename_i hp hn hres hb
  split at h
  case h_2=>simp at h
  rename_i _ h0 h1 h2 h3
  split at h
  case h_2=>simp at h
  rename_i hps hargs hts
  split at h
  case isFalse=>simp at h
  rename_i hc
  obtain⟨rfl,rfl,rfl,hname⟩:=hc
  split at h
  case h_2=>simp at h
  rename_i e hT
  cases hE:tj P e with
  | none=>rw[hE]at h;simp at h
  | some r=>
   obtain⟨ag',n',z⟩:=r
   rw[hE]at h
   simp only[fh,fe,ff]at h
   obtain⟨rfl,rfl,rfl⟩:=h
   have e0:=congrArg List.toArray h0
   have e1:=congrArg List.toArray h1
   have e2:=congrArg List.toArray h2
   have e3:=congrArg List.toArray h3
   have e4:=congrArg List.toArray hres
   have e5:=congrArg List.toArray hps
   have e6:=congrArg List.toArray hargs
   have e7:=congrArg List.toArray hts
   simp only[dx]at e0 e1 e2 e3 e4 e5 e6 e7
   subst e5;subst e6;subst e7
   exact⟨fn,e,z,_,_,_,_,_,_,_,_,rfl,hname,hp,hn,e4,hT,hE,hb,⟨_,e0,rfl,rfl,rfl⟩,⟨_,_,_,e1,rfl,rfl,rfl,rfl,rfl,rfl⟩,⟨_,e2,rfl,rfl,rfl⟩,⟨_,_,_,_,e3,rfl,rfl,rfl,rfl,rfl,rfl,rfl,rfl,rfl,rfl,rfl,rfl⟩⟩
theorem wy (a:Act) (d:Nat) (v:Value) (h:d<a.tmps.size):(a.put (some d) v).eval (.tmp d)=v:=by
 simp[Act.put,Act.eval,Array.getD_eq_getD_getElem?,h]
theorem Ed (a:Act) (d c:Nat) (v:Value) (h:c ≠ d):(a.put (some d) v).eval (.tmp c)=a.eval (.tmp c):=by
 simp[Act.put,Act.eval,Array.getD_eq_getD_getElem?,Array.getElem?_setIfInBounds_ne (Ne.symm h)]
theorem vn (a:Act) (d:Option Tmp) (v:Value):(a.put d v).tmps.size=a.tmps.size:=by cases d<;>simp[Act.put]
theorem Px {t e t2:TypeId} (hT:P.underlying t=some (.slice e)) {o:Oper} {a:Act} {p:Option Addr} {n cap:Nat} (ho:o.op = .binOp .eql t (.tmp 3) (.const (.slice none 0 0)) t2) (h3:a.eval (.tmp 3) = .slice p n cap) :
  (execOp a.eval o).run P w = .ok (.value (.bool p.isNone)) w:=by
 have hb:=r6 (P:=P) (w:=w) (op:=.eql) (neg:=false) (t:=t) (p:=.slice p n cap) (q:=.slice none 0 0) (r:=p.isNone) rfl ⟨by simp,by simp,by simp,by simp⟩ (F8 hT 9999 p n cap 0 0)
 have hc:a.eval (.const (.slice none 0 0)) = .slice none 0 0:=rfl
 simp only[execOp,ho,h3,hc,Sem.run_bind,np (P:=P) (u:=.slice p n cap) (v:=.slice none 0 0) (by simp) (by simp),Result.andThen_ok,hb,Sem.run_pure,Bool.false_bne]
theorem Cr {f:FuncId} {ag:Bool} {es:Nat} {t:TypeId} {av:AV} {l:List AV} {u:Value} {rv:AV} {s':ASt} (hcl:sn P f=some (ag,es,t)) (hl:ku s av=some l) (hr:Rep g s w av u) (hI:Inv g s w)
  (hv:(l=[]/\s'=s/\rv = .sl [] (sj av)) \/
   (l ≠ []/\(l.length<=1073741824/\(l.all λx=>x.cells.length==es&&x.cells.all ic)=true)/\((rv = .bs s.H.length 0 l.length es ag/\s' = {s with H:=s.H++[.cells false (flat l)]})\/(rv = .sl l (.tl s.T.length 0)/\s' = {s with T:=s.T++[0]})))) :
  Calls P f #[u] w λe w'=>∃g' v,e = .returned v/\Inv g' s' w'/\Ext g s w g' s' w'/\Rep g' s' w' rv v/\Mun g s g':=by
 obtain⟨fn,e,z,q0,q1,q2,q3,id0,id1,id2,id3,hf,hname,hps,hn,hres,hT,hE,hb,⟨o0,rfl,d0,p0,g0⟩,⟨o1,o1',t2,rfl,d1,p1,g1,d1',p1',g1'⟩,⟨o2,rfl,d2,p2,g2⟩,⟨o3,o4,o5,o6,rfl,d3,p3,g3,d4,p4,g4,d5,p5,g5,d6,p6,g6⟩⟩:=wx hcl
 obtain⟨hA,hz,hzl,ie,hie,hby,hes⟩:=qz hE
 obtain⟨zv,iz,h1,h2,h3⟩:=lu hz
 rw[hie]at h1;cases h1
 obtain⟨_,_,hpos,_⟩:=jm hA
 obtain⟨p,cap,b,off,cs,hu,hrl,hc,hp,kh,hnil⟩:=J1 hl hr hI
 refine calls_of_wp hf hb ?_
 rw[hn]
 generalize ha0:({tmps := #[u]++Array.replicate (8 - #[u].size) undef,defers:=[]}:Act)=a0
 have hs0:a0.tmps.size=8:=by rw[<- ha0];simp
 have hd0:a0.defers=[]:=by rw[<- ha0]
 have he0:a0.eval (.tmp 0)=u:=by rw[<- ha0];simp[Act.eval,Array.getD_eq_getD_getElem?]
 refine wp_seq (wp_region ?_)
 show wpOps P #[o0] _ [0] a0 w
 refine mf (o:=o0) (w':=w) (v:=.slice none 0 0) rfl g0 (by simp[execOp,p0,Act.eval]) ?_
 rw[d0]
 generalize ha1:a0.put (some 2) (.slice none 0 0)=a1
 have hs1:a1.tmps.size=8:=by rw[<- ha1,vn,hs0]
 have hd1:a1.defers=[]:=by rw[<- ha1];simpa[Act.put]using hd0
 have he1:a1.eval (.tmp 0)=u:=by rw[<- ha1,Ed _ _ _ _ (by decide),he0]
 refine wp_seq (wp_seq (wp_region ?_))
 show wpOps P #[o1,o1'] _ [0,1] a1 w
 refine mf (o:=o1) (w':=w) (v:=u) rfl g1 (by simp[execOp,p1,he1]) ?_
 rw[d1]
 generalize ha2:a1.put (some 3) u=a2
 have hs2:a2.tmps.size=8:=by rw[<- ha2,vn,hs1]
 have hd2:a2.defers=[]:=by rw[<- ha2];simpa[Act.put]using hd1
 have he2:a2.eval (.tmp 0)=u:=by rw[<- ha2,Ed _ _ _ _ (by decide),he1]
 have he23:a2.eval (.tmp 3)=u:=by rw[<- ha2,wy _ _ _ (by omega)]
 refine mf (o:=o1') (w':=w) (v:=.bool p.isNone) rfl g1' (Px hT p1' (by rw[he23,hu])) ?_
 rw[d1']
 generalize ha3:a2.put (some 4) (.bool p.isNone)=a3
 have hs3:a3.tmps.size=8:=by rw[<- ha3,vn,hs2]
 have hd3:a3.defers=[]:=by rw[<- ha3];simpa[Act.put]using hd2
 have he3:a3.eval (.tmp 0)=u:=by rw[<- ha3,Ed _ _ _ _ (by decide),he2]
 have he34:a3.eval (.tmp 4) = .bool p.isNone:=by rw[<- ha3,wy _ _ _ (by omega)]
 have fin:∀(a:Act) (v:Value) (w':World),a.defers=[]->a.eval (.tmp 2)=v->(∃g',Inv g' s' w'/\Ext g s w g' s' w'/\Rep g' s' w' rv v/\Mun g s g') ->
   bodyPost P fn (λe w'=>∃g' v,e = .returned v/\Inv g' s' w'/\Ext g s w g' s' w'/\Rep g' s' w' rv v/\Mun g s g') .ret a w':=by
  rintro a v w' hd hv ⟨g',h1,h2,h3,h4⟩
  refine⟨hd,v, ?_,g',v,rfl,h1,h2,h3,h4⟩
  have hv':a.tmps.getD 2 undef=v:=hv
  unfold results
  simp only[hres,Array.mapM_eq_mapM_toList,List.mapM_cons,List.mapM_nil,hv',Sem.run_bind,Sem.run_pure,Result.andThen_ok,pure_bind,bind_pure_comp]
  simp
 show Code.wp P _ _ a3 w
 cases hpn:p with
 | none=>
  subst hpn
  have hl0:l=[]:=by
   rcases List.eq_nil_or_concat l with h|⟨l',x',h⟩
   ·exact h
   ·have:=hp (by rw[h];simp);cases this
  refine wp_cond_true he34 (wp_seq (wp_region ?_))
  show wpOps P #[o2] _ [0] a3 w
  refine mf (o:=o2) (w':=w) (v:=.slice none 0 0) rfl g2 (by simp[execOp,p2,Act.eval]) ?_
  rw[d2]
  show Code.wp P _ _ _ w
  refine wp_ret (fin _ (.slice none 0 0) w (by simpa[Act.put]using hd3) (wy _ _ _ (by omega)) ⟨g, ?_⟩)
  rcases hv with⟨_,rfl,rfl⟩|⟨hne,_⟩
  ·refine⟨hI,.refl _ _ _,.sl (b:=0) (o:=0) [] rfl (λk a c h=>by simp[flat]at h) (λk c h=>by simp at h) (by simp) rfl (di _) ?_,.refl _ _⟩
   unfold sj
   split
   ·exact⟨rfl,rfl,rfl⟩
   ·trivial
  ·exact absurd hl0 hne
 | some ad=>
  subst hpn
  refine wp_cond_false he34 (wp_skip ?_)
  show Code.wp P _ _ a3 w
  refine wp_seq (wp_region ?_)
  show wpOps P #[o3,o4,o5,o6] _ [0,1,2,3] a3 w
  have hbs:(Instr.buildSlice t 0 #[]).run P w = .ok (.slice (some ⟨w.heap.size,0,none⟩) 0 0) (w.alloc (.cells #[] e)):=by
   simp[Instr.buildSlice,run_underlying hT,sizeOf,typeInfo,zeroValue,hie,newRow,Instr.fill,Array.range_zero']
  refine mf (o:=o3) (w':=w.alloc (.cells #[] e)) (v:=.slice (some ⟨w.heap.size,0,none⟩) 0 0) rfl g3 (by simp[execOp,p3,hbs]) ?_
  rw[d3]
  generalize hw1:w.alloc (.cells #[] e)=w1
  have hI1:Inv g s w1:=by rw[<- hw1];exact hI.alloc _
  have hE1:Ext g s w g s w1:=by rw[<- hw1];exact Ext.alloc g s w _
  generalize ha4:a3.put (some 5) (.slice (some ⟨w.heap.size,0,none⟩) 0 0)=a4
  have hs4:a4.tmps.size=8:=by rw[<- ha4,vn,hs3]
  have hd4:a4.defers=[]:=by rw[<- ha4];simpa[Act.put]using hd3
  have he4:a4.eval (.tmp 0)=u:=by rw[<- ha4,Ed _ _ _ _ (by decide),he3]
  have he45:a4.eval (.tmp 5) = .slice (some ⟨w.heap.size,0,none⟩) 0 0:=by rw[<- ha4,wy _ _ _ (by omega)]
  refine mf (o:=o4) (w':=w1) (v:=u) rfl g4 (by simp[execOp,p4,he4]) ?_
  rw[d4]
  generalize ha5:a4.put (some 6) u=a5
  have hs5:a5.tmps.size=8:=by rw[<- ha5,vn,hs4]
  have hd5:a5.defers=[]:=by rw[<- ha5];simpa[Act.put]using hd4
  have he55:a5.eval (.tmp 5) = .slice (some ⟨w.heap.size,0,none⟩) 0 0:=by rw[<- ha5,Ed _ _ _ _ (by decide),he45]
  have he56:a5.eval (.tmp 6)=u:=by rw[<- ha5,wy _ _ _ (by omega)]
  have key:∃v w2 g',(Builtin.append_ #[t,t] o5.type #[.slice (some ⟨w.heap.size,0,none⟩) 0 0,u]).run P w1 = .ok v w2/\Inv g' s' w2/\Ext g s w g' s' w2/\Rep g' s' w2 rv v/\Mun g s g':=by
   have hc1:∀k c,cs[k]? = some c->w1.cell? ⟨b,off+k,none⟩=some c:=λk c hk=>by
    have h9:=hc k c hk
    have hlt:b<w.heap.size:=World.block_lt_of_cell? _ _ h9
    rw[<- hw1,Dn _ _ _ _ hlt];exact h9
   rcases hv with⟨rfl,rfl,rfl⟩|⟨hne,⟨hle,hall⟩,hw⟩
   ·refine⟨.slice (some ⟨w.heap.size,0,none⟩) 0 0,w1,g, ?_,hI1,hE1, ?_,.refl _ _⟩
    ·subst hu
     have hcs:cs=[]:=by have:=hrl.1;simp only[flat,List.flatMap_nil,ao]at this;exact c9 this.symm
     refine run_append_nil hT (.inl ⟨e,hT⟩) hie (λw=>by simp[Builtin.lenOf]) ?_ (di _)
     have:=sy (P:=P) (w:=w1) (w':=w1) (p:=some ad) (b:=b) (o:=off) (n:=0) (cap:=cap) (es:=ie.size) (cs:=[]) (by simp) (by simp) (by simp) (λ_ _=>rfl) (by omega)
     simpa using this
    ·have hne:sj av=Tl.none:=by
      unfold sj
      split
      ·have:=hnil rfl;cases this
      ·rfl
     rw[hne]
     exact .sl (b:=0) (o:=0) [] rfl (λk a c h=>by simp[flat]at h) (λk c h=>by simp at h) (by simp) rfl (di _) trivial
   ·obtain⟨hxl,hxo⟩:=D8 hall
    have hcsl:cs.length=l.length*es:=by rw[<- hrl.1,lh hxl]
    have hlen0:l.length ≠ 0:=λh=>hne (c9 h)
    subst hu
    obtain⟨newCap,d,hd,hnc,hrun⟩:=run_append_grow (P:=P) (w:=w1) (u:=t) (ty:=o5.type) (base:=some ⟨w.heap.size,0,none⟩) (n:=0) (cap:=0) (m:=l.length) (xv:=.slice (some ad) l.length cap) (old:=[]) (new:=cs) hT (.inl ⟨e,hT⟩) hie h2 hby
     (λw=>by simp[Builtin.lenOf]) (λw' hs=>sy (by rw[hes];exact hcsl) hc1 (λ_=>hp hne) hs (by omega)) (λw' _=>by simp[Builtin.firstCells,loadCells,loadCellsFrom]) (by omega) (by omega)
    simp only[dp,bo]at hrun hnc
    have hzc:(Builtin.zeroCells zv.cells (newCap-l.length)).size=(newCap-l.length)*es:=by
     have hzr:ga g s w z.cells zv.cells.toList:=(l7 (g:=g) (s:=s) (w:=w) h3).cells (qt h3)
     have:zv.cells.size=es:=by have:=hzr.1;rw[hzl]at this;simpa using this.symm
     simp[Builtin.zeroCells,this]
    generalize hZ:(Builtin.zeroCells zv.cells (newCap-l.length)).toList=Z at hrun
    have hZl:Z.length=(newCap-l.length)*es:=by rw[<- hZ];simpa using hzc
    have htot:(cs++Z).length=newCap*es:=by
     rw[ah,hcsl,hZl,<- Nat.add_mul];congr 1;omega
    rcases hw with⟨rfl,rfl⟩|⟨rfl,rfl⟩
    case inr=>
     obtain⟨j1,j2⟩:=Gz (id:=s.T.length) (T':=s.T++[0]) (cs:=(cs++Z).toArray) (el:=e) (d:=d) (es:=es) (cap:=newCap) (n:=l.length) hI1 (by simp) (by simp) (λi v _ h=>by rw[ae (List.getElem?_eq_some_iff.1 h).1];exact h) (λv h=>by have:=(List.getElem?_eq_some_iff.1 h).1;omega) (by simp only[List.size_toArray,htot];exact di _) hnc
     refine⟨_,_,_,hrun,j1,hE1.trans j2, ?_,λ_ _ h=>h⟩
     have hR:=(hrl.mono hE1).mono j2
     refine .sl (b:=w1.heap.size) (o:=0) cs hR.1 hR.2 (λk c hk => ?_) (λ_=>rfl) (by simp) hnc ?_
     ·refine⟨?_, ?_⟩
      ·have hk':(cs++Z)[k]? = some c:=by rw[ae (List.getElem?_eq_some_iff.1 hk).1];exact hk
       have:=je ({w1 with drawn:=d}:World) (.cells (cs++Z).toArray e)
       simp only[World.cell?,this,dp]
       simpa using hk'
      ·have hklt:k<l.length*es:=by rw[<- hcsl];exact(List.getElem?_eq_some_iff.1 hk).1
       rintro(⟨i,l0,e1,_⟩|⟨id,q0,e1,e2,e3⟩|hf)
       ·have:=(hI1.lt i _ e1).2;omega
       ·simp only[Gh.own]at e1
        split at e1
        ·cases e1;simp only at e3;omega
        ·obtain⟨_,_,c0,el0,e4,_⟩:=hI1.rf id q0 e1
         have:=(Array.getElem?_eq_some_iff.1 e4).1;omega
       ·exact absurd (hI1.u5 _ _ hf) (Nat.lt_irrefl _)
     ·exact⟨0,by simp,di _,λ_=>⟨⟨w1.heap.size,es,newCap,l.length⟩,by simp[Gh.own],rfl,by rw[hrl.1,hcsl],rfl,rfl⟩⟩
    have hId:=hI1.drawn d
    have eId:=hE1.trans (Ext.drawn g s w1 d)
    have hg:=hId.grow (.cells false (flat l))
    have eg:=Ext.grow hId (.cells false (flat l))
    have hn:=oe hId
    have eb:=Ext.bind hg hn (.cells (cs++Z).toArray e)
    refine⟨_,_,_,hrun,hg.bind hn (by simp) _ λob hob => ?_,(eId.trans eg).trans eb,.bs (by simp[Gh.bind]) hnc ⟨_,e,_,je _ _,by simp only[List.size_toArray,htot,dp]⟩,.bind _ _ _⟩
    simp at hob
    subst hob
    exact⟨cs,e,⟨Z,je _ _⟩,((hrl.mono eId).mono eg).mono eb⟩
  obtain⟨v,w2,g',k1,k2,k3,k4,k5⟩:=key
  refine mf (o:=o5) (w':=w2) (v:=v) rfl g5 (by simp[execOp,p5,resolve,invoke,builtin,he55,he56,k1]) ?_
  rw[d5]
  refine mf (o:=o6) (w':=w2) (v:=v) rfl g6 (by simp only[execOp,p6,wy a5 7 v (by omega),Sem.run_pure]) ?_
  rw[d6]
  show Code.wp P _ _ _ w2
  exact wp_ret (fin _ v w2 (by simpa[Act.put]using hd5) (wy _ _ _ (by simp[vn,hs5])) ⟨g',k2,k3,k4,k5⟩)
end
end Go.Proofs.Eng
namespace Go.Proofs.Eng
open Go.RowKit
variable [DrK]
section
variable {P:Program} {g:Gh} {s:ASt} {w:World} {tm:List AV} {a:Act} {o:Oper}
theorem fp {α β:Type} {f:α->β} {x:Option α} {y:β} (h:x.map f=some y):∃a,x=some a/\f a=y:=by
 cases x with
 | none=>simp at h
 | some a=>exact⟨a,rfl,by simpa using h⟩
theorem nc {α β:Type} {f:α->Option β} {x:Option α} {y:β} (h:x.bind f=some y):∃a,x=some a/\f a=some y:=by
 cases x with
 | none=>simp at h
 | some a=>exact⟨a,rfl,by simpa using h⟩
def PO.plain:PO->Bool
 | .call .. | .clone .. | .dfr .. | .ug | .panic _=>false
 | _=>true
theorem Nt {bsf:Bf} {x:Operand} {po:PO} {v:AV} {s':ASt} (ho:o.op = .move x\/o.op = .assign x) (hp:(gh x).map PO.mov=some po) (he:opA tm s po=some (.val v s')) (hI:Inv g s w) (ht:ga g s w tm a.tmps.toList):WR P g s w a o v s':=by
 obtain⟨y,hy,rfl⟩:=fp hp
 simp only[opA]at he
 obtain⟨u,hu,e⟩:=fp he
 cases e
 exact(a43 ho hy hu ht).wr hI
theorem Uf {bsf:Bf} {t:TypeId} {parts:Array (Nat × Operand)} {po:PO} {v:AV} {s':ASt} (ho:o.op = .build t parts) (hp:gv P bsf (.build t parts)=some po) (he:opA tm s po=some (.val v s')) (hI:Inv g s w) (ht:ga g s w tm a.tmps.toList):WR P g s w a o v s':=by
 simp only[gv]at hp
 split at hp
 ·rename_i z fs hz hT
  split at hp
  ·rename_i places hpl
   obtain⟨ps,hps,rfl⟩:=fp hp
   simp only[opA]at he
   obtain⟨r,hr,e⟩:=fp he
   cases e
   obtain⟨zv,it,h1,h2,h3⟩:=lu hz
   refine(Ix ho h1 h2 h3 hps hr (λvs => ?_) ht).wr hI
   unfold Program.built
   simp only[h1,hT,h2,hpl]
   simp
  ·simp at hp
 ·rename_i z k e hz hT
  split at hp
  ·rename_i ie hie
   obtain⟨ps,hps,rfl⟩:=fp hp
   simp only[opA]at he
   obtain⟨r,hr,e⟩:=fp he
   cases e
   obtain⟨zv,it,h1,h2,h3⟩:=lu hz
   refine(Ix ho h1 h2 h3 hps hr (λvs => ?_) ht).wr hI
   unfold Program.built
   simp only[h1,hT,h2,hie]
  ·simp at hp
 ·simp at hp
theorem a2d {bsf:Bf} {op:BinOp} {t t':TypeId} {x y:Operand} {po:PO} {v:AV} {s':ASt} (ho:o.op = .binOp op t x y t') (hp:gv P bsf (.binOp op t x y t')=some po) (he:opA tm s po=some (.val v s')) (hI:Inv g s w) (ht:ga g s w tm a.tmps.toList):WR P g s w a o v s':=by
 simp only[gv]at hp
 split at hp
 case h_2=>simp at hp
 rename_i x' y' hx hy
 have bin:po = .bin op x' y'->WR P g s w a o v s':=by
  rintro rfl
  simp only[opA]at he
  split at he
  ·rename_i u1 u2 e1 e2
   obtain⟨r,hr,e⟩:=fp he
   cases e
   exact(a2j ho hx hy e1 e2 hr ht).wr hI
  ·simp at he
 split at hp
 all_goals first|(simp at hp;done)|(simp only[fe]at hp;subst hp)|skip
 ·rename_i hT
  simp only[opA]at he
  split at he
  ·rename_i u1 u2 e1 e2
   simp only[fe,OpR.val.injEq]at he;obtain⟨rfl,rfl⟩:=he
   exact(W5 (neg:=false) ho rfl hT hx hy e1 e2 ht).wr hI
  ·simp at he
 ·rename_i hT
  simp only[opA]at he
  split at he
  ·rename_i u1 u2 e1 e2
   simp only[fe,OpR.val.injEq]at he;obtain⟨rfl,rfl⟩:=he
   exact(W5 (neg:=true) ho rfl hT hx hy e1 e2 ht).wr hI
  ·simp at he
 ·rename_i ms hT
  simp only[opA]at he
  split at he
  ·rename_i u1 u2 e1 e2
   obtain⟨r,hr,e⟩:=fp he
   cases e
   exact(U4 (neg:=false) ho rfl hT hx hy e1 e2 hr ht).wr hI
  ·simp at he
 ·rename_i ms hT
  simp only[opA]at he
  split at he
  ·rename_i u1 u2 e1 e2
   obtain⟨r,hr,e⟩:=fp he
   cases e
   exact(U4 (neg:=true) ho rfl hT hx hy e1 e2 hr ht).wr hI
  ·simp at he
 ·rename_i e0 hT
  simp only[opA]at he
  split at he
  ·rename_i u1 u2 e1 e2
   obtain⟨r,hr,e⟩:=fp he
   cases e
   exact(Vh (neg:=false) ho rfl hT hx hy e1 e2 hr ht).wr hI
  ·simp at he
 ·rename_i e0 hT
  simp only[opA]at he
  split at he
  ·rename_i u1 u2 e1 e2
   obtain⟨r,hr,e⟩:=fp he
   cases e
   exact(Vh (neg:=true) ho rfl hT hx hy e1 e2 hr ht).wr hI
  ·simp at he
 ·rename_i e0 hT
  simp only[opA]at he
  split at he
  ·rename_i u1 u2 e1 e2
   obtain⟨r,hr,e⟩:=fp he
   cases e
   exact(Ug (neg:=false) ho rfl hT hx hy e1 e2 hr ht).wr hI
  ·simp at he
 ·rename_i e0 hT
  simp only[opA]at he
  split at he
  ·rename_i u1 u2 e1 e2
   obtain⟨r,hr,e⟩:=fp he
   cases e
   exact(Ug (neg:=true) ho rfl hT hx hy e1 e2 hr ht).wr hI
  ·simp at he
 ·exact bin rfl
 ·exact bin rfl
theorem a0u {bsf:Bf} {t t':TypeId} {x:Operand} {po:PO} {v:AV} {s':ASt} (ho:o.op = .convert t t' x) (hp:gv P bsf (.convert t t' x)=some po) (he:opA tm s po=some (.val v s')) (hI:Inv g s w) (ht:ga g s w tm a.tmps.toList):WR P g s w a o v s':=by
 simp only[gv]at hp
 split at hp
 ·rename_i k0 k h1 h2
  obtain⟨y,hy,rfl⟩:=fp hp
  simp only[opA]at he
  split at he
  ·rename_i k' n e1
   simp only[fe,OpR.val.injEq]at he;obtain⟨rfl,rfl⟩:=he
   exact(a0v ho h1 h2 hy e1 ht).wr hI
  ·simp at he
 ·simp at hp
theorem Sl {bsf:Bf} {t:TypeId} {x:Operand} {lo hi mx:Option Operand} {po:PO} {v:AV} {s':ASt} (ho:o.op = .slice t x lo hi mx) (hp:gv P bsf (.slice t x lo hi mx)=some po) (he:opA tm s po=some (.val v s')) (hI:Inv g s w) (ht:ga g s w tm a.tmps.toList):WR P g s w a o v s':=by
 simp only[gv]at hp
 split at hp
 ·rename_i e x' lo' hi' mx' hT hx hlo hhi hmx
  obtain⟨r,hA,rfl⟩:=fp hp
  obtain⟨ag,n⟩:=r
  simp only[opA]at he
  split at he
  ·rename_i l tl e1
   split at he
   case isFalse=>simp at he
   rename_i hl
   split at he
   ·rename_i p q e2 e3
    split at he
    ·obtain⟨r,hr,e⟩:=fp he
     cases e
     have hmx0:mx=none:=by
      cases mx with
      | none=>rfl
      | some y=>simp only[m4]at hmx;cases hy:gh y with
       | none=>rw[hy]at hmx;simp at hmx
       | some y'=>rw[hy]at hmx;simp at hmx
     subst hmx0
     exact(Fp ho hT hA hx hlo hhi hmx e1 hl e2 e3 (.inl ⟨rfl,rfl⟩) (by simp) hr ht).wr hI
    ·rename_i m
     split at he
     case isFalse=>simp at he
     rename_i hhs
     obtain⟨m',e4,he⟩:=nc he
     obtain⟨r,hr,e⟩:=fp he
     cases e
     exact(Fp ho hT hA hx hlo hhi hmx e1 hl e2 e3 (.inr ⟨m,m',rfl,rfl,e4⟩) (λ_=>by rintro rfl;simp only[m4,fe]at hhi;subst hhi;simp at hhs) hr ht).wr hI
   ·simp at he
  ·rename_i i off len es ag' e1
   split at he
   ·rename_i p q e2 e3
    obtain⟨r,hr,e⟩:=fp he
    cases e
    unfold xd at hr
    split at hr
    case isFalse=>simp at hr
    rename_i hc
    obtain⟨hc1,hc2,rfl⟩:=hc
    cases mx with
    | none=>
     simp only[m4,fe]at hmx;subst hmx
     simp only[Option.map_none]at hr
     have:=(P0 ho hT hA hx hlo hhi e1 e2 e3 hc1 hc2 ht).wr hI
     split at hr<;>rename_i hl<;>(simp only[fe]at hr;subst hr)
     ·rw[if_pos hl]at this;exact this
     ·rw[if_neg hl]at this;exact this
    | some m=>
     simp only[m4]at hmx
     cases hm':gh m with
     | none=>rw[hm']at hmx;simp at hmx
     | some m'=>
     rw[hm']at hmx;simp at hmx;subst hmx
     simp only[fh]at hr
     split at hr
     ·rename_i h0;cases h0
     ·rename_i j o0 e0 hcp
      split at hr
      case isFalse=>simp at hr
      rename_i hj
      obtain⟨hhs,rfl,rfl,rfl,rfl⟩:=hj
      simp only[fe]at hr;subst hr
      have hcp':evX tm m'=some (.cp j o0 e0):=by simpa using hcp
      exact(Qt ho hT hA hx hlo hhi hm' e1 hcp' e2 e3 (by rintro rfl;simp only[m4,fe]at hhi;subst hhi;simp at hhs) hc2 ht).wr hI
     ·simp at hr
   ·simp at he
  ·simp at he
 ·simp at hp
theorem a05 {bsf:Bf} {t:TypeId} {m k:Operand} {ok:Bool} {po:PO} {v:AV} {s':ASt} (ho:o.op = .lookup t m k ok) (hp:gv P bsf (.lookup t m k ok)=some po) (he:opA tm s po=some (.val v s')) (hI:Inv g s w) (ht:ga g s w tm a.tmps.toList):WR P g s w a o v s':=by
 simp only[gv]at hp
 split at hp
 case h_2=>simp at hp
 rename_i kt e m' k' hT hm hk
 have main:∀(st:KK) (z:AV),KT P kt st->uh P e=some z->po = .look z ok st m' k'->WR P g s w a o v s':=by
  rintro st z hK hz rfl
  simp only[opA]at he
  split at he
  ·rename_i i kav e1 e2
   split at he
   case isFalse=>simp at he
   rename_i hko
   split at he
   ·rename_i es hH
    split at he
    case isFalse=>simp at he
    rename_i hlv
    split at he
    ·rename_i x hl
     simp only[fe,OpR.val.injEq]at he;obtain⟨rfl,rfl⟩:=he
     exact(Nv ho hT hK hz hm hk e1 e2 hH hlv hl rfl hko hI ht).wr hI
    ·rename_i hl
     simp only[fe,OpR.val.injEq]at he;obtain⟨rfl,rfl⟩:=he
     exact(Nv ho hT hK hz hm hk e1 e2 hH hlv hl rfl hko hI ht).wr hI
    ·simp at he
   ·simp at he
  ·simp at he
 split at hp
 ·rename_i z hK hz
  simp only[fe]at hp
  exact main (.sc true) z (.inl ⟨rfl,hK⟩) hz hp.symm
 ·rename_i kk z hK hz
  simp only[fe]at hp
  exact main (.sc false) z (.inr ⟨rfl,kk,hK⟩) hz hp.symm
 ·rename_i te z hK hz
  split at hp
  ·rename_i j hj
   split at hp
   ·simp at hp
   ·rename_i hs
    simp only[fe]at hp
    exact main .pt z ⟨te,j,hK,hj,hs⟩ hz hp.symm
  ·simp at hp
 ·simp at hp
theorem S7 {bsf:Bf} {t:TypeId} {m k x:Operand} {po:PO} {v:AV} {s':ASt} (ho:o.op = .mapUpdate t m k x) (hp:gv P bsf (.mapUpdate t m k x)=some po) (he:opA tm s po=some (.val v s')) (hI:Inv g s w) (ht:ga g s w tm a.tmps.toList):WR P g s w a o v s':=by
 simp only[gv]at hp
 split at hp
 case h_2=>simp at hp
 rename_i kt e m' k' x' hT hm hk hx
 have main:∀(st:KK),KT P kt st->po = .sk st m' k' x'->WR P g s w a o v s':=by
  rintro st hK rfl
  simp only[opA]at he
  split at he
  ·rename_i i kav xv e1 e2 e3
   split at he
   case isFalse=>simp at he
   rename_i hko
   split at he
   ·rename_i es hH
    split at he
    case isFalse=>simp at he
    rename_i hlv
    obtain⟨r,hr,e⟩:=fp he
    cases e
    exact Vd ho hT hK hm hk hx e1 e2 e3 hH hlv hr hko hI ht
   ·simp at he
  ·simp at he
 split at hp
 ·rename_i hK
  simp only[fe]at hp
  exact main (.sc true) (.inl ⟨rfl,hK⟩) hp.symm
 ·rename_i kk hK
  simp only[fe]at hp
  exact main (.sc false) (.inr ⟨rfl,kk,hK⟩) hp.symm
 ·rename_i te hK
  split at hp
  ·rename_i j hj
   split at hp
   ·simp at hp
   ·rename_i hs
    simp only[fe]at hp
    exact main .pt ⟨te,j,hK,hj,hs⟩ hp.symm
  ·simp at hp
 ·simp at hp
theorem Wo {bsf:Bf} {x:Operand} {xt t:TypeId} {ok:Bool} {po:PO} {v:AV} {s':ASt} (ho:o.op = .typeAssert x xt t ok) (hp:gv P bsf (.typeAssert x xt t ok)=some po) (he:opA tm s po=some (.val v s')) (hI:Inv g s w) (ht:ga g s w tm a.tmps.toList):WR P g s w a o v s':=by
 simp only[gv]at hp
 split at hp
 ·simp at hp
 ·simp at hp
 ·rename_i d x' z hx hz hd1 hd2
  simp only[fe]at hp;subst hp
  cases hT:P.underlying t with
  | none=>exact(hd2 hT).elim
  | some d=>
  have hnd:∀ms,d ≠ .interface ms:=λms e=>hd1 ms (by rw[hT,e])
  simp only[opA]at he
  split at he
  ·rename_i u c e1
   split at he
   ·rename_i hu
    subst hu
    simp only[fe,OpR.val.injEq]at he;obtain⟨rfl,rfl⟩:=he
    exact(Hy ho hT hnd hz hx e1 (.inl ⟨c,rfl,rfl⟩) ht).wr hI
   ·rename_i hu
    split at he
    ·rename_i hok
     simp only[fe,OpR.val.injEq]at he;obtain⟨rfl,rfl⟩:=he
     exact(Hy ho hT hnd hz hx e1 (.inr ⟨hok,rfl,.inr ⟨u,c,hu,rfl⟩⟩) ht).wr hI
    ·simp at he
  ·rename_i e1
   split at he
   ·rename_i hok
    simp only[fe,OpR.val.injEq]at he;obtain⟨rfl,rfl⟩:=he
    exact(Hy ho hT hnd hz hx e1 (.inr ⟨hok,rfl,.inl rfl⟩) ht).wr hI
   ·simp at he
  ·simp at he
 ·simp at hp
theorem Tc {bsf:Bf} {t:TypeId} {x ix:Operand} {po:PO} {v:AV} {s':ASt} (ho:o.op = .indexAddr t x ix) (hp:gv P bsf (.indexAddr t x ix)=some po) (he:opA tm s po=some (.val v s')) (hI:Inv g s w) (ht:ga g s w tm a.tmps.toList):WR P g s w a o v s':=by
 simp only[gv]at hp
 split at hp
 ·rename_i e x' ix' hT hx hix
  obtain⟨r,hA,rfl⟩:=fp hp
  obtain⟨ag,n⟩:=r
  simp only[opA]at he
  split at he
  ·rename_i l tl k i e1 e2
   split at he
   ·rename_i hc
    obtain⟨el,hel,e⟩:=fp he
    cases e
    exact(Qy ho hT hA hx hix e1 e2 hc.1 hc.2 hel ht).wr hI
   ·simp at he
  ·rename_i j off len es ag' k i e1 e2
   split at he
   ·rename_i hc
    obtain⟨hc1,hc2,rfl⟩:=hc
    simp only[fe,OpR.val.injEq]at he;obtain⟨rfl,rfl⟩:=he
    exact(Qr ho hT hA hx hix e1 e2 hc1 hc2 ht).wr hI
   ·simp at he
  ·simp at he
 ·rename_i k e x' ix' hT hx hix
  obtain⟨r,hA,rfl⟩:=fp hp
  obtain⟨ag,n⟩:=r
  simp only[opA]at he
  split at he
  ·rename_i i off kk n' e1 e2
   split at he
   ·rename_i hc
    simp only[fe,OpR.val.injEq]at he;obtain⟨rfl,rfl⟩:=he
    exact(Gr ho hT hA hx hix e1 e2 hc.1 hc.2 (.inl ⟨_,_,rfl,rfl⟩) ht).wr hI
   ·simp at he
  ·rename_i l off kk n' e1 e2
   split at he
   ·rename_i hc
    simp only[fe,OpR.val.injEq]at he;obtain⟨rfl,rfl⟩:=he
    exact(Gr ho hT hA hx hix e1 e2 hc.1 hc.2.1 (.inr ⟨_,_,rfl,rfl⟩) ht).wr hI
   ·simp at he
  ·simp at he
 ·simp at hp
theorem Sm {bsf:Bf} {t:TypeId} {x ix:Operand} {po:PO} {v:AV} {s':ASt} (ho:o.op = .index t x ix) (hp:gv P bsf (.index t x ix)=some po) (he:opA tm s po=some (.val v s')) (hI:Inv g s w) (ht:ga g s w tm a.tmps.toList):WR P g s w a o v s':=by
 simp only[gv]at hp
 split at hp
 ·rename_i k e x' ix' hT hx hix
  obtain⟨r,hA,rfl⟩:=fp hp
  obtain⟨ag,n⟩:=r
  simp only[opA]at he
  split at he
  ·rename_i l kk n' e1 e2
   split at he
   ·rename_i hc
    obtain⟨r,hr,e⟩:=fp he
    cases e
    exact(Wv ho hT hA hx hix e1 e2 hc.1 hc.2 hr ht).wr hI
   ·simp at he
  ·simp at he
 ·rename_i x' ix' hT hx hix
  simp only[fe]at hp;subst hp
  simp only[opA]at he
  split at he
  ·rename_i b kk n' e1 e2
   split at he
   ·rename_i hc
    obtain⟨r,hr,e⟩:=fp he
    cases e
    exact(Ye ho hT hx hix e1 e2 hc hr ht).wr hI
   ·simp at he
  ·simp at he
 ·simp at hp
theorem Mo {bsf:Bf} {c:Call} {bi:Builtin} {po:PO} {v:AV} {s':ASt} (hc:c.callee = .builtin bi) (ho:o.op = .call c) (hp:gv P bsf (.call c)=some po) (he:opA tm s po=some (.val v s')) (hI:Inv g s w) (ht:ga g s w tm a.tmps.toList):WR P g s w a o v s':=by
 obtain⟨callee,args,argTypes⟩:=c
 simp only at hc
 subst hc
 simp only[gv]at hp
 split at hp
 ·rename_i x y t u hargs hts
  have ea:args = #[x,y]:=by rw[<- dx (xs:=args),hargs]
  have et:argTypes = #[t,u]:=by rw[<- dx (xs:=argTypes),hts]
  subst ea;subst et
  have main:∀{e:TypeId} {ag:Bool} {n:Nat} {z:AV} {x' y':X},P.underlying t=some (.slice e)->((∃e',P.underlying u=some (.slice e'))\/P.underlying u=some .string)->tj P e=some (ag,n,z)->gh x=some x'->gh y=some y' ->
    po = .app n (if bsf.b then some ag else none) x' y'->WR P g s w a o v s':=by
   rintro e ag n z x' y' hT hU hE hx hy rfl
   simp only[opA]at he
   split at he
   ·rename_i l tl xs e1 e2
    obtain⟨av,e3,e4⟩:=nc e2
    obtain⟨r,hr,e⟩:=fp he
    obtain⟨r1,r2⟩:=r
    cases e
    exact a55 ho hT hU hE hx hy e1 e3 e4 (λb hb=>by cases hbb:bsf.b<;>simp[hbb]at hb;exact hb.symm) hr hI ht
   ·rename_i i off len es' ag' xs e1 e2
    split at he
    ·obtain⟨av,e3,e4⟩:=nc e2
     obtain⟨r,hr,e⟩:=fp he
     obtain⟨r1,r2⟩:=r
     cases e
     exact Wl ho hT hU hE hx hy e1 e3 e4 hr hI ht
    ·simp at he
   ·simp at he
  split at hp
  ·rename_i e e' x' y' hT hU hx hy
   split at hp
   ·rename_i ag n z hE
    simp only[fe]at hp
    exact main hT (.inl ⟨e',hU⟩) hE hx hy hp.symm
   ·simp at hp
  ·rename_i e x' y' hT hU hx hy
   split at hp
   ·rename_i ag n z hE
    simp only[fe]at hp
    exact main hT (.inr hU) hE hx hy hp.symm
   ·simp at hp
  ·simp at hp
 ·rename_i x t hargs hts
  have ea:args = #[x]:=by rw[<- dx (xs:=args),hargs]
  have et:argTypes = #[t]:=by rw[<- dx (xs:=argTypes),hts]
  subst ea;subst et
  split at hp
  ·rename_i e x' hT hx
   simp only[fe]at hp;subst hp
   simp only[opA]at he
   split at he
   ·rename_i l tl e1
    simp only[fe,OpR.val.injEq]at he;obtain⟨rfl,rfl⟩:=he
    exact(Ny (ty:=0) ho hT hx e1 (.inl ⟨l,tl,rfl,rfl⟩) ht).wr hI
   ·rename_i i off n es ag e1
    simp only[fe,OpR.val.injEq]at he;obtain⟨rfl,rfl⟩:=he
    exact(Ny (ty:=0) ho hT hx e1 (.inr ⟨i,off,es,ag,rfl⟩) ht).wr hI
   ·simp at he
  ·rename_i x' hT hx
   simp only[fe]at hp;subst hp
   simp only[opA]at he
   split at he
   ·rename_i b e1
    simp only[fe,OpR.val.injEq]at he;obtain⟨rfl,rfl⟩:=he
    exact(Xr (ty:=0) ho hT hx e1 ht).wr hI
   ·simp at he
  ·simp at hp
 ·rename_i x t hargs hts
  have ea:args = #[x]:=by rw[<- dx (xs:=args),hargs]
  have et:argTypes = #[t]:=by rw[<- dx (xs:=argTypes),hts]
  subst ea;subst et
  split at hp
  ·rename_i e x' hT hx
   simp only[fe]at hp;subst hp
   simp only[opA]at he
   split at he
   ·rename_i i off len es ag e1
    split at he
    ·rename_i hpos
     simp only[fe,OpR.val.injEq]at he;obtain⟨rfl,rfl⟩:=he
     exact(a0s ho hT hx e1 hpos ht).wr hI
    ·simp at he
   ·simp at he
  ·simp at hp
 ·rename_i x y hargs
  have ea:args = #[x,y]:=by rw[<- dx (xs:=args),hargs]
  subst ea
  split at hp
  ·rename_i x' y' hx hy
   simp only[fe]at hp;subst hp
   simp only[opA]at he
   split at he
   ·rename_i k m k' n e1 e2
    simp only[fe,OpR.val.injEq]at he;obtain⟨rfl,rfl⟩:=he
    exact(a1q ho hx hy e1 e2 ht).wr hI
   ·simp at he
  ·simp at hp
 ·rename_i x y hargs
  have ea:args = #[x,y]:=by rw[<- dx (xs:=args),hargs]
  subst ea
  split at hp
  ·rename_i x' y' hx hy
   simp only[fe]at hp;subst hp
   simp only[opA]at he
   split at he
   ·rename_i k m k' n e1 e2
    simp only[fe,OpR.val.injEq]at he;obtain⟨rfl,rfl⟩:=he
    exact(a2k ho hx hy e1 e2 ht).wr hI
   ·simp at he
  ·simp at hp
 ·simp only[fe]at hp;subst hp
  simp[opA]at he
 ·obtain⟨y,hy,rfl⟩:=fp hp
  simp only[opA]at he
  split at he<;>simp at he
 ·simp at hp
theorem Ve {bsf:Bf} {po:PO} {v:AV} {s':ASt} (hp:gv P bsf o.op=some po) (hpl:po.plain=true) (he:opA tm s po=some (.val v s')) (hI:Inv g s w) (ht:ga g s w tm a.tmps.toList):WR P g s w a o v s':=by
 cases ho:o.op<;>rw[ho]at hp
 case move x=>exact Nt (bsf:=bsf) (.inl ho) hp he hI ht
 case assign x=>exact Nt (bsf:=bsf) (.inr ho) hp he hI ht
 case pick c x y=>
  simp only[gv]at hp
  split at hp
  ·rename_i c' x' y' hc hx hy
   simp only[fe]at hp;subst hp
   simp only[opA]at he
   split at he
   ·rename_i b u v' e1 e2 e3
    simp only[fe,OpR.val.injEq]at he;obtain⟨rfl,rfl⟩:=he
    exact(Z5 ho hc hx hy e1 e2 e3 ht).wr hI
   ·simp at he
  ·simp at hp
 case alloc t=>
  simp only[gv]at hp
  obtain⟨z,hz,rfl⟩:=fp hp
  simp only[opA,fe,OpR.val.injEq]at he;obtain⟨rfl,rfl⟩:=he
  exact Rl ho hz hI
 case box t x=>
  simp only[gv]at hp
  obtain⟨y,hy,rfl⟩:=fp hp
  simp only[opA]at he
  obtain⟨u,hu,he⟩:=nc he
  split at he
  ·rename_i hk
   simp only[fe,OpR.val.injEq]at he;obtain⟨rfl,rfl⟩:=he
   exact a2g ho hy hu hk hI ht
  ·simp at he
 case build t parts=>exact Uf (bsf:=bsf) ho hp he hI ht
 case buildSlice t len parts=>
  simp only[gv]at hp
  split at hp
  ·rename_i e hT
   split at hp
   ·rename_i ag n z hE
    split at hp
    ·rename_i hsz
     obtain⟨ps,hps,rfl⟩:=fp hp
     simp only[opA]at he
     obtain⟨l,hl,e⟩:=fp he
     cases e
     exact a4g ho hT hE hsz hps hl hI ht
    ·simp at hp
   ·simp at hp
  ·simp at hp
 case load t x=>
  simp only[gv]at hp
  split at hp
  ·rename_i ag n y hT hy
   simp only[fe]at hp;subst hp
   simp only[opA]at he
   obtain⟨r,hr,e⟩:=fp he
   cases e
   obtain⟨pv,e1,e2⟩:=nc hr
   exact(Xj ho hT hy e1 e2 hI ht).wr hI
  ·simp at hp
 case store t x y=>
  simp only[gv]at hp
  split at hp
  ·rename_i n x' y' hT hx hy
   simp only[fe]at hp;subst hp
   simp only[opA]at he
   split at he
   ·rename_i pv xv e1 e2
    obtain⟨r,hr,e⟩:=fp he
    cases e
    unfold uo at hr
    split at hr
    ·rename_i i off
     split at hr
     ·rename_i l hH
      split at hr
      ·rename_i hc
       simp only[fe]at hr;subst hr
       exact Kg ho hT hx hy e1 e2 hH hc.1 hc.2.1 hc.2.2 hI ht
      ·simp at hr
     ·simp at hr
    ·simp at hr
   ·simp at he
  ·simp at hp
 case nilCheck x=>
  simp only[gv]at hp
  obtain⟨y,hy,rfl⟩:=fp hp
  simp only[opA]at he
  split at he
  ·rename_i i off e1
   simp only[fe,OpR.val.injEq]at he;obtain⟨rfl,rfl⟩:=he
   exact(A9 ho hy e1 (.inl ⟨_,_,rfl⟩) ht).wr hI
  ·rename_i i off e1
   simp only[fe,OpR.val.injEq]at he;obtain⟨rfl,rfl⟩:=he
   exact(A9 ho hy e1 (.inr (.inl ⟨_,_,rfl⟩)) ht).wr hI
  ·rename_i i off e1
   simp only[fe,OpR.val.injEq]at he;obtain⟨rfl,rfl⟩:=he
   exact(A9 ho hy e1 (.inr (.inr (.inl ⟨_,_,rfl⟩))) ht).wr hI
  ·rename_i i off e1
   simp only[fe,OpR.val.injEq]at he;obtain⟨rfl,rfl⟩:=he
   exact(A9 ho hy e1 (.inr (.inr (.inr ⟨_,_,rfl⟩))) ht).wr hI
  ·simp at he
 case binOp op t x y t'=>exact a2d (bsf:=bsf) ho hp he hI ht
 case unOp op t x=>
  simp only[gv]at hp
  obtain⟨y,hy,rfl⟩:=fp hp
  simp only[opA]at he
  obtain⟨r,hr,e⟩:=fp he
  cases e
  obtain⟨u,e1,e2⟩:=nc hr
  exact(a6h ho hy e1 e2 ht).wr hI
 case convert t t' x=>exact a0u (bsf:=bsf) ho hp he hI ht
 case makeInterface t x=>
  simp only[gv]at hp
  split at hp
  ·simp at hp
  ·simp at hp
  ·rename_i hd1 hd2
   obtain⟨y,hy,rfl⟩:=fp hp
   simp only[opA]at he
   obtain⟨u,hu,e⟩:=fp he
   cases e
   cases hT:P.underlying t with
   | none=>exact(hd2 hT).elim
   | some d=>exact(Ze ho hT (λms e=>hd1 ms (by rw[hT,e])) hy hu ht).wr hI
 case makeFunc fn first caps=>
  cases fn<;>simp only[gv]at hp<;>try (simp at hp;done)
  split at hp
  ·rename_i f hf
   obtain⟨ys,hys,rfl⟩:=fp hp
   simp only[opA]at he
   obtain⟨u,hu,e⟩:=fp he
   cases e
   exact(a0m ho hf hys hu ht).wr hI
  ·split at hp
   ·rename_i hf
    obtain⟨ys,hys,rfl⟩:=fp hp
    simp only[opA]at he
    obtain⟨u,hu,e⟩:=fp he
    cases e
    exact(X3 ho hf hys hu ht).wr hI
   ·simp at hp
 case makeMap t r=>
  cases r<;>simp only[gv]at hp<;>try (simp at hp;done)
  simp only[fe]at hp;subst hp
  simp only[opA,fe,OpR.val.injEq]at he;obtain⟨rfl,rfl⟩:=he
  exact Wc ho hI
 case field=>simp[gv]at hp
 case makeSlice=>simp[gv]at hp
 case slice t x lo hi mx=>exact Sl (bsf:=bsf) ho hp he hI ht
 case fieldAddr t x f=>
  simp only[gv]at hp
  split at hp
  ·rename_i fs y hT hy
   split at hp
   ·rename_i fd hf
    obtain⟨r,hA,rfl⟩:=fp hp
    obtain⟨ag,n⟩:=r
    simp only[opA]at he
    split at he
    ·rename_i i off e1
     simp only[fe,OpR.val.injEq]at he;obtain⟨rfl,rfl⟩:=he
     exact(Jh ho hT hf hA hy e1 (.inl ⟨_,_,rfl,rfl⟩) ht).wr hI
    ·rename_i l off e1
     split at he
     ·simp only[fe,OpR.val.injEq]at he;obtain⟨rfl,rfl⟩:=he
      exact(Jh ho hT hf hA hy e1 (.inr ⟨_,_,rfl,rfl⟩) ht).wr hI
     ·simp at he
    ·simp at he
   ·simp at hp
  ·simp at hp
 case indexAddr t x ix=>exact Tc (bsf:=bsf) ho hp he hI ht
 case index t x ix=>exact Sm (bsf:=bsf) ho hp he hI ht
 case lookup t m k ok=>exact a05 (bsf:=bsf) ho hp he hI ht
 case mapUpdate t m k x=>exact S7 (bsf:=bsf) ho hp he hI ht
 case typeAssert x xt t ok=>exact Wo (bsf:=bsf) ho hp he hI ht
 case extract x i=>
  simp only[gv]at hp
  obtain⟨y,hy,rfl⟩:=fp hp
  simp only[opA]at he
  split at he
  ·rename_i l e1
   obtain⟨r,hr,e⟩:=fp he
   cases e
   exact(a3l ho hy e1 hr ht).wr hI
  ·simp at he
 case call c=>
  cases hcc:c.callee with
  | builtin bi=>exact Mo (bsf:=bsf) hcc ho hp he hI ht
  | value f=>
   obtain⟨callee,args,argTypes⟩:=c
   simp only at hcc;subst hcc
   simp only[gv]at hp
   split at hp
   ·(repeat' (split at hp))<;>(obtain⟨y,hy,rfl⟩:=fp hp;simp[PO.plain]at hpl)
   ·split at hp
    ·simp only[fe]at hp;subst hp;simp[PO.plain]at hpl
    ·simp at hp
  | invoke r m=>
   obtain⟨callee,args,argTypes⟩:=c
   simp only at hcc;subst hcc
   simp[gv]at hp
 case «defer» c=>
  obtain⟨callee,args,argTypes⟩:=c
  cases callee<;>simp only[gv]at hp<;>try (simp at hp;done)
  split at hp
  ·simp only[fe]at hp;subst hp;simp[PO.plain]at hpl
  ·simp at hp
 case panic x=>
  simp only[gv]at hp
  obtain⟨y,hy,rfl⟩:=fp hp
  simp[PO.plain]at hpl
 all_goals simp[gv]at hp
end
end Go.Proofs.Eng
namespace Go.Proofs.Eng
open Go.RowKit
variable [DrK]
theorem ln:∀{l:List AV},gi l=true ↔ ∀x ∈ l,im x=true
 | []=>by simp[gi]
 | x::l=>by simp[gi,ln (l:=l)]
theorem M9 {x:AV} (h:im x=true):∀c ∈ x.cells,im c=true:=by
 cases x<;>simp[AV.cells]<;>first|exact h|skip
 rw[im]at h
 exact ln.1 h
theorem Q9 {l:List AV} (h:∀x ∈ l,im x=true):∀c ∈ flat l,im c=true:=by
 intro c hc
 obtain⟨x,hx,hcx⟩:=List.mem_flatMap.1 hc
 exact M9 (h x hx) c hcx
theorem Dx.pure {g g0:Gh} {s s0:ASt} (hok:∀b o,¬g.wr s b o -> ¬g0.wr s0 b o) {n fl cap:Nat} {a:Option Addr} {t:Tl} (h:t.pure=true) (k:Dx g s n fl a cap t):Dx g0 s0 n fl a cap t:=by
 cases t with
 | al=>exact λh1 ad h2 o=>hok _ _ (k h1 ad h2 o)
 | cap c=>exact⟨k.1,λh1 ad h2 o=>hok _ _ (k.2 h1 ad h2 o)⟩
 | tl id ver=>simp[Tl.pure]at h
 | tls id ver es=>simp[Tl.pure]at h
 | _=>exact k
theorem qw {α:Type} {l:List α} {k:Nat} {a:α} (h:l[k]? = some a):a ∈ l:=aq h
theorem Uu {g g0:Gh} {s s0:ASt} {w:World} (hok:∀b o,¬g.wr s b o -> ¬g0.wr s0 b o) {x:AV} {u:Value} (h:Rep g s w x u) (hp:im x=true):Rep g0 s0 w x u:=by
 induction h with
 | unk v=>simp[im]at hp
 | v h=>exact .v h
 | ptr h=>simp[im]at hp
 | ip cs hn hr hc ih=>
  rw[im]at hp
  have hp:=ln.1 hp
  exact .ip cs hn (λk a c h1 h2=>ih k a c h1 h2 (hp a (qw h1))) λk c hk=>⟨(hc k c hk).1,hok _ _ (hc k c hk).2⟩
 | sl cs hn hr hc ha hln kh ht ih=>
  rw[im,dy]at hp
  have hpl:=Q9 (ln.1 hp.2)
  exact .sl cs hn (λk a c h1 h2=>ih k a c h1 h2 (hpl a (qw h1))) (λk c hk=>⟨(hc k c hk).1,hok _ _ (hc k c hk).2⟩) ha hln kh (ht.pure hok hp.1)
 | bs h kh hz=>simp[im]at hp
 | cp h hz=>simp[im]at hp
 | mp h=>simp[im]at hp
 | fn cs hn hr ih=>
  rw[im]at hp
  have hp:=ln.1 hp
  exact .fn cs hn λk a c h1 h2=>ih k a c h1 h2 (hp a (qw h1))
 | bm cs hn hr ih=>
  rw[im]at hp
  have hp:=ln.1 hp
  exact .bm cs hn λk a c h1 h2=>ih k a c h1 h2 (hp a (qw h1))
 | agg cs hn hr ih=>
  rw[im]at hp
  have hp:=ln.1 hp
  exact .agg cs hn λk a c h1 h2=>ih k a c h1 h2 (hp a (qw h1))
 | tup cs hn hr ih=>
  rw[im]at hp
  have hp:=ln.1 hp
  exact .tup cs hn λk a c h1 h2=>ih k a c h1 h2 (hp a (qw h1))
 | iface h ih=>rw[im]at hp;exact .iface (ih hp)
structure mh (s s':ASt):Prop where
 T:s'.T=s.T
 len:s'.H.length=s.H.length
 Yb:∀(i:Nat) (m:List (AV × AV)),s.H[i]? = some (fq.map m)->s'.H[i]? = some (fq.map m)
 ux:∀(i:Nat) (f:Bool) (l:List AV),s.H[i]? = some (fq.cells f l) -> ∃f',s'.H[i]? = some (fq.cells f' l)/\(f=true->f'=true)
 x5:∀(i:Nat),s.H[i]? = some fq.dead->s'.H[i]? = some fq.dead
theorem mh.refl (s:ASt):mh s s:=⟨rfl,rfl,λ_ _ h=>h,λ_ f _ h=>⟨f,h,id⟩,λ_ h=>h⟩
theorem mh.trans {a b c:ASt} (h:mh a b) (k:mh b c):mh a c:=
 ⟨k.T.trans h.T,k.len.trans h.len,λi m e=>k.Yb i m (h.Yb i m e),λi f l e=>by
  obtain⟨f',e',h1⟩:=h.ux i f l e
  obtain⟨f'',e'',h2⟩:=k.ux i f' l e'
  exact⟨f'',e'',λh=>h2 (h1 h)⟩,λi e=>k.x5 i (h.x5 i e)⟩
theorem mh.fz (s:ASt) (i:Nat):mh s (s.fz i):=by
 unfold ASt.fz
 split
 ·rename_i f l hl
  have hlt:=(List.getElem?_eq_some_iff.1 hl).1
  refine⟨rfl,by simp,λj m h => ?_,λj f' l' h => ?_,λj h => ?_⟩
  ·by_cases hj:i=j
   ·subst hj;rw[hl]at h;cases h
   ·simp only[b9,if_neg hj];exact h
  ·by_cases hj:i=j
   ·subst hj;rw[hl]at h;cases h
    exact⟨true,by simp[hlt],λ_=>rfl⟩
   ·exact⟨f',by simp only[b9,if_neg hj];exact h,id⟩
  ·by_cases hj:i=j
   ·subst hj;rw[hl]at h;cases h
   ·simp only[b9,if_neg hj];exact h
 ·exact .refl s
def mw (s:ASt) (i:Nat):Prop:=∃l,s.H[i]? = some (.cells true l)
theorem mh.frozen {s s':ASt} (h:mh s s') {i:Nat} (hf:mw s i):mw s' i:=by
 obtain⟨l,hl⟩:=hf
 obtain⟨f',e,h1⟩:=h.ux i true l hl
 rw[h1 rfl]at e
 exact⟨l,e⟩
theorem Fx {s:ASt} {i:Nat} {f:Bool} {l:List AV} (h:s.H[i]? = some (.cells f l)):mw (s.fz i) i:=by
 have hlt:=(List.getElem?_eq_some_iff.1 h).1
 unfold ASt.fz
 rw[h]
 exact⟨l,by simp[hlt]⟩
theorem mh.elems {s s':ASt} (h:mh s s') {x:AV} {l:List AV} (he:ku s x=some l):ku s' x=some l:=by
 unfold ku at he ⊢
 split at he
 ·exact he
 ·rename_i i off len es ag
  split at he
  ·rename_i fz c hH
   obtain⟨f',e,_⟩:=h.ux i _ _ hH
   simp only[e]
   exact he
  ·simp at he
 ·simp at he
theorem oc {f:ASt->AV->ASt} (hf:∀s x,mh s (f s x)):∀(l:List AV) (s:ASt),mh s (l.foldl f s)
 | [],s=>.refl s
 | x::l,s=>(hf s x).trans (oc hf l _)
theorem wg:∀(n:Nat) (s:ASt) (x:AV),mh s (frz n s x)
 | 0,s,_=>.refl s
 | n+1,s,x=>by
  have ih:=wg n
  unfold frz
  split
  ·exact .refl s
  ·split
   ·exact oc ih _ _
   ·exact(mh.fz s _).trans (oc ih _ _)
   ·split
    ·exact(mh.fz s _).trans (oc ih _ _)
    ·exact .refl s
   ·exact oc ih _ _
   ·exact oc ih _ _
   ·exact ih _ _
   ·exact oc ih _ _
   ·exact oc ih _ _
   ·exact oc ih _ _
   ·exact .refl s
theorem mh.wr {g:Gh} {s s':ASt} (h:mh s s') {w:World} (hI:Inv g s w) {b o:Nat} (hw:g.wr s' b o):g.wr s b o:=by
 rcases hw with⟨i,l,h1,h2⟩|hw
 ·refine .inl ⟨i,l,h1, ?_⟩
  have hlt:=(hI.lt i b h1).1
  cases ho:s.H[i]? with
  | none=>rw[List.getElem?_eq_none_iff]at ho;omega
  | some ob=>
   cases ob with
   | map m=>rw[h.Yb i m ho]at h2;cases h2
   | dead=>rw[h.x5 i ho]at h2;cases h2
   | cells f l'=>
    obtain⟨f',e,hf⟩:=h.ux i f l' ho
    rw[e]at h2;cases h2
    cases f with
    | false=>rfl
    | true=>have:=hf rfl;cases this
 ·exact .inr hw
theorem mh.ext {g:Gh} {s s':ASt} (h:mh s s') {w:World} (hI:Inv g s w):Ext g s w g s' w where
 mu _ _ h:=h
 T id v e:=⟨v,by rw[h.T];exact e,di _,λ_=>rfl⟩
 size:=di _
 sz:=.refl _
 cell _ _ _ _:=rfl
 wr _ _ _ hn hw:=hn (h.wr hI hw)
 obj _ _ h:=⟨rfl,h⟩
 fb:=rfl
 os:=rfl
 tape:=rfl
 output:=⟨rfl,λ_=>di _⟩
theorem mh.inv {g:Gh} {s s':ASt} (h:mh s s') {w:World} (hI:Inv g s w):Inv g s' w where
 lt i b e:=⟨by rw[h.len];exact(hI.lt i b e).1,(hI.lt i b e).2⟩
 inj i j b e e':=by
  rcases hI.inj i j b e e' with h1|h1|h1
  ·exact .inl h1
  ·exact .inr (.inl (h.x5 i h1))
  ·exact .inr (.inr (h.x5 j h1))
 obj i b ob e ho:=by
  have hlt:=(hI.lt i b e).1
  have ex:=h.ext hI
  cases hs:s.H[i]? with
  | none=>rw[List.getElem?_eq_none_iff]at hs;omega
  | some ob0=>
   have:=hI.obj i b ob0 e hs
   cases ob0 with
   | map m=>
    rw[h.Yb i m hs]at ho;cases ho
    obtain⟨ents,clk,h1,h2,h3⟩:=this;exact⟨ents,clk,h1,h2.mono ex,h3.mono ex⟩
   | dead=>rw[h.x5 i hs]at ho;cases ho;trivial
   | cells f l=>
    obtain⟨f',e',_⟩:=h.ux i f l hs
    rw[e']at ho;cases ho
    obtain⟨cs,el,h1,h2⟩:=this;exact⟨cs,el,h1,h2.mono ex⟩
 rf id q e:=by obtain⟨h1,h2⟩:=hI.rf id q e;exact⟨by rw[h.T];exact h1,h2⟩
 og:=hI.og
 s8:=hI.s8
 u5:=hI.u5
 vg:=hI.vg
 u9:=hI.u9
 kn:=hI.knE (h.ext hI)
theorem Fj {n:Nat} {s:ASt} {x y:AV} (hx:∀l,x ≠ .agg l) (h:gr n s x=some y):∀l,y ≠ .agg l:=by
 cases n with
 | zero=>simp[gr]at h
 | succ n=>
  unfold gr at h
  split at h
  ·simp only[fe]at h;subst h;exact hx
  ·split at h
   case h_4=>exact absurd rfl (hx _)
   case h_3=>
    split at h
    ·split at h
     ·obtain⟨r,_,rfl⟩:=fp h;simp
     ·simp at h
    ·simp at h
   all_goals first|(simp at h;done)|(obtain⟨r,_,rfl⟩:=fp h;simp)
theorem Aa {x:AV} (h:∀l,x ≠ .agg l):x.cells=[x]:=by
 cases x<;>first|rfl|exact absurd rfl (h _)
theorem Cw {α β:Type} {f:α->Option β}:∀{l m:List α} {r q:List β},il f l=some r->il f m=some q->il f (l++m)=some (r++q)
 | [],m,r,q,h,k=>by simp only[il,fe]at h;subst h;exact k
 | x::l,m,r,q,h,k=>by
  simp only[il]at h
  split at h
  ·rename_i y hy
   split at h
   ·rename_i ys hys
    simp only[fe]at h;subst h
    simp only[bn,il,hy,Cw hys k]
   ·simp at h
  ·simp at h
theorem Bb {n:Nat} {s:ASt}:∀{l l':List AV},il (qa (gr n s)) l=some l'->il (gr n s) (flat l)=some (flat l')/\l.length=l'.length
 | [],l',h=>by simp only[il,fe]at h;subst h;exact⟨rfl,rfl⟩
 | x::l,l',h=>by
  simp only[il]at h
  split at h
  ·rename_i y hy
   split at h
   ·rename_i ys hys
    simp only[fe]at h;subst h
    obtain⟨h1,h2⟩:=Bb hys
    refine⟨?_,by simp[h2]⟩
    rw[kp,kp]
    refine Cw ?_ h1
    unfold qa at hy
    split at hy
    ·obtain⟨r,hr,rfl⟩:=fp hy
     exact hr
    ·rename_i hx
     have hx':∀l,x ≠ .agg l:=λl e=>hx l e
     rw[Aa hx',Aa (Fj hx' hy)]
     simp only[il,hy]
   ·simp at h
  ·simp at h
section
variable {g g0:Gh} {s s0:ASt} {w:World}
theorem xr {f:AV->Option AV} {F:ASt->AV->ASt} {ok:Nat->Prop} (hF:∀s x,mh s (F s x))
  (hone:∀x x' u s1,f x=some x'->Rep g s w x u->mh s s1->(∀i,mw (F s1 x) i->ok i)->Rep g0 s0 w x' u) :
  ∀{l l':List AV} {cs:List Value} {s1:ASt},il f l=some l'->ga g s w l cs->mh s s1->(∀i,mw (l.foldl F s1) i->ok i)->ga g0 s0 w l' cs
 | [],l',cs,s1,h,hr,hs,hk=>by
  simp only[il,fe]at h;subst h
  have:cs=[]:=by have:=hr.1;simpa using this.symm
  subst this
  exact .nil _ _ _
 | x::l,l',cs,s1,h,hr,hs,hk=>by
  simp only[il]at h
  split at h
  ·rename_i y hy
   split at h
   ·rename_i ys hys
    simp only[fe]at h;subst h
    obtain⟨c,cs',rfl,hx,hr'⟩:=hr.cons_inv
    simp only[dc]at hk
    exact .cons (hone x y c s1 hy hx hs λi hi=>hk i ((oc hF l _).frozen hi)) (xr hF hone hys hr' (hs.trans (hF s1 x)) hk)
   ·simp at h
  ·simp at h
theorem ou (hI:Inv g s w) (hok:∀b o,¬g.wr s b o -> ¬g0.wr s0 b o) (ok:Nat->Prop) (hfz:∀i b o,g.mu i=some b->ok i -> ¬g0.wr s0 b o) :
  ∀(n:Nat),(1000<=n -> ∀id q o,g.ow id=some q -> ¬g0.wr s0 q.b o) -> ∀(x x':AV) (u:Value) (s1:ASt),gr n s x=some x'->Rep g s w x u->mh s s1->(∀i,mw (frz n s1 x) i->ok i)->Rep g0 s0 w x' u
 | 0,_,x,x',u,s1,h,_,_,_=>by simp[gr]at h
 | n+1,how,x,x',u,s1,h,hr,hs,hk=>by
  have ih:=ou hI hok ok hfz n λh=>how (by omega)
  have lst:∀{l l':List AV} {cs:List Value} {s1:ASt},il (gr n s) l=some l'->ga g s w l cs->mh s s1->(∀i,mw (l.foldl (frz n) s1) i->ok i)->ga g0 s0 w l' cs:=xr (wg n) ih
  unfold gr at h
  unfold frz at hk
  by_cases hp:im x=true
  ·rw[if_pos hp]at h
   simp only[fe]at h;subst h
   exact Uu hok hr hp
  ·rw[if_neg hp]at h hk
   cases x with
   | sl l t=>
    obtain⟨l',hl,rfl⟩:=fp h
    obtain⟨hl1,hl2⟩:=Bb hl
    obtain⟨p,cap,b,o,cs,h1,h2,h3,h4,h5,h6⟩:=hr.n8
    subst h1
    have:=lst hl1 h2 hs hk
    refine .sl cs this.1 this.2 (λk c hk=>⟨(h3 k c hk).1,hok _ _ (h3 k c hk).2⟩) (λhne=>h4 (by rintro rfl;simp at hl2;exact hne (c9 hl2.symm))) hl2.symm h5 ?_
    have hal:L0 g s (flat l).length p->L0 g0 s0 (flat l').length p:=λh hfl ad had o=>hok _ _ (h (by rw[h2.1,<- this.1];exact hfl) ad had o)
    cases t with
    | tl id ver=>
     simp only[Tl.uy]
     split
     ·rename_i hn
      intro hfl ad had o
      obtain⟨v,h7,h8,h9⟩:=h6
      rw[hn.2]at h7;cases h7
      obtain⟨q,e1,_,_,e4,_⟩:=h9 rfl
      rw[e4]at had;cases had
      exact how (by omega) id q o e1
     ·trivial
    | tls id ver es=>
     simp only[Tl.uy]
     split
     ·rename_i hn
      intro hfl ad had o
      obtain⟨v,h7,h8,h9⟩:=h6
      rw[hn.2]at h7;cases h7
      obtain⟨q,d,e1,_,e3,e4,_⟩:=h9 rfl
      have hc0:cap ≠ 0:=λe=>by
       have:l.length=0:=by omega
       have hl0:l'=[]:=c9 (by omega)
       exact hfl (by rw[hl0];rfl)
      rw[e4 hc0]at had;cases had
      exact how (by omega) id q o e1
     ·trivial
    | none=>trivial
    | al=>exact hal h6
    | nil=>exact h6
    | cap c=>exact⟨h6.1,hal h6.2⟩
    | lim c=>exact h6
   | bs i off len es ag=>
    obtain⟨l',hl,rfl⟩:=fp h
    obtain⟨el,hel,hl⟩:=nc hl
    obtain⟨hl1,hl2⟩:=Bb hl
    have hin:=hr
    obtain⟨b,cap,hb,hu,kh,_⟩:=hin.wc
    subst hu
    unfold ku at hel
    simp only at hel
    split at hel
    ·rename_i fz c hH
     split at hel
     ·rename_i hc
      simp only[fe]at hel;subst hel
      obtain⟨cs,elt,h1,h2,h3⟩:=hI.ptr hb hH
      obtain⟨k1,k2⟩:=vz (ag:=ag) len (c.drop off) (by simp;omega) hc.2
      obtain⟨f',hH',_⟩:=hs.ux i _ _ hH
      have hes1:ku s1 (.bs i off len es ag)=some (chunk es ag len (c.drop off)):=by
       simp only[ku,hH',hc,and_self,if_true]
      simp only[hes1,Option.getD_some]at hk
      have hoki:ok i:=hk i ((oc (wg n) _ _).frozen (Fx hH'))
      have hR:=lst hl1 (by rw[k1];exact(h2.drop off).take _) (hs.trans (.fz s1 i)) hk
      rw[k2]at hl2
      refine .sl (b:=b) (o:=off) ((cs.drop off).take (len*es)) hR.1 hR.2 (λk v hv=>⟨?_,hfz i b _ hb hoki⟩) (λ_=>rfl) hl2.symm kh (λ_ ad had o=>by cases had;exact hfz i b o hb hoki)
      rw[bc]at hv
      split at hv
      ·rw[ba]at hv
       have:=h3 _ _ hv
       simpa using this
      ·simp at hv
     ·simp at hel
    ·simp at hel
   | ptr i off=>
    obtain⟨b,hb,hu⟩:=hr.mj
    subst hu
    simp only at h hk
    split at h
    ·rename_i fz c hH
     split at h
     ·rename_i hc
      obtain⟨l',hl,rfl⟩:=fp h
      obtain⟨cs,elt,h1,h2,h3⟩:=hI.ptr hb hH
      obtain⟨f',hH',_⟩:=hs.ux i _ _ hH
      simp only[hH']at hk
      have hoki:ok i:=hk i ((oc (wg n) _ _).frozen (Fx hH'))
      have hR:=lst hl h2 (hs.trans (.fz s1 i)) hk
      have:=Rep.ip (g:=g0) (s:=s0) (w:=w) (l:=l') (off:=off) (b:=b) (o:=0) cs hR.1 hR.2 (λk v hv=>⟨h3 k v hv,hfz i b _ hb hoki⟩)
      simpa using this
     ·simp at h
    ·simp at h
   | agg l=>
    obtain⟨l',hl,rfl⟩:=fp h
    obtain⟨cs,h1,h2⟩:=hr.Dc
    subst h1
    have:=lst hl h2 hs hk
    exact .agg cs this.1 this.2
   | tup l=>
    obtain⟨l',hl,rfl⟩:=fp h
    obtain⟨cs,h1,h2⟩:=hr.I7
    subst h1
    have:=lst hl h2 hs hk
    exact .tup cs this.1 this.2
   | iface t y=>
    obtain⟨y',hy,rfl⟩:=fp h
    obtain⟨c,h1,h2⟩:=hr.tc
    subst h1
    exact .iface (ih y y' c s1 hy h2 hs hk)
   | fn f l=>
    obtain⟨l',hl,rfl⟩:=fp h
    obtain⟨cs,h1,h2⟩:=hr.I1
    subst h1
    have:=lst hl h2 hs hk
    exact .fn cs this.1 this.2
   | bm f l=>
    obtain⟨l',hl,rfl⟩:=fp h
    obtain⟨cs,h1,h2⟩:=hr.Mm
    subst h1
    have:=lst hl h2 hs hk
    exact .bm cs this.1 this.2
   | ip l off=>
    obtain⟨l',hl,rfl⟩:=fp h
    obtain⟨b,o,cs,h1,h2,h3⟩:=hr.Bq
    subst h1
    have:=lst hl h2 hs hk
    exact .ip cs this.1 this.2 (λk c hk=>⟨(h3 k c hk).1,hok _ _ (h3 k c hk).2⟩)
   | v x=>simp[im]at hp
   | mp i=>simp at h
   | cp i off es=>simp at h
   | unk=>simp at h
end
end Go.Proofs.Eng
namespace Go.Proofs.Eng
open Go.RowKit
variable [DrK]
def qk (g:Gh) (s:ASt) (w:World):jx->Ending->Prop
 | .ret v,.returned u=>Rep g s w v u
 | .pan v,.panicked chain=>∃u,chain=[{v:=u,recovered:=false}]/\Rep g s w v u
 | _,_=>False
def Fits (P:Program) (f:FuncId):Prop:=∃fn c,P.funcs[f]? = some fn/\fn.body=some c/\(fn.name == "runtime.NumGoroutine")=false
def Sound (P:Program) (call:ia):Prop:=
 ∀f args s out s',call f args s=some (out,s')->Fits P f /\ ∀g w vs,Inv g s w->ga g s w args vs ->
  Calls P f vs.toArray w λe w'=>∃g',Inv g' s' w'/\Ext g s w g' s' w'/\qk g' s' w' out e
section
variable {P:Program} {g:Gh} {s:ASt} {w:World} {call:ia} {md:FuncId->Md}
theorem yg {s':ASt} (h:mh s s') (hI:Inv g s w):∀i b o,g.mu i=some b->mw s' i -> ¬g.wr s' b o:=by
 rintro i b o hb ⟨l,hl⟩ (⟨j,l',h1,h2⟩|⟨id,q,h1,h2,_⟩|h1)
 ·rcases hI.inj j i b h1 hb with h3|h3|h3
  ·subst h3
   rw[hl]at h2;cases h2
  ·rw[h.x5 j h3]at h2;cases h2
  ·rw[h.x5 i h3]at hl;cases hl
 ·subst h2;exact hI.s8 id q i h1 hb
 ·exact hI.vg i b o hb h1
theorem Rep.zd {g:Gh} {s:ASt} {w:World} {a:AV} {v:Value} (h:Rep g s w a v):Rep g s w (Eng.zd a) v:=by
 cases a with
 | sl l t=>
  show Rep g s w (.sl l (if t.pure then t else .none)) v
  by_cases hp:t.pure=true
  ·rw[if_pos hp];exact h
  ·rw[if_neg hp]
   obtain⟨p,cap,b,o,cs,h1,h2,h3,h4,h5,h6⟩:=h.n8
   subst h1
   exact .sl cs h2.1 h2.2 h3 h4 rfl h5 trivial
 | _=>exact h
theorem Q3 {g:Gh} {s:ASt} {w:World} {pm:Bool} {args:List AV} {vs:List Value} (h:ga g s w args vs):ga g s w (zg pm args) vs:=by
 unfold zg
 split
 ·refine⟨by rw[dg];exact h.1,λk a c h1 h2 => ?_⟩
  rw[bh,fi]at h1
  obtain⟨b,hb,rfl⟩:=h1
  exact(h.2 k b c hb h2).zd
 ·exact h
theorem Ie (hS:Sound P call) {pm:Bool} {f:FuncId} {args:List AV} {out:jx} {s':ASt} (h:my call md pm s f args=some (out,s')) {vs:List Value} (hI:Inv g s w) (hr:ga g s w args vs) :
  Fits P f/\Calls P f vs.toArray w λe w'=>∃g',Inv g' s' w'/\Ext g s w g' s' w'/\qk g' s' w' out e/\(pm=true->g'=g):=by
 unfold my at h
 split at h
 ·split at h
  ·simp at h
  ·split at h
   ·rename_i args' hargs
    split at h
    ·rename_i out1 s1 hc
     obtain⟨o',ho',e⟩:=fp h
     cases e
     generalize hst:args.foldl (frz 20) s=st
     have hle:mh s st:=by rw[<- hst];exact oc (wg 20) args s
     have hIst:=hle.inv hI
     have hEst:=hle.ext hI
     have hInv0:Inv (Gh.empty λb o=>g.wr st b o) ⟨[],[]⟩ w:=Inv.empty hIst.known λb o h=>hIst.Cf h
     have hok:∀b o,¬g.wr s b o -> ¬(Gh.empty λb o=>g.wr st b o).wr ⟨[],[]⟩ b o:=by
      rintro b o hn (⟨i,l,h1,_⟩|⟨id,q,h1,_⟩|h1)
      ·simp[Gh.empty]at h1
      ·simp[Gh.empty]at h1
      ·exact hn (hle.wr hI h1)
     have hfz:∀i b o,g.mu i=some b->mw st i -> ¬(Gh.empty λb o=>g.wr st b o).wr ⟨[],[]⟩ b o:=by
      rintro i b o hb hf (⟨i,l,h1,_⟩|⟨id,q,h1,_⟩|h1)
      ·simp[Gh.empty]at h1
      ·simp[Gh.empty]at h1
      ·exact yg hle hI i b o hb hf h1
     have hr0:=xr (ok:=mw st) (wg 20) (ou hI hok (mw st) hfz 20 λh=>absurd h (by decide)) hargs hr (mh.refl s) (λi hi=>by rw[hst]at hi;exact hi)
     obtain⟨hfit,hcalls⟩:=hS f args' _ out1 s1 hc
     refine⟨hfit,(hcalls _ w vs hInv0 hr0).mono ?_⟩
     rintro e w' ⟨g1,hI1,hE1,hO1⟩
     have hblk:∀b,b<w.heap.size->w'.heap[b]? = w.heap[b]? := λb hb=>(hE1.obj b hb (by rintro(⟨i,h1⟩|⟨id,q,h1,_⟩)<;>simp[Gh.empty]at h1)).1
     have hI':=hIst.same hE1.size hblk hE1.os hE1.tape hE1.output
     refine⟨g,hI',hEst.trans (Ext.same hE1.size hblk hE1.os hE1.tape hE1.output), ?_,λ_=>rfl⟩
     have hok1:∀b o,¬g1.wr s1 b o -> ¬g.wr st b o:=λb o hn hw=>hn (.inr (.inr (by rw[hE1.fb];exact hw)))
     have hfz1:∀i b o,g1.mu i=some b->True -> ¬g.wr st b o:=λi b o hb _ hw=>hI1.vg i b o hb (by rw[hE1.fb];exact hw)
     have pr:∀v v' u,gr 1020 s1 v=some v'->Rep g1 s1 w' v u->Rep g st w' v' u:=λv v' u hp hr=>ou hI1 hok1 (λ_=>True) hfz1 1020 (λ_ id q o h hw=>hI1.u9 id q o h (by rw[hE1.fb];exact hw)) v v' u s1 hp hr (mh.refl _) λ_ _=>trivial
     cases out1 with
     | ret v=>
      obtain⟨v',hv',rfl⟩:=fp ho'
      cases e with
      | returned u=>exact pr v v' u hv' hO1
      | panicked _=>exact hO1.elim
      | outgrown=>exact hO1.elim
     | pan v=>
      obtain⟨v',hv',rfl⟩:=fp ho'
      cases e with
      | returned u=>exact hO1.elim
      | panicked _=>obtain⟨u,hu,hr⟩:=hO1;exact⟨u,hu,pr v v' u hv' hr⟩
      | outgrown=>exact hO1.elim
    ·simp at h
   ·simp at h
 ·split at h
  ·simp at h
  ·rename_i hpm
   split at h
   ·rename_i out1 s1 hc
    obtain⟨o',ho',e⟩:=fp h
    cases e
    obtain⟨hfit,hcalls⟩:=hS f args s out1 s1 hc
    refine⟨hfit,(hcalls g w vs hI hr).mono ?_⟩
    rintro e w' ⟨g1,hI1,hE1,hO1⟩
    have key:∀v v' u,gr 20 s1 v=some v'->Rep g1 s1 w' v u->Inv g1 (frz 20 s1 v) w'/\Ext g s w g1 (frz 20 s1 v) w'/\Rep g1 (frz 20 s1 v) w' v' u:=by
     intro v v' u hp hr
     have hle:=wg 20 s1 v
     refine⟨hle.inv hI1,hE1.trans (hle.ext hI1),ou hI1 (λb o hn hw=>hn (hle.wr hI1 hw)) (mw (frz 20 s1 v)) (yg hle hI1) 20 (λh=>absurd h (by decide)) v v' u s1 hp hr (mh.refl _) λ_ h=>h⟩
    cases out1 with
    | ret v=>
     obtain⟨v',hv',rfl⟩:=fp ho'
     cases e with
     | returned u=>obtain⟨k1,k2,k3⟩:=key v v' u hv' hO1;exact⟨g1,k1,k2,k3,λh=>absurd h hpm⟩
     | panicked _=>exact hO1.elim
     | outgrown=>exact hO1.elim
    | pan v=>
     obtain⟨v',hv',rfl⟩:=fp ho'
     cases e with
     | returned u=>exact hO1.elim
     | panicked _=>
      obtain⟨u,hu,hr⟩:=hO1
      obtain⟨k1,k2,k3⟩:=key v v' u hv' hr
      exact⟨g1,k1,k2,⟨u,hu,k3⟩,λh=>absurd h hpm⟩
     | outgrown=>exact hO1.elim
   ·simp at h
 ·split at h
  ·simp at h
  ·rename_i hpm
   obtain⟨hfit,hcalls⟩:=hS f args s out s' h
   exact⟨hfit,(hcalls g w vs hI hr).mono λe w' ⟨g',h1,h2,h3⟩=>⟨g',h1,h2,h3,λh=>absurd h hpm⟩⟩
theorem Cm (hS:Sound P call) {pm:Bool} {f:FuncId} {args:List AV} {out:jx} {s':ASt} (h:me call md pm s f args=some (out,s')) {vs:List Value} (hI:Inv g s w) (hr:ga g s w args vs) :
  Fits P f/\Calls P f vs.toArray w λe w'=>∃g',Inv g' s' w'/\Ext g s w g' s' w'/\qk g' s' w' out e/\(pm=true->g'=g):=Ie hS h hI (Q3 hr)
def Ge (g:Gh) (s:ASt) (w:World):List (FuncId × List AV)->List Deferred->Prop
 | [],ds=>ds=[]
 | (f,args)::l,ds=>∃(as cap:List Value) (ds':List Deferred),ds = {target:=.fn (.func f) cap.toArray,args:=as.toArray}::ds'/\ga g s w args (as++cap)/\Ge g s w l ds'
theorem Ge.mono {g':Gh} {s':ASt} {w':World} (e:Ext g s w g' s' w'):∀{l:List (FuncId × List AV)} {ds:List Deferred},Ge g s w l ds->Ge g' s' w' l ds
 | [],_,h=>h
 | (f,args)::l,_,⟨as,cap,ds',h1,h2,h3⟩=>⟨as,cap,ds',h1,h2.mono e,h3.mono e⟩
structure jv (g:Gh) (w:World) (st:St) (a:Act):Prop where
 inv:Inv g st.s w
 tm:ga g st.s w st.tm a.tmps.toList
 df:Ge g st.s w st.df a.defers
theorem oa {tm:List AV} {a:Act} {v:AV} {u:Value} (h:ga g s w tm a.tmps.toList) (hv:Rep g s w v u) (dst:Option Nat):ga g s w (put tm dst v) (a.put dst u).tmps.toList:=by
 cases dst with
 | none=>exact h
 | some d=>
  have:=h.set d hv
  simpa[put,Act.put]using this
theorem put_defers (a:Act) (dst:Option Nat) (u:Value):(a.put dst u).defers=a.defers:=by cases dst<;>rfl
def O5 (g:Gh) (s:ASt) (w:World):gg->Exit->Prop
 | .normal,.normal=>True
 | .exit i,.exit j=>i=j
 | .ret,.ret=>True
 | .pan v,.panic chain=>∃u,chain=[{v:=u,recovered:=false}]/\Rep g s w v u
 | _,_=>False
theorem pk {ops:Array Oper} {o:Oper} {tm:List AV} {a:Act} {gd:Option (Nat × Bool)} {b:Bool} (hg:Gv ops o.guard=some gd) (hw:iu tm gd=some b) (ht:ga g s w tm a.tmps.toList):Region.wanted o (yielded ops a.tmps)=b:=by
 unfold Gv at hg
 unfold Region.wanted
 split at hg
 ·rename_i ho
  simp only[fe]at hg;subst hg
  simp only[iu,fe]at hw;subst hw
  rw[ho]
 ·rename_i j want ho
  rw[ho]
  obtain⟨d,hd,rfl⟩:=fp hg
  simp only[iu]at hw
  have hy:yielded ops a.tmps j=match a.tmps[d]? with|some (.bool b)=>some b|_=>none:=by
   unfold yielded
   rw[hd]
   rfl
  simp only[hy]
  cases hd':tm[d]? with
  | none=>rw[hd']at hw;simp at hw
  | some x=>
   rw[hd']at hw
   obtain⟨c,hc,hr⟩:=ht.get hd'
   rw[Array.getElem?_toList]at hc
   rw[hc]
   split at hw
   ·rename_i b' heq
    cases heq
    cases hr.ke
    simp only[fe]at hw;subst hw
    cases b'<;>cases want<;>rfl
   ·rename_i heq
    cases heq
    obtain⟨cs,h1,h2⟩:=hr.I7
    subst h1
    simp only[fe]at hw;subst hw
    rfl
   ·simp at hw
end
end Go.Proofs.Eng
namespace Go.Proofs.Eng
open Go.RowKit
variable [DrK]
section
variable {P:Program} {g:Gh} {w:World} {call:ia} {md:FuncId->Md} {bsf:Bf} {a:Act} {o:Oper}
theorem U2 {op:Op} {X0:X} {Xs:List X} (h:gv P bsf op=some (.call X0 Xs)):∃f args ts,op = .call {callee:=.value f,args:=args,argTypes:=ts}/\gh f=some X0/\il gh args.toList=some Xs:=by
 cases op
 case makeFunc fn first caps=>cases fn<;>simp only[gv]at h<;>((repeat' (split at h))<;>first|(simp at h;done)|(obtain⟨_,_,e⟩:=fp h;cases e))
 case makeMap t r=>cases r<;>simp only[gv]at h<;>((repeat' (split at h))<;>first|(simp at h;done)|(obtain⟨_,_,e⟩:=fp h;cases e))
 all_goals simp only[gv]at h
 case call c=>
  obtain⟨callee,args,ts⟩:=c
  cases callee with
  | value f=>
   simp only at h
   split at h
   ·rename_i gf x hx
    split at h
    ·split at h
     ·obtain⟨y,hy,e⟩:=fp h
      cases e
      refine⟨.func gf,args,ts,rfl,rfl, ?_⟩
      rw[hx];simp[il,hy]
     ·obtain⟨y,_,e⟩:=fp h;cases e
    ·obtain⟨y,hy,e⟩:=fp h
     cases e
     refine⟨.func gf,args,ts,rfl,rfl, ?_⟩
     rw[hx];simp[il,hy]
   ·rename_i l hnot
    split at h
    ·rename_i f' l' h1 h2
     simp only[fe,PO.call.injEq]at h
     obtain⟨rfl,rfl⟩:=h
     exact⟨_,args,ts,rfl,h1,h2⟩
    ·simp at h
  | invoke r m=>simp at h
  | builtin b=>
   simp only at h
   split at h<;>(repeat' (split at h))<;>first|(simp at h;done)|(obtain⟨_,_,e⟩:=fp h;cases e)
 case «defer» c=>
  obtain⟨callee,args,ts⟩:=c
  cases callee<;>simp only at h<;>try (simp at h;done)
  split at h<;>simp at h
 all_goals (repeat' (split at h))<;>first|(simp at h;done)|(obtain⟨_,_,e⟩:=fp h;cases e)
theorem Wz {op:Op} {X0:X} {Xs:List X} (h:gv P bsf op=some (.dfr X0 Xs)):∃f args ts,op = .defer {callee:=.value f,args:=args,argTypes:=ts}/\gh f=some X0/\il gh args.toList=some Xs:=by
 cases op
 case makeFunc fn first caps=>cases fn<;>simp only[gv]at h<;>((repeat' (split at h))<;>first|(simp at h;done)|(obtain⟨_,_,e⟩:=fp h;cases e))
 case makeMap t r=>cases r<;>simp only[gv]at h<;>((repeat' (split at h))<;>first|(simp at h;done)|(obtain⟨_,_,e⟩:=fp h;cases e))
 all_goals simp only[gv]at h
 case call c=>
  obtain⟨callee,args,ts⟩:=c
  cases callee with
  | value f=>
   simp only at h
   split at h
   ·(repeat' (split at h))<;>(obtain⟨y,_,e⟩:=fp h;cases e)
   ·split at h<;>simp at h
  | invoke r m=>simp at h
  | builtin b=>
   simp only at h
   split at h<;>(repeat' (split at h))<;>first|(simp at h;done)|(obtain⟨_,_,e⟩:=fp h;cases e)
 case «defer» c=>
  obtain⟨callee,args,ts⟩:=c
  cases callee<;>simp only at h<;>try (simp at h;done)
  split at h
  ·rename_i f' l' h1 h2
   simp only[fe,PO.dfr.injEq]at h
   obtain⟨rfl,rfl⟩:=h
   exact⟨_,args,ts,rfl,h1,h2⟩
  ·simp at h
 all_goals (repeat' (split at h))<;>first|(simp at h;done)|(obtain⟨_,_,e⟩:=fp h;cases e)
theorem Ox {op:Op} {es:Nat} {ag tl:Bool} {x:X} (h:gv P bsf op=some (.clone es ag tl x)):∃f y t ts,op = .call {callee:=.value (.func f),args := #[y],argTypes:=ts}/\sn P f=some (ag,es,t)/\gh y=some x:=by
 cases op
 case makeFunc fn first caps=>cases fn<;>simp only[gv]at h<;>((repeat' (split at h))<;>first|(simp at h;done)|(obtain⟨_,_,e⟩:=fp h;cases e))
 case makeMap t r=>cases r<;>simp only[gv]at h<;>((repeat' (split at h))<;>first|(simp at h;done)|(obtain⟨_,_,e⟩:=fp h;cases e))
 all_goals simp only[gv]at h
 case call c=>
  obtain⟨callee,args,ts⟩:=c
  cases callee with
  | value f=>
   simp only at h
   split at h
   ·rename_i gf y hy
    split at h
    ·rename_i ag' n t' hcl
     split at h
     ·obtain⟨_,_,e⟩:=fp h;cases e
     obtain⟨x',hx',e⟩:=fp h
     cases e
     refine⟨gf,y,t',ts, ?_,hcl,hx'⟩
     rw[<- dx (xs:=args),hy]
    ·obtain⟨_,_,e⟩:=fp h;cases e
   ·split at h<;>simp at h
  | invoke r m=>simp at h
  | builtin b=>
   simp only at h
   split at h<;>(repeat' (split at h))<;>first|(simp at h;done)|(obtain⟨_,_,e⟩:=fp h;cases e)
 case «defer» c=>
  obtain⟨callee,args,ts⟩:=c
  cases callee<;>simp only at h<;>try (simp at h;done)
  split at h<;>simp at h
 all_goals (repeat' (split at h))<;>first|(simp at h;done)|(obtain⟨_,_,e⟩:=fp h;cases e)
theorem Pm {op:Op} {x:X} (h:gv P bsf op=some (.panic x)):∃y,gh y=some x/\((op = .panic y) \/ ∃ts,op = .call {callee:=.builtin .panic,args := #[y],argTypes:=ts}):=by
 cases op
 case makeFunc fn first caps=>cases fn<;>simp only[gv]at h<;>((repeat' (split at h))<;>first|(simp at h;done)|(obtain⟨_,_,e⟩:=fp h;cases e))
 case makeMap t r=>cases r<;>simp only[gv]at h<;>((repeat' (split at h))<;>first|(simp at h;done)|(obtain⟨_,_,e⟩:=fp h;cases e))
 all_goals simp only[gv]at h
 case call c=>
  obtain⟨callee,args,ts⟩:=c
  cases callee with
  | value f=>
   simp only at h
   split at h
   ·(repeat' (split at h))<;>(obtain⟨y,_,e⟩:=fp h;cases e)
   ·split at h<;>simp at h
  | invoke r m=>simp at h
  | builtin b=>
   simp only at h
   split at h
   case h_7=>
    rename_i y hy
    obtain⟨x',hx',e⟩:=fp h
    cases e
    refine⟨y,hx',.inr ⟨ts, ?_⟩⟩
    rw[<- dx (xs:=args),hy]
   all_goals (repeat' (split at h))<;>first|(simp at h;done)|(obtain⟨_,_,e⟩:=fp h;cases e)
 case «defer» c=>
  obtain⟨callee,args,ts⟩:=c
  cases callee<;>simp only at h<;>try (simp at h;done)
  split at h<;>simp at h
 case panic y=>
  obtain⟨x',hx',e⟩:=fp h
  cases e
  exact⟨y,hx',.inl rfl⟩
 all_goals (repeat' (split at h))<;>first|(simp at h;done)|(obtain⟨_,_,e⟩:=fp h;cases e)
theorem Fits.callFunc {f:FuncId} (h:Fits P f) (args:Array Value) (w:World):(callFunc f args).run P w = .ok (.enter f args) w:=by
 obtain⟨fn,c,h1,h2,h3⟩:=h
 have h3':¬fn.name = "runtime.NumGoroutine" := by simpa using h3
 simp[Go.callFunc,program,Sem.run,h1,h2,h3']
theorem Cl {f:Operand} {args:Array Operand} {ts:Array TypeId} {ty:TypeId} {X0:X} {Xs:List X} {tm:List AV} {s:ASt} {gf:FuncId} {caps l:List AV} (hf:gh f=some X0) (hx:il gh args.toList=some Xs) (ef:evX tm X0=some (.fn gf caps)) (ex:il (evX tm) Xs=some l)
  (ht:ga g s w tm a.tmps.toList):∃as cap:List Value,(resolve a.eval {callee:=.value f,args:=args,argTypes:=ts} ty).run P w = .ok {target:=.fn (.func gf) cap.toArray,args:=as.toArray} w/\ga g s w (l++caps) (as++cap):=by
 obtain⟨cap,hu,kh⟩:=(fx hf ef ht).I1
 have has:=B6 hx ex ht
 refine⟨args.toList.map a.eval,cap, ?_,has.append kh⟩
 have e:args.map a.eval=(args.toList.map a.eval).toArray:=by rw[<- dx (xs:=args.map a.eval)];simp
 simp only[resolve,Deferred.ofValue,hu,e]
 simp
theorem Lf {f:Operand} {args:Array Operand} {ts:Array TypeId} {ty:TypeId} {X0:X} {Xs:List X} {tm:List AV} {s:ASt} {gf:FuncId} {fs l:List AV} (hf:gh f=some X0) (hx:il gh args.toList=some Xs) (ef:evX tm X0=some (.bm gf fs)) (ex:il (evX tm) Xs=some l)
  (ht:ga g s w tm a.tmps.toList):∃as cap:List Value,(resolve a.eval {callee:=.value f,args:=args,argTypes:=ts} ty).run P w = .ok {target:=.fn (.func gf) cap.toArray,args:=as.toArray} w/\ga g s w (fs++l) (as++cap):=by
 obtain⟨first,hu,kh⟩:=(fx hf ef ht).Mm
 have has:=B6 hx ex ht
 refine⟨first++args.toList.map a.eval,[], ?_,by rw[List.append_nil];exact kh.append has⟩
 have e:args.map a.eval=(args.toList.map a.eval).toArray:=by rw[<- dx (xs:=args.map a.eval)];simp
 simp only[resolve,Deferred.ofValue,hu,e]
 simp
theorem o8 (hS:Sound P call) {ops:Array Oper} {i:PI} {st st':St} {ex:gg} {pm:Bool} (hdst:i.dst=o.dst) (hg:Gv ops o.guard=some i.g) (hp:gv P bsf o.op=some i.op) (hs:iw call md pm i st=some (ex,st')) (hR:jv g w st a)
  {K:Act->World->Prop} {Q:Exit->Act->World->Prop} (hK:ex = .normal -> ∀g' a' w',Ext g st.s w g' st'.s w'->jv g' w' st' a'->(pm=true->Mun g st.s g')->K a' w')
  (hQ:∀v,ex = .pan v -> ∀g' a' w' u,Ext g st.s w g' st'.s w'->jv g' w' st' a'->Rep g' st'.s w' v u->Q (.panic [{v:=u,recovered:=false}]) a' w') :
  if Region.wanted o (yielded ops a.tmps)=true then o.wp P a w K Q else K (a.put o.dst undef) w:=by
 unfold iw at hs
 split at hs
 ·rename_i hw
  simp only[fe,ff]at hs
  obtain⟨rfl,rfl⟩:=hs
  rw[pk hg hw hR.tm]
  simp only[dz,if_false]
  exact hK rfl g _ w (.refl _ _ _) ⟨hR.inv,by rw[<- hdst];exact oa hR.tm Rep.undef i.dst,by rw[put_defers];exact hR.df⟩ λ_=>.refl _ _
 ·rename_i hw
  rw[pk hg hw hR.tm]
  simp only[if_true]
  split at hs
  ·rename_i v s' he
   simp only[fe,ff]at hs
   obtain⟨rfl,rfl⟩:=hs
   have fin:∀g' u w',Inv g' s' w'->Ext g st.s w g' s' w'->Rep g' s' w' v u->Mun g st.s g'->K (a.put o.dst u) w':=λg' u w' h1 h2 h3 h4=>
    hK rfl g' _ w' h2 ⟨h1,by rw[<- hdst];exact oa (hR.tm.mono h2) h3 i.dst,by rw[put_defers];exact hR.df.mono h2⟩ λ_=>h4
   by_cases hpl:i.op.plain=true
   ·obtain⟨g',u,w',h1,h2,h3,h4,h5⟩:=Ve hp hpl he hR.inv hR.tm
    unfold Oper.wp
    rcases h1 with h1|⟨h1,rfl⟩
    ·rw[h1];exact fin g' u w' h2 h3 h4 h5
    ·rw[h1];exact fin g' undef w' h2 h3 h4 h5
   ·cases hop:i.op with
    | clone es ag tl x=>
     rw[hop]at hp he
     obtain⟨f,y,t,ts,ho,hcl,hy⟩:=Ox hp
     simp only[opA]at he
     have hcall:∀{av:AV} {l:List AV},evX st.tm x=some av->ku st.s av=some l ->
       ((l=[]/\s'=st.s/\v = .sl [] (sj av))\/(l ≠ []/\(l.length<=1073741824/\(l.all λx=>x.cells.length==es&&x.cells.all ic)=true)/\((v = .bs st.s.H.length 0 l.length es ag/\s' = {st.s with H:=st.s.H++[.cells false (flat l)]})\/(v = .sl l (.tl st.s.T.length 0)/\s' = {st.s with T:=st.s.T++[0]}))))->o.wp P a w K Q:=by
      intro av l e1 e2 hv
      have hry:=fx hy e1 hR.tm
      have hc:=Cr hcl e2 hry hR.inv hv
      have hfit:Fits P f:=by
       obtain⟨fn,e,z,q0,q1,q2,q3,id0,id1,id2,id3,h1,h2,_,_,_,_,_,h3,_⟩:=wx hcl
       exact⟨fn,_,h1,h3,h2⟩
      have hrun:(execOp a.eval o).run P w = .ok (.enter f #[a.eval y]) w:=by
       have hfe:a.eval (.func f) = .func (.func f) #[] #[]:=rfl
       simp only[execOp,ho,resolve,Sem.run_bind,Deferred.ofValue,hfe,Sem.run_pure,Result.andThen_ok,invoke]
       have:=hfit.callFunc #[a.eval y] w
       simpa using this
      unfold Oper.wp
      rw[hrun]
      refine hc.mono ?_
      rintro e w' ⟨g',u,rfl,h1,h2,h3,h4⟩
      exact fin g' u w' h1 h2 h3 h4
     split at he
     ·rename_i e1
      obtain⟨av,e1,e2⟩:=nc e1
      simp only[fe,OpR.val.injEq]at he
      obtain⟨rfl,rfl⟩:=he
      exact hcall e1 e2 (.inl ⟨rfl,rfl,by rw[e1];rfl⟩)
     ·rename_i l hne e1
      obtain⟨av,e1,e2⟩:=nc e1
      split at he
      ·rename_i hc
       cases tl with
       | false=>
        simp only[fe,OpR.val.injEq]at he
        obtain⟨rfl,rfl⟩:=he
        exact hcall e1 e2 (.inr ⟨λe=>hne e,hc,.inl ⟨rfl,rfl⟩⟩)
       | true=>
        simp only[fe,OpR.val.injEq]at he
        obtain⟨rfl,rfl⟩:=he
        exact hcall e1 e2 (.inr ⟨λe=>hne e,hc,.inr ⟨rfl,rfl⟩⟩)
      ·simp at he
     ·simp at he
    | call f l=>rw[hop]at he;simp only[opA]at he;split at he<;>simp at he
    | dfr f l=>rw[hop]at he;simp only[opA]at he;split at he<;>simp at he
    | panic x=>rw[hop]at he;simp only[opA]at he;split at he<;>simp at he
    | ug=>rw[hop]at he;simp[opA]at he
    | _=>rw[hop]at hpl;simp[PO.plain]at hpl
  ·rename_i f args he
   have hcallop:∃X0 Xs,i.op = .call X0 Xs:=by
    cases hop:i.op with
    | call X0 Xs=>exact⟨X0,Xs,rfl⟩
    | _=>rw[hop]at he;exfalso;simp only[opA]at he;(repeat' (split at he))<;>first|(simp at he;done)|(simp[Option.bind_eq_some_iff]at he;done)
   obtain⟨X0,Xs,hop⟩:=hcallop
   rw[hop]at hp he
   obtain⟨fo,args0,ts,ho,hf,hx⟩:=U2 hp
   simp only[opA]at he
   split at he
   ·rename_i gf caps l e1 e2
    simp only[fe,OpR.call.injEq]at he
    obtain⟨rfl,rfl⟩:=he
    obtain⟨as,cap,hres,hrl⟩:=Cl (P:=P) (ts:=ts) (ty:=o.type) hf hx e1 e2 hR.tm
    have key:∀out s',me call md pm st.s gf (l++caps)=some (out,s')->(∀g' w' e,Inv g' s' w'->Ext g st.s w g' s' w'->qk g' s' w' out e->(pm=true->g'=g) ->
      (match e with | .returned v=>K (a.put o.dst v) w' | .panicked chain=>Q (.panic chain) a w' | .outgrown=>LetsOut Q))->o.wp P a w K Q:=by
     intro out s' hc hfin
     obtain⟨hfit,hcalls⟩:=Cm hS hc hR.inv hrl
     have hrun:(execOp a.eval o).run P w = .ok (.enter gf (as++cap).toArray) w:=by
      simp only[execOp,ho,Sem.run_bind,hres,Result.andThen_ok,invoke]
      have:=hfit.callFunc (as++cap).toArray w
      simpa using this
     unfold Oper.wp
     rw[hrun]
     refine hcalls.mono ?_
     rintro e w' ⟨g',h1,h2,h3,h4⟩
     have:=hfin g' w' e h1 h2 h3 h4
     cases e<;>exact this
    split at hs
    ·rename_i v s' hc
     simp only[fe,ff]at hs
     obtain⟨rfl,rfl⟩:=hs
     refine key _ _ hc λg' w' e h1 h2 h3 h4 => ?_
     cases e with
     | returned u=>exact hK rfl g' _ w' h2 ⟨h1,by rw[<- hdst];exact oa (hR.tm.mono h2) h3 i.dst,by rw[put_defers];exact hR.df.mono h2⟩ λhpm=>by rw[h4 hpm];exact .refl _ _
     | panicked _=>exact h3.elim
     | outgrown=>exact h3.elim
    ·rename_i v s' hc
     simp only[fe,ff]at hs
     obtain⟨rfl,rfl⟩:=hs
     refine key _ _ hc λg' w' e h1 h2 h3 h4 => ?_
     cases e with
     | returned u=>exact h3.elim
     | panicked chain=>
      obtain⟨u,rfl,hu⟩:=h3
      exact hQ v rfl g' a w' u h2 ⟨h1,hR.tm.mono h2,hR.df.mono h2⟩ hu
     | outgrown=>exact h3.elim
    ·simp at hs
   ·rename_i gf fs l e1 e2
    simp only[fe,OpR.call.injEq]at he
    obtain⟨rfl,rfl⟩:=he
    obtain⟨as,cap,hres,hrl⟩:=Lf (P:=P) (ts:=ts) (ty:=o.type) hf hx e1 e2 hR.tm
    have key:∀out s',me call md pm st.s gf (fs++l)=some (out,s')->(∀g' w' e,Inv g' s' w'->Ext g st.s w g' s' w'->qk g' s' w' out e->(pm=true->g'=g) ->
      (match e with | .returned v=>K (a.put o.dst v) w' | .panicked chain=>Q (.panic chain) a w' | .outgrown=>LetsOut Q))->o.wp P a w K Q:=by
     intro out s' hc hfin
     obtain⟨hfit,hcalls⟩:=Cm hS hc hR.inv hrl
     have hrun:(execOp a.eval o).run P w = .ok (.enter gf (as++cap).toArray) w:=by
      simp only[execOp,ho,Sem.run_bind,hres,Result.andThen_ok,invoke]
      have:=hfit.callFunc (as++cap).toArray w
      simpa using this
     unfold Oper.wp
     rw[hrun]
     refine hcalls.mono ?_
     rintro e w' ⟨g',h1,h2,h3,h4⟩
     have:=hfin g' w' e h1 h2 h3 h4
     cases e<;>exact this
    split at hs
    ·rename_i v s' hc
     simp only[fe,ff]at hs
     obtain⟨rfl,rfl⟩:=hs
     refine key _ _ hc λg' w' e h1 h2 h3 h4 => ?_
     cases e with
     | returned u=>exact hK rfl g' _ w' h2 ⟨h1,by rw[<- hdst];exact oa (hR.tm.mono h2) h3 i.dst,by rw[put_defers];exact hR.df.mono h2⟩ λhpm=>by rw[h4 hpm];exact .refl _ _
     | panicked _=>exact h3.elim
     | outgrown=>exact h3.elim
    ·rename_i v s' hc
     simp only[fe,ff]at hs
     obtain⟨rfl,rfl⟩:=hs
     refine key _ _ hc λg' w' e h1 h2 h3 h4 => ?_
     cases e with
     | returned u=>exact h3.elim
     | panicked chain=>
      obtain⟨u,rfl,hu⟩:=h3
      exact hQ v rfl g' a w' u h2 ⟨h1,hR.tm.mono h2,hR.df.mono h2⟩ hu
     | outgrown=>exact h3.elim
    ·simp at hs
   ·simp at he
  ·rename_i v he
   simp only[fe,ff]at hs
   obtain⟨rfl,rfl⟩:=hs
   have hpanop:∃x,i.op = .panic x:=by
    cases hop:i.op with
    | panic x=>exact⟨x,rfl⟩
    | _=>rw[hop]at he;exfalso;simp only[opA]at he;(repeat' (split at he))<;>first|(simp at he;done)|(simp[Option.bind_eq_some_iff]at he;done)
   obtain⟨x,hop⟩:=hpanop
   rw[hop]at hp he
   obtain⟨y,hy,ho⟩:=Pm hp
   simp only[opA]at he
   split at he
   ·rename_i t av e1
    simp only[fe,OpR.panic.injEq]at he
    subst he
    have hr:=fx hy e1 hR.tm
    obtain⟨c,hu,hc⟩:=hr.tc
    have hrun:(execOp a.eval o).run P w = .halt (.panic (.iface t c)) w:=by
     rcases ho with ho|⟨ts,ho⟩
     ·simp[execOp,ho,hu,Instr.panic,goPanic,Sem.run]
     ·simp[execOp,ho,hu,resolve,invoke,builtin,Instr.panic,goPanic,Sem.run]
    unfold Oper.wp
    rw[hrun]
    exact hQ _ rfl g a w _ (.refl _ _ _) hR (.iface hc)
   ·simp at he
  ·rename_i f args he
   simp only[fe,ff]at hs
   obtain⟨rfl,rfl⟩:=hs
   have hdop:∃X0 Xs,i.op = .dfr X0 Xs:=by
    cases hop:i.op with
    | dfr X0 Xs=>exact⟨X0,Xs,rfl⟩
    | _=>rw[hop]at he;exfalso;simp only[opA]at he;(repeat' (split at he))<;>first|(simp at he;done)|(simp[Option.bind_eq_some_iff]at he;done)
   obtain⟨X0,Xs,hop⟩:=hdop
   rw[hop]at hp he
   obtain⟨fo,args0,ts,ho,hf,hx⟩:=Wz hp
   simp only[opA]at he
   split at he
   ·rename_i gf caps l e1 e2
    simp only[fe,OpR.dfr.injEq]at he
    obtain⟨rfl,rfl⟩:=he
    obtain⟨as,cap,hres,hrl⟩:=Cl (P:=P) (ts:=ts) (ty:=o.type) hf hx e1 e2 hR.tm
    have hrun:(execOp a.eval o).run P w = .ok (.defer {target:=.fn (.func gf) cap.toArray,args:=as.toArray}) w:=by
     simp only[execOp,ho,Sem.run_bind,hres,Result.andThen_ok,Sem.run_pure]
    unfold Oper.wp
    rw[hrun]
    refine hK rfl g _ w (.refl _ _ _) ⟨hR.inv,by rw[<- hdst];exact oa (a:={a with defers:=_::a.defers}) hR.tm Rep.undef i.dst, ?_⟩ λ_=>.refl _ _
    rw[put_defers]
    exact⟨as,cap,a.defers,rfl,hrl,hR.df⟩
   ·simp at he
  ·simp at hs
  ·simp at hs
 ·simp at hs
end
end Go.Proofs.Eng
namespace Go.Proofs.Eng
open Go.RowKit
variable [DrK]
section
variable {P:Program} {call:ia} {md:FuncId->Md} {bsf:Bf}
def QOK (g:Gh) (s:ASt) (w:World) (ex:gg) (st':St) (Q:Exit->Act->World->Prop):Prop:=
 ∀g' a' w' e,Ext g s w g' st'.s w'->jv g' w' st' a'->O5 g' st'.s w' ex e->Q e a' w'
def Bg (P:Program) (bsf:Bf) (ops:Array Oper) (k:Nat) (l:List PI):Prop:=
 ∀j i,l[j]? = some i -> ∃o,ops[k+j]? = some o/\i.dst=o.dst/\Gv ops o.guard=some i.g/\gv P bsf o.op=some i.op
theorem Du {ops:Array Oper} {o:Oper} {i:PI} (h:Dm P bsf ops o=some i):i.dst=o.dst/\Gv ops o.guard=some i.g/\gv P bsf o.op=some i.op:=by
 unfold Dm at h
 split at h
 ·rename_i gd op h1 h2
  simp only[fe]at h;subst h
  exact⟨rfl,h1,h2⟩
 ·simp at h
theorem yn {ops:Array Oper} {l:List PI} (h:il (Dm P bsf ops) ops.toList=some l):Bg P bsf ops 0 l/\l.length=ops.size:=by
 obtain⟨h1,h2⟩:=sx h
 refine⟨λj i hj => ?_,by simpa using h1.symm⟩
 have hlt:j<ops.toList.length:=by rw[h1];exact(List.getElem?_eq_some_iff.1 hj).1
 have ho:=aa hlt
 refine⟨_,by simpa using ho,Du (h2 j _ i ho hj)⟩
theorem En (hS:Sound P call) {ops:Array Oper}:∀(l:List PI) (k:Nat) (st:St) (a:Act) (g:Gh) (w:World) (ex:gg) (st':St) (Q:Exit->Act->World->Prop),Bg P bsf ops k l->kg call md l st=some (ex,st')->jv g w st a->QOK g st.s w ex st' Q ->
  wpOps P ops Q (List.range' k l.length) a w
 | [],k,st,a,g,w,ex,st',Q,_,hs,hR,hQ=>by
  simp only[kg,fe,ff]at hs
  obtain⟨rfl,rfl⟩:=hs
  exact hQ g a w .normal (.refl _ _ _) hR trivial
 | i::l,k,st,a,g,w,ex,st',Q,hp,hs,hR,hQ=>by
  obtain⟨o,ho,h1,h2,h3⟩:=hp 0 i rfl
  have hp':Bg P bsf ops (k+1) l:=λj i' hj=>by
   obtain⟨o',ho',r⟩:=hp (j+1) i' (by simpa using hj)
   exact⟨o',by rw[<- ho'];congr 1;omega,r⟩
  rw[Nat.add_zero]at ho
  simp only[kg]at hs
  simp only[ak,List.range'_succ,wpOps,ho]
  have main:∀ex1 st1,iw call md false i st=some (ex1,st1)->(ex1 = .normal->kg call md l st1=some (ex,st'))->((ex1 = .normal->False)->(ex1,st1)=(ex,st')) ->
    (if Region.wanted o (yielded ops a.tmps)=true then o.wp P a w (wpOps P ops Q (List.range' (k+1) l.length)) Q\/(o.asks P a w/\LetsOut Q)else wpOps P ops Q (List.range' (k+1) l.length) (a.put o.dst undef) w):=by
   intro ex1 st1 h4 hn hx
   have:=o8 hS h1 h2 h3 h4 hR (K:=wpOps P ops Q (List.range' (k+1) l.length)) (Q:=Q)
    (λe g' a' w' hE hR' _=>En hS l (k+1) st1 a' g' w' ex st' Q hp' (hn e) hR' λg'' a'' w'' e'' hE' hR'' hx''=>hQ g'' a'' w'' e'' (hE.trans hE') hR'' hx'')
    (λv e g' a' w' u hE hR' hu=>by
     subst e
     have:=hx (by simp)
     cases this
     exact hQ g' a' w' _ hE hR' ⟨u,rfl,hu⟩)
   split
   ·rename_i hwt;rw[if_pos hwt]at this;exact .inl this
   ·rename_i hwt;rw[if_neg hwt]at this;exact this
  cases h4:iw call md false i st with
  | none=>rw[h4]at hs;simp at hs
  | some r=>
   obtain⟨ex1,st1⟩:=r
   rw[h4]at hs
   refine main ex1 st1 h4 (λe=>by subst e;exact hs) (λe => ?_)
   cases ex1 with
   | normal=>exact absurd rfl e
   | exit i=>simpa using hs
   | ret=>simpa using hs
   | pan v=>simpa using hs
def mo (P:Program) (bsf:Bf) (call:ia) (md:FuncId->Md):Prop:=
 P.follows .mixedOrders=true /\ ∀(ops:Array Oper) (n:List Nat) (l:List PI) (st st':St) (ex:gg) (a:Act) (g:Gh) (w:World) (Q:Exit->Act->World->Prop),B8 P bsf ops=some (.jk n l)->m9 call md n l st=some (ex,st')->jv g w st a->QOK g st.s w ex st' Q ->
  wpAny P .any ops Q ops.size (Array.replicate ops.size false) a {w with drawn:=w.drawn+1}
def yo (P:Program) (bsf:Bf) (lp:PC->St->Option (gg × St)) (c:Code) (pc:PC):Prop:=
 ∀(st st':St) (ex:gg) (a:Act) (g:Gh) (w:World) (Q:Exit->Act->World->Prop),lp pc st=some (ex,st')->jv g w st a->QOK g st.s w ex st' Q->c.wp P Q a w
theorem QOK.from {g g':Gh} {s s':ASt} {w w':World} {ex:gg} {st':St} {Q:Exit->Act->World->Prop} (h:QOK g s w ex st' Q) (e:Ext g s w g' s' w'):QOK g' s' w' ex st' Q:=
 λg'' a'' w'' e'' hE hR hx=>h g'' a'' w'' e'' (e.trans hE) hR hx
theorem vy (hS:Sound P call) (hD:mo P bsf call md) {lp:PC->St->Option (gg × St)} (hL:∀c b,ik P bsf c=some b->yo P bsf lp (.loop c) b) :
  ∀(c:Code) (pc:PC),ik P bsf c=some pc->yo P bsf (iy call md lp) c pc
 | .skip,pc,hp=>by
  simp only[ik,fe]at hp;subst hp
  intro st st' ex a g w Q hs hR hQ
  simp only[iy,fe,ff]at hs
  obtain⟨rfl,rfl⟩:=hs
  exact wp_skip (hQ g a w .normal (.refl _ _ _) hR trivial)
 | .region id ops d,pc,hp=>by
  intro st st' ex a g w Q hs hR hQ
  cases d with
  | false=>
   simp only[ik]at hp
   obtain⟨l,hl,rfl⟩:=fp hp
   obtain⟨h1,h2⟩:=yn hl
   simp only[iy]at hs
   refine wp_region ?_
   have:=En hS l 0 st a g w ex st' Q h1 hs hR hQ
   rwa [h2,<- List.range_eq_range']at this
  | true=>
   simp only[ik]at hp
   have hreg:∃n l,pc = .jk n l:=by
    exact qi hp
   obtain⟨n,l,rfl⟩:=hreg
   simp only[iy]at hs
   exact wp_region_any hD.1 (hD.2 ops n l st st' ex a g w Q hp hs hR hQ)
 | .seq x y,pc,hp=>by
  simp only[ik]at hp
  split at hp
  ·rename_i px py hx hy
   simp only[fe]at hp;subst hp
   intro st st' ex a g w Q hs hR hQ
   simp only[iy]at hs
   cases h1:iy call md lp px st with
   | none=>rw[h1]at hs;simp at hs
   | some r=>
    obtain⟨ex1,st1⟩:=r
    rw[h1]at hs
    refine wp_seq (vy hS hD hL x px hx st st1 ex1 a g w _ h1 hR λg' a' w' e hE hR' hx' => ?_)
    cases ex1 with
    | normal=>
     cases e<;>first|exact hx'.elim|skip
     exact vy hS hD hL y py hy st1 st' ex a' g' w' Q hs hR' (hQ.from hE)
    | exit i=>simp only[fe,ff]at hs;obtain⟨rfl,rfl⟩:=hs;cases e<;>first|exact hx'.elim|exact hQ g' a' w' _ hE hR' hx'
    | ret=>simp only[fe,ff]at hs;obtain⟨rfl,rfl⟩:=hs;cases e<;>first|exact hx'.elim|exact hQ g' a' w' _ hE hR' hx'
    | pan v=>simp only[fe,ff]at hs;obtain⟨rfl,rfl⟩:=hs;cases e<;>first|exact hx'.elim|exact hQ g' a' w' _ hE hR' hx'
  ·simp at hp
 | .cond c x y,pc,hp=>by
  simp only[ik]at hp
  split at hp
  ·rename_i pcnd px py hc hx hy
   simp only[fe]at hp;subst hp
   intro st st' ex a g w Q hs hR hQ
   simp only[iy]at hs
   split at hs
   ·rename_i h1
    exact wp_cond_true (fx hc h1 hR.tm).qc (vy hS hD hL x px hx st st' ex a g w Q hs hR hQ)
   ·rename_i h1
    exact wp_cond_false (fx hc h1 hR.tm).qc (vy hS hD hL y py hy st st' ex a g w Q hs hR hQ)
   ·simp at hs
  ·simp at hp
 | .block id b,pc,hp=>by
  simp only[ik]at hp
  obtain⟨pb,hb,rfl⟩:=fp hp
  intro st st' ex a g w Q hs hR hQ
  simp only[iy]at hs
  cases h1:iy call md lp pb st with
  | none=>rw[h1]at hs;simp at hs
  | some r=>
   obtain⟨ex1,st1⟩:=r
   rw[h1]at hs
   refine wp_block (vy hS hD hL b pb hb st st1 ex1 a g w _ h1 hR λg' a' w' e hE hR' hx' => ?_)
   cases ex1 with
   | exit i=>
    cases e<;>first|exact hx'.elim|skip
    rename_i j
    have hij:i=j:=hx'
    subst hij
    simp only at hs
    simp only[Exit.inBlock]
    split at hs
    ·rename_i hi
     simp only[fe,ff]at hs;obtain⟨rfl,rfl⟩:=hs
     rw[if_pos hi]
     exact hQ g' a' w' .normal hE hR' trivial
    ·rename_i hi
     simp only[fe,ff]at hs;obtain⟨rfl,rfl⟩:=hs
     rw[if_neg hi]
     exact hQ g' a' w' _ hE hR' rfl
   | normal=>simp only[fe,ff]at hs;obtain⟨rfl,rfl⟩:=hs;cases e<;>first|exact hx'.elim|exact hQ g' a' w' _ hE hR' hx'
   | ret=>simp only[fe,ff]at hs;obtain⟨rfl,rfl⟩:=hs;cases e<;>first|exact hx'.elim|exact hQ g' a' w' _ hE hR' hx'
   | pan v=>simp only[fe,ff]at hs;obtain⟨rfl,rfl⟩:=hs;cases e<;>first|exact hx'.elim|exact hQ g' a' w' _ hE hR' hx'
 | .loop b,pc,hp=>by
  simp only[ik]at hp
  obtain⟨pb,hb,rfl⟩:=fp hp
  intro st st' ex a g w Q hs hR hQ
  simp only[iy]at hs
  exact hL b pb hb st st' ex a g w Q hs hR hQ
 | .exit id,pc,hp=>by
  simp only[ik,fe]at hp;subst hp
  intro st st' ex a g w Q hs hR hQ
  simp only[iy,fe,ff]at hs
  obtain⟨rfl,rfl⟩:=hs
  exact wp_exit (hQ g a w (.exit id) (.refl _ _ _) hR rfl)
 | .ret,pc,hp=>by
  simp only[ik,fe]at hp;subst hp
  intro st st' ex a g w Q hs hR hQ
  simp only[iy,fe,ff]at hs
  obtain⟨rfl,rfl⟩:=hs
  exact wp_ret (hQ g a w .ret (.refl _ _ _) hR trivial)
 | .rangeFunc ..,pc,hp=>by simp[ik]at hp
 | .scope _,pc,hp=>by simp[ik]at hp
 | .label _,pc,hp=>by simp[ik]at hp
 | .goto _,pc,hp=>by simp[ik]at hp
 | .refuse _,pc,hp=>by simp[ik]at hp
theorem Ch (hS:Sound P call) (hD:mo P bsf call md):∀(F:Nat),(∀c b,ik P bsf c=some b -> ∀(st st':St) (ex:gg) (a:Act) (g:Gh) (w:World) (Q:Exit->Act->World->Prop),ko call md F b st=some (ex,st')->jv g w st a->QOK g st.s w ex st' Q->Code.rounds P c Q F a w)
 | 0=>by intro c b _ st st' ex a g w Q hs;simp[ko]at hs
 | F+1=>by
  have ih:=Ch hS hD F
  intro c b hb st st' ex a g w Q hs hR hQ
  simp only[ko]at hs
  rw[rounds_succ]
  have hL:∀c b,ik P bsf c=some b->yo P bsf (ko call md F) (.loop c) b:=λc b hb st st' ex a g w Q hs hR hQ=>wp_loop_rounds F (ih c b hb st st' ex a g w Q hs hR hQ)
  cases h1:iy call md (ko call md F) b st with
  | none=>rw[h1]at hs;simp at hs
  | some r=>
   obtain⟨ex1,st1⟩:=r
   rw[h1]at hs
   refine vy hS hD hL c b hb st st1 ex1 a g w _ h1 hR λg' a' w' e hE hR' hx' => ?_
   cases ex1 with
   | normal=>
    cases e<;>first|exact hx'.elim|skip
    exact ih c b hb st1 st' ex a' g' w' Q hs hR' (hQ.from hE)
   | exit i=>simp only[fe,ff]at hs;obtain⟨rfl,rfl⟩:=hs;cases e<;>first|exact hx'.elim|exact hQ g' a' w' _ hE hR' hx'
   | ret=>simp only[fe,ff]at hs;obtain⟨rfl,rfl⟩:=hs;cases e<;>first|exact hx'.elim|exact hQ g' a' w' _ hE hR' hx'
   | pan v=>simp only[fe,ff]at hs;obtain⟨rfl,rfl⟩:=hs;cases e<;>first|exact hx'.elim|exact hQ g' a' w' _ hE hR' hx'
theorem Lt (hS:Sound P call) (hD:mo P bsf call md) (F:Nat) {c:Code} {pc:PC} (hp:ik P bsf c=some pc):yo P bsf (exec call md F) c pc:=
 vy hS hD (λc b hb st st' ex a g w Q hs hR hQ=>wp_loop_rounds F (Ch hS hD F c b hb st st' ex a g w Q hs hR hQ)) c pc hp
end
end Go.Proofs.Eng
namespace Go.Proofs.Eng
open Go.RowKit
variable [DrK]
section
variable {P:Program} {call:ia} {md:FuncId->Md} {bsf:Bf} {F:Fence} {n:Nat}
def wd (X:List Deferred) (a:Act):Act:={a with defers:=a.defers++X}
theorem A1 (X:List Deferred) (a:Act) (d:Option Nat) (v:Value):wd X (a.put d v)=(wd X a).put d v:=by
 cases d<;>rfl
theorem N7 (X:List Deferred) (a:Act):(wd X a).eval=a.eval:=rfl
structure Am (F:Fence):Prop where
 fn:∀f,F.fn f
 depth:F.depth=none
 fen:∀P m,Machine.fenced P F m
theorem Pw:Am Fence.wide:=⟨λ_=>trivial,rfl,λP m=>fenced_wide P m⟩
theorem wide_round (l:Nat):Am (Fence.wide.inRound l):=⟨λ_=>trivial,rfl,λP m=>by rw[fenced_inRound];exact fenced_wide P m⟩
theorem Am.steps (h:Am F) {m m':Machine}:StepsIn (Machine.fenced P F) P m m' ↔ Steps P m m':=
 ⟨λk=>k.steps,λk=>by
  have h1:=(stepsIn_wide (P:=P) (m:=m) (m':=m')).2 k
  exact h1.mono λm _=>h.fen P m⟩
theorem Am.calls (h:Am F) {f:FuncId} {args:Array Value} {w:World} {R:Ending->World->Prop} (hc:Calls P f args w R):CallsIn F n P f args w R:=by
 obtain⟨h1,h2⟩:=(callsIn_wide (n:=n)).2 hc
 refine⟨h.fn f,λcs _ => ?_⟩
 obtain⟨e,w',fr,a1,a2,a3,a4⟩:=h2 cs (room_wide _)
 refine⟨e,w',fr,a1, ?_,a3,a4⟩
 have hf:∀m,Machine.fenced P F m ↔ Machine.fenced P Fence.wide m:=λm=>⟨λ_=>fenced_wide P m,λ_=>h.fen P m⟩
 have:Machine.fenced P F=Machine.fenced P Fence.wide:=funext λm=>propext (hf m)
 rw[this];exact a2
theorem Am.rows (h:Am F) {row:String} {args:Array Value} {w:World} {R:Value->World->Prop} (hc:Rows P row args w R):RowsIn F n P row args w R:=by
 intro c cs _
 obtain⟨v,w',a1,a2⟩:=hc c cs
 exact⟨v,w',a1,h.steps.2 a2⟩
theorem a1l (hW:Am F) {o:Oper} {a:Act} {w:World} {X:List Deferred} {K:Act->World->Prop} {Q:Exit->Act->World->Prop} (hd:∀c,o.op ≠ .defer c) (h:o.wp P a w (λa w=>K (wd X a) w) (λe a w=>Q e (wd X a) w)):o.wpIn F n P (wd X a) w K Q:=by
 unfold Oper.wp at h
 unfold Oper.wpIn
 refine⟨λf _=>hW.fn f, ?_⟩
 rw[Oper.semAt_eq _ _ _ hd,N7]
 generalize hr:(execOp a.eval o).run P w=r at h
 cases r with
 | ok x w'=>
  cases x with
  | value v=>simp only[Oper.upon,Oper.uponIn]at h ⊢;rw[<- A1];exact h
  | skip=>simp only[Oper.upon,Oper.uponIn]at h ⊢;rw[<- A1];exact h
  | enter f args=>
   simp only[Oper.upon,Oper.uponIn]at h ⊢
   refine⟨λhx=>(by rw[hW.depth]at hx;cases hx),hW.calls (h.mono λe w'' he => ?_)⟩
   cases e with
   | returned v=>simp only at he ⊢;rw[<- A1];exact he
   | panicked c=>exact he
   | outgrown=>obtain⟨a0,w0,h0⟩:=he;exact⟨_,_,h0⟩
  | row row args=>
   simp only[Oper.upon,Oper.uponIn]at h ⊢
   exact⟨λhx=>(by rw[hW.depth]at hx;cases hx),hW.rows (h.mono λv w'' he=>by rw[<- A1];exact he)⟩
  | «defer» d=>
   simp only[Oper.upon,Oper.uponIn]at h ⊢
   rw[A1]at h
   exact h
  | _=>simp only[Oper.upon]at h
 | halt x w'=>cases x<;>simp only[Oper.upon,Oper.uponIn]at h ⊢ <;> exact h
theorem H9 (hW:Am F) {ops:Array Oper} {X:List Deferred} {Q:Exit->Act->World->Prop} (hd:∀(i:Nat) (o:Oper),ops[i]? = some o -> ∀c,o.op ≠ .defer c) (hLO:∀a w,¬Q .outgrown a w):∀(fuel:Nat) (listed:Array Bool) (a:Act) (w:World),
  wpAny P .any ops (λe a w=>Q e (wd X a) w) fuel listed a w->wpAnyIn F n P .any ops Q fuel listed (wd X a) w
 | 0,listed,a,w,h=>h
 | fuel+1,listed,a,w,h=>by
  refine⟨h.1,λi hi => ?_⟩
  have h2:=h.2 i hi
  unfold wpOp at h2
  unfold wpOpIn
  cases ho:ops[i]? with
  | none=>
   rw[ho]at h2
   exact H9 hW hd hLO fuel _ a w h2
  | some o=>
   rw[ho]at h2
   dsimp only at h2 ⊢
   by_cases hwt:Region.wanted o (yielded ops a.tmps)=true
   ·rw[if_pos hwt]at h2;rw[if_pos (show Region.wanted o (yielded ops (wd X a).tmps)=true from hwt)]
    rcases h2 with h2|⟨_,a0,w0,h0⟩
    ·exact a1l hW (hd i o ho) (Oper.wp_mono (λa w h=>H9 hW hd hLO fuel _ a w h) h2)
    ·exact absurd h0 (hLO _ _)
   ·rw[if_neg hwt]at h2;rw[if_neg (show ¬Region.wanted o (yielded ops (wd X a).tmps)=true from hwt)]
    refine⟨λf _=>hW.fn f, ?_⟩
    rw[<- A1]
    exact H9 hW hd hLO fuel _ _ w h2
theorem Hh (hW:Am F) {ops:Array Oper} {X:List Deferred} {Q:Exit->Act->World->Prop} (hd:∀(i:Nat) (o:Oper),ops[i]? = some o -> ∀c,o.op ≠ .defer c) (hLO:∀a w,¬Q .outgrown a w):∀(l:List Nat) (a:Act) (w:World),
  wpOps P ops (λe a w=>Q e (wd X a) w) l a w->wpOpsIn F n P ops Q l (wd X a) w
 | [],a,w,h=>h
 | i::l,a,w,h=>by
  rw[wpOps_cons]at h
  rw[wpOpsIn_cons]
  unfold wpOp at h
  unfold wpOpIn
  cases ho:ops[i]? with
  | none=>
   rw[ho]at h
   exact Hh hW hd hLO l a w h
  | some o=>
   rw[ho]at h
   dsimp only at h ⊢
   by_cases hwt:Region.wanted o (yielded ops a.tmps)=true
   ·rw[if_pos hwt]at h;rw[if_pos (show Region.wanted o (yielded ops (wd X a).tmps)=true from hwt)]
    rcases h with h|⟨_,a0,w0,h0⟩
    ·exact a1l hW (hd i o ho) (Oper.wp_mono (λa w h=>Hh hW hd hLO l a w h) h)
    ·exact absurd h0 (hLO _ _)
   ·rw[if_neg hwt]at h;rw[if_neg (show ¬Region.wanted o (yielded ops (wd X a).tmps)=true from hwt)]
    refine⟨λf _=>hW.fn f, ?_⟩
    rw[<- A1]
    exact Hh hW hd hLO l _ w h
theorem Fy {id:Nat} {ops:Array Oper} {d:Bool} (h:pg (.region id ops d)=true):∀(i:Nat) (o:Oper),ops[i]? = some o -> ∀c,o.op ≠ .defer c:=by
 intro i o ho c hc
 simp only[pg,Array.all_eq_true]at h
 obtain⟨hi,e⟩:=Array.getElem?_eq_some_iff.1 ho
 have:=h i hi
 rw[e,hc]at this
 cases this
def QX (X:List Deferred) (g:Gh) (s:ASt) (w:World) (ex:gg) (st':St) (Q:Exit->Act->World->Prop):Prop:=QOK g s w ex st' λe a w=>Q e (wd X a) w
def Oc (F:Fence) (n:Nat) (P:Program) (lp:PC->St->Option (gg × St)) (c:Code) (pc:PC):Prop:=
 ∀(X:List Deferred) (st st':St) (ex:gg) (a:Act) (g:Gh) (w:World) (Q:Exit->Act->World->Prop),(∀a w,¬Q .outgrown a w)->lp pc st=some (ex,st')->jv g w st a->QX X g st.s w ex st' Q->c.wpIn F n P Q (wd X a) w
theorem vx (hS:Sound P call) (hD:mo P bsf call md) (hW:Am F) {lp:PC->St->Option (gg × St)} (hL:∀c b,pg c=true->ik P bsf c=some b->Oc F n P lp (.loop c) b) :
  ∀(c:Code) (pc:PC),pg c=true->ik P bsf c=some pc->Oc F n P (iy call md lp) c pc
 | .skip,pc,_,hp=>by
  simp only[ik,fe]at hp;subst hp
  intro X st st' ex a g w Q hLO hs hR hQ
  simp only[iy,fe,ff]at hs
  obtain⟨rfl,rfl⟩:=hs
  exact wpIn_skip (hQ g a w .normal (.refl _ _ _) hR trivial)
 | .region id ops d,pc,hnd,hp=>by
  intro X st st' ex a g w Q hLO hs hR hQ
  cases d with
  | false=>
   simp only[ik]at hp
   obtain⟨l,hl,rfl⟩:=fp hp
   obtain⟨h1,h2⟩:=yn hl
   simp only[iy]at hs
   refine wpIn_region ?_
   have:=En hS l 0 st a g w ex st' _ h1 hs hR hQ
   rw[h2,<- List.range_eq_range']at this
   exact Hh hW (Fy hnd) hLO _ _ _ this
  | true=>
   simp only[ik]at hp
   have hreg:∃n l,pc = .jk n l:=by
    exact qi hp
   obtain⟨n',l,rfl⟩:=hreg
   simp only[iy]at hs
   exact wpIn_region_any hD.1 (H9 hW (Fy hnd) hLO _ _ _ _ (hD.2 ops n' l st st' ex a g w _ hp hs hR hQ))
 | .seq x y,pc,hnd,hp=>by
  simp only[pg,dy]at hnd
  simp only[ik]at hp
  split at hp
  ·rename_i px py hx hy
   simp only[fe]at hp;subst hp
   intro X st st' ex a g w Q hLO hs hR hQ
   simp only[iy]at hs
   cases h1:iy call md lp px st with
   | none=>rw[h1]at hs;simp at hs
   | some r=>
    obtain⟨ex1,st1⟩:=r
    rw[h1]at hs
    refine wpIn_seq (vx hS hD hW hL x px hnd.1 hx X st st1 ex1 a g w _ (λa w h=>hLO a w h) h1 hR λg' a' w' e hE hR' hx' => ?_)
    cases ex1 with
    | normal=>
     cases e<;>first|exact hx'.elim|skip
     exact vx hS hD hW hL y py hnd.2 hy X st1 st' ex a' g' w' Q hLO hs hR' (hQ.from hE)
    | exit i=>simp only[fe,ff]at hs;obtain⟨rfl,rfl⟩:=hs;cases e<;>first|exact hx'.elim|exact hQ g' a' w' _ hE hR' hx'
    | ret=>simp only[fe,ff]at hs;obtain⟨rfl,rfl⟩:=hs;cases e<;>first|exact hx'.elim|exact hQ g' a' w' _ hE hR' hx'
    | pan v=>simp only[fe,ff]at hs;obtain⟨rfl,rfl⟩:=hs;cases e<;>first|exact hx'.elim|exact hQ g' a' w' _ hE hR' hx'
  ·simp at hp
 | .cond c x y,pc,hnd,hp=>by
  simp only[pg,dy]at hnd
  simp only[ik]at hp
  split at hp
  ·rename_i pcnd px py hc hx hy
   simp only[fe]at hp;subst hp
   intro X st st' ex a g w Q hLO hs hR hQ
   simp only[iy]at hs
   split at hs
   ·rename_i h1
    exact wpIn_cond_true (fx hc h1 hR.tm).qc (vx hS hD hW hL x px hnd.1 hx X st st' ex a g w Q hLO hs hR hQ)
   ·rename_i h1
    exact wpIn_cond_false (fx hc h1 hR.tm).qc (vx hS hD hW hL y py hnd.2 hy X st st' ex a g w Q hLO hs hR hQ)
   ·simp at hs
  ·simp at hp
 | .block id b,pc,hnd,hp=>by
  simp only[pg]at hnd
  simp only[ik]at hp
  obtain⟨pb,hb,rfl⟩:=fp hp
  intro X st st' ex a g w Q hLO hs hR hQ
  simp only[iy]at hs
  cases h1:iy call md lp pb st with
  | none=>rw[h1]at hs;simp at hs
  | some r=>
   obtain⟨ex1,st1⟩:=r
   rw[h1]at hs
   refine wpIn_block (vx hS hD hW hL b pb hnd hb X st st1 ex1 a g w _ (λa w h=>hLO a w h) h1 hR λg' a' w' e hE hR' hx' => ?_)
   cases ex1 with
   | exit i=>
    cases e<;>first|exact hx'.elim|skip
    rename_i j
    have hij:i=j:=hx'
    subst hij
    simp only at hs
    simp only[Exit.inBlock]
    split at hs
    ·rename_i hi
     simp only[fe,ff]at hs;obtain⟨rfl,rfl⟩:=hs
     rw[if_pos hi]
     exact hQ g' a' w' .normal hE hR' trivial
    ·rename_i hi
     simp only[fe,ff]at hs;obtain⟨rfl,rfl⟩:=hs
     rw[if_neg hi]
     exact hQ g' a' w' _ hE hR' rfl
   | normal=>simp only[fe,ff]at hs;obtain⟨rfl,rfl⟩:=hs;cases e<;>first|exact hx'.elim|exact hQ g' a' w' _ hE hR' hx'
   | ret=>simp only[fe,ff]at hs;obtain⟨rfl,rfl⟩:=hs;cases e<;>first|exact hx'.elim|exact hQ g' a' w' _ hE hR' hx'
   | pan v=>simp only[fe,ff]at hs;obtain⟨rfl,rfl⟩:=hs;cases e<;>first|exact hx'.elim|exact hQ g' a' w' _ hE hR' hx'
 | .loop b,pc,hnd,hp=>by
  simp only[pg]at hnd
  simp only[ik]at hp
  obtain⟨pb,hb,rfl⟩:=fp hp
  intro X st st' ex a g w Q hLO hs hR hQ
  simp only[iy]at hs
  exact hL b pb hnd hb X st st' ex a g w Q hLO hs hR hQ
 | .exit id,pc,_,hp=>by
  simp only[ik,fe]at hp;subst hp
  intro X st st' ex a g w Q hLO hs hR hQ
  simp only[iy,fe,ff]at hs
  obtain⟨rfl,rfl⟩:=hs
  exact wpIn_exit (hQ g a w (.exit id) (.refl _ _ _) hR rfl)
 | .ret,pc,_,hp=>by
  simp only[ik,fe]at hp;subst hp
  intro X st st' ex a g w Q hLO hs hR hQ
  simp only[iy,fe,ff]at hs
  obtain⟨rfl,rfl⟩:=hs
  exact wpIn_ret (hQ g a w .ret (.refl _ _ _) hR trivial)
 | .rangeFunc ..,pc,hnd,hp=>by simp[ik]at hp
 | .scope _,pc,hnd,hp=>by simp[ik]at hp
 | .label _,pc,hnd,hp=>by simp[ik]at hp
 | .goto _,pc,hnd,hp=>by simp[ik]at hp
 | .refuse _,pc,hnd,hp=>by simp[ik]at hp
theorem O0 (hS:Sound P call) (hD:mo P bsf call md) (hW:Am F):∀(N:Nat),(∀c b,pg c=true->ik P bsf c=some b -> ∀(X:List Deferred) (st st':St) (ex:gg) (a:Act) (g:Gh) (w:World) (Q:Exit->Act->World->Prop),(∀a w,¬Q .outgrown a w)->ko call md N b st=some (ex,st')->jv g w st a->QX X g st.s w ex st' Q->Code.roundsIn F n P c Q N (wd X a) w)
 | 0=>by intro c b _ _ X st st' ex a g w Q _ hs;simp[ko]at hs
 | N+1=>by
  have ih:=O0 hS hD hW N
  intro c b hnd hb X st st' ex a g w Q hLO hs hR hQ
  simp only[ko]at hs
  rw[roundsIn_succ]
  have hL:∀c b,pg c=true->ik P bsf c=some b->Oc F n P (ko call md N) (.loop c) b:=λc b hnd hb X st st' ex a g w Q hLO hs hR hQ=>wpIn_loop_rounds N (ih c b hnd hb X st st' ex a g w Q hLO hs hR hQ)
  cases h1:iy call md (ko call md N) b st with
  | none=>rw[h1]at hs;simp at hs
  | some r=>
   obtain⟨ex1,st1⟩:=r
   rw[h1]at hs
   refine vx hS hD hW hL c b hnd hb X st st1 ex1 a g w _ (λa w h=>hLO a w h) h1 hR λg' a' w' e hE hR' hx' => ?_
   cases ex1 with
   | normal=>
    cases e<;>first|exact hx'.elim|skip
    exact ih c b hnd hb X st1 st' ex a' g' w' Q hLO hs hR' (hQ.from hE)
   | exit i=>simp only[fe,ff]at hs;obtain⟨rfl,rfl⟩:=hs;cases e<;>first|exact hx'.elim|exact hQ g' a' w' _ hE hR' hx'
   | ret=>simp only[fe,ff]at hs;obtain⟨rfl,rfl⟩:=hs;cases e<;>first|exact hx'.elim|exact hQ g' a' w' _ hE hR' hx'
   | pan v=>simp only[fe,ff]at hs;obtain⟨rfl,rfl⟩:=hs;cases e<;>first|exact hx'.elim|exact hQ g' a' w' _ hE hR' hx'
theorem Il (hS:Sound P call) (hD:mo P bsf call md) (hW:Am F) (N:Nat) {c:Code} {pc:PC} (hnd:pg c=true) (hp:ik P bsf c=some pc):Oc F n P (exec call md N) c pc:=
 vx hS hD hW (λc b hnd hb X st st' ex a g w Q hLO hs hR hQ=>wpIn_loop_rounds N (O0 hS hD hW N c b hnd hb X st st' ex a g w Q hLO hs hR hQ)) c pc hnd hp
end
end Go.Proofs.Eng
namespace Go.Proofs.Eng
open Go.RowKit
variable [DrK]
section
variable {P:Program} {call:ia} {md:FuncId->Md} {bsf:Bf} {g:Gh} {s:ASt} {w:World}
def Iw:Obj->Bool
 | .cells .. => false
 | _=>true
theorem Ip {l b o:Nat} {ob ob':Obj} {c:Value} (h1:w.heap[l]? = some ob) (h2:Iw ob=true) (h:w.cell? ⟨b,o,none⟩=some c):(w.putObj l ob').cell? ⟨b,o,none⟩=some c:=by
 by_cases e:b=l
 ·subst e
  exfalso
  unfold World.cell? at h
  rw[h1]at h
  cases ob<;>first|(cases h2;done)|(simp at h;done)
 ·rw[<- h];exact World.cell?_of_block (World.putObj_heap_other e)
theorem J2 {l b n:Nat} {ob ob':Obj} (h1:w.heap[l]? = some ob) (h2:Iw ob=true) (h:∃(c:Array Value) (el:TypeId) (fz:Nat × Nat),w.heap[b]? = some (.cells c el fz)/\n=c.size):∃(c:Array Value) (el:TypeId) (fz:Nat × Nat),(w.putObj l ob').heap[b]? = some (.cells c el fz)/\n=c.size:=by
 obtain⟨c,el,fz,e1,e2⟩:=h
 have hne:b ≠ l:=by rintro rfl;rw[h1]at e1;cases e1;cases h2
 exact⟨c,el,fz,by rw[World.putObj_heap_other hne];exact e1,e2⟩
theorem Rep.mz {l:Nat} {ob ob':Obj} (h1:w.heap[l]? = some ob) (h2:Iw ob=true) {a:AV} {v:Value} (h:Rep g s w a v):Rep g s (w.putObj l ob') a v:=by
 induction h with
 | unk v=>exact .unk v
 | v h=>exact .v h
 | ptr h=>exact .ptr h
 | ip cs hn hr hc ih=>exact .ip cs hn ih λk c hk=>⟨Ip h1 h2 (hc k c hk).1,(hc k c hk).2⟩
 | sl cs hn hr hc ha hln kh ht ih=>exact .sl cs hn ih (λk c hk=>⟨Ip h1 h2 (hc k c hk).1,(hc k c hk).2⟩) ha hln kh ht
 | bs h kh hz=>exact .bs h kh (J2 h1 h2 hz)
 | cp h hz hp=>exact .cp h (J2 h1 h2 hz) hp
 | mp h=>exact .mp h
 | fn cs hn hr ih=>exact .fn cs hn ih
 | bm cs hn hr ih=>exact .bm cs hn ih
 | agg cs hn hr ih=>exact .agg cs hn ih
 | tup cs hn hr ih=>exact .tup cs hn ih
 | iface h ih=>exact .iface ih
theorem ga.mz {l:Nat} {ob ob':Obj} (h1:w.heap[l]? = some ob) (h2:Iw ob=true) {as:List AV} {vs:List Value} (h:ga g s w as vs):ga g s (w.putObj l ob') as vs:=⟨h.1,λk a c e1 e2=>(h.2 k a c e1 e2).mz h1 h2⟩
theorem Inv.mz {l:Nat} {ob ob':Obj} (hI:Inv g s w) (hl:¬g.has l) (hk:¬KB l) (h1:w.heap[l]? = some ob) (h2:Iw ob=true):Inv g s (w.putObj l ob') where
 lt i b h:=by rw[World.putObj_size];exact hI.lt i b h
 inj:=hI.inj
 obj i b o h ho:=by
  have hne:b ≠ l:=λe=>hl (.inl ⟨i,e ▸ h⟩)
  have:=hI.obj i b o h ho
  cases o with
  | cells fz c=>obtain⟨cs,el,⟨rest,e1⟩,e2⟩:=this;exact⟨cs,el,⟨rest,by rw[World.putObj_heap_other hne];exact e1⟩,e2.mz h1 h2⟩
  | map es=>obtain⟨ents,clk,e1,e2,e3⟩:=this;exact⟨ents,clk,by rw[World.putObj_heap_other hne];exact e1,e2.mz h1 h2,e3.mz h1 h2⟩
  | dead=>trivial
 rf id o h:=by
  obtain⟨a1,a2,c,el,a3,a4⟩:=hI.rf id o h
  exact⟨a1,a2,c,el,by rw[World.putObj_heap_other (λe=>hl (.inr ⟨id,o,h,e⟩))];exact a3,a4⟩
 og:=hI.og
 s8:=hI.s8
 u5 b o h:=by rw[World.putObj_size];exact hI.u5 b o h
 vg:=hI.vg
 u9:=hI.u9
 kn b hb:=by
  obtain⟨a1,a2,a3⟩:=hI.kn b hb
  exact⟨by rw[World.putObj_size];exact a1,a2,by rw[World.putObj_heap_other (λe=>hk (by rw[<- e];exact hb))];exact a3⟩
theorem Ext.mz {g0:Gh} {s0:ASt} {w0:World} {l:Nat} {ob':Obj} (h:Ext g0 s0 w0 g s w) (hl:w0.heap.size<=l):Ext g0 s0 w0 g s (w.putObj l ob') where
 mu:=h.mu
 T:=h.T
 size:=by rw[World.putObj_size];exact h.size
 sz b c el fz hb:=by
  obtain⟨c',fz',e1,e2⟩:=h.sz b c el fz hb
  exact⟨c',fz',by rw[World.putObj_heap_other (by have:=(Array.getElem?_eq_some_iff.1 hb).1;omega)];exact e1,e2⟩
 cell b o hb hm:=by rw[World.cell?_of_block (w:=w) (a:=⟨b,o,none⟩) (World.putObj_heap_other (show b ≠ l by omega))];exact h.cell b o hb hm
 wr:=h.wr
 obj b hb hm:=by rw[World.putObj_heap_other (by omega)];exact h.obj b hb hm
 fb:=h.fb
 os:=h.os
 tape:=h.tape
 output:=h.output
def a5q (P:Program) (gf:FuncId) (it:List AV->ASt->Nat->Option (Option (List AV))):Prop:=
 ∀(caps:List AV) (s0:ASt) (r0:Option (List AV)),it caps s0 0=some r0->Fits P gf /\
 ∀(n l K:Nat) (cs:List Value) (S:Nat->ASt) (X:Nat->List AV) (J:Nat->Gh->World->Prop) (Jx:World->Prop),
  (∀i,i<K->it caps (S i) i=some (some (X i))) ->
  (∀i g W,J i g W->i<=K/\Inv g (S i) W/\ga g (S i) W caps cs) ->
  (∀g W,J K g W->it caps (S K) K=some none) ->
  (∀i g W vs,i<K->J i g W->ga g (S i) W (X i) vs->YieldAt Fence.wide (n-1) P l vs.toArray W λe W'=>(e = .returned (.bool true) /\ ∃g',J (i+1) g' W')\/(e = .returned (.bool false)/\Jx W')) ->
  ∀g W,J 0 g W->CallsIn Fence.wide n P gf (#[.func (.yield l) #[] #[]]++cs.toArray) W λe W'=>(∃v,e = .returned v)/\((∃g',J K g' W')\/Jx W')
def Kt (P:Program) (bsf:Bf):Prop:=∀gf,a5q P gf (bsf.it gf)
theorem Io {it:ASt->Nat->Option (Option (List AV))} {rnd:List AV->ASt->Option (gg × St)}:∀{k i:Nat} {s:ASt} {ex:gg} {s':ASt},Fe it rnd k i s=some (ex,s') ->
    ∃(K:Nat) (S:Nat->ASt) (X:Nat->List AV),S 0=s/\(∀j,j<K->it (S j) (i+j)=some (some (X j))) /\
      ((ex = .normal/\S K=s'/\it (S K) (i+K)=some none /\ ∀j,j<K -> ∃st,rnd (X j) (S j)=some (.normal,st)/\st.df=[]/\st.s=S (j+1)) \/
       (∃K',K=K'+1/\(∀j,j<K' -> ∃st,rnd (X j) (S j)=some (.normal,st)/\st.df=[]/\st.s=S (j+1)) /\ ∃st,rnd (X K') (S K')=some (ex,st)/\st.df=[]/\st.s=s'/\((∃id,ex = .exit id)\/ex = .ret)))
  | 0,i,s,ex,s',h=>by simp[Fe]at h
  | k+1,i,s,ex,s',h=>by
    simp only[Fe]at h
    split at h
    · rename_i h0
      simp only[fe,ff]at h
      obtain⟨rfl,rfl⟩:=h
      exact⟨0,λ_=>s,λ_=>[],rfl,λj hj=>by omega,.inl ⟨rfl,rfl,h0,λj hj=>by omega⟩⟩
    · rename_i xs h0
      split at h
      · rename_i st hr
        split at h
        · rename_i hd
          obtain⟨K,S,X,s0,hit,hcase⟩:=Io h
          have hd':st.df=[]:=by simpa using hd
          have hall:∀{K1:Nat},(∀j,j<K1 -> ∃st,rnd (X j) (S j)=some (.normal,st)/\st.df=[]/\st.s=S (j+1)) -> ∀j,j<K1+1 -> ∃st',rnd (match j with|0=>xs|j+1=>X j) (match j with|0=>s|j+1=>S j)=some (.normal,st')/\st'.df=[]/\st'.s=S j:=by
            intro K1 hk j hj
            cases j with
            | zero=>exact⟨st,hr,hd',by rw[s0]⟩
            | succ j=>exact hk j (by omega)
          refine⟨K+1,λj=>match j with|0=>s|j+1=>S j,λj=>match j with|0=>xs|j+1=>X j,rfl,λj hj => ?_, ?_⟩
          · cases j with
            | zero=>exact h0
            | succ j=>have:=hit j (by omega);rw[show i+(j+1)=i+1+j by omega];exact this
          · rcases hcase with⟨e1,e2,e3,e4⟩|⟨K',rfl,e1,st2,e2,e3,e4,e5⟩
            · exact .inl ⟨e1,e2,by rw[show i+(K+1)=i+1+K by omega];exact e3,hall e4⟩
            · exact .inr ⟨K'+1,rfl,hall e1,st2,e2,e3,e4,e5⟩
        · simp at h
      · rename_i id st hr
        split at h
        · rename_i hd
          simp only[fe,ff]at h
          obtain⟨rfl,rfl⟩:=h
          refine⟨1,λ_=>s,λ_=>xs,rfl,λj hj => ?_,.inr ⟨0,rfl,λj hj=>by omega,st,hr,by simpa using hd,rfl,.inl ⟨id,rfl⟩⟩⟩
          obtain rfl:j=0:=by omega
          exact h0
        · simp at h
      · rename_i st hr
        split at h
        · rename_i hd
          simp only[fe,ff]at h
          obtain⟨rfl,rfl⟩:=h
          refine⟨1,λ_=>s,λ_=>xs,rfl,λj hj => ?_,.inr ⟨0,rfl,λj hj=>by omega,st,hr,by simpa using hd,rfl,.inr rfl⟩⟩
          obtain rfl:j=0:=by omega
          exact h0
        · simp at h
      · simp at h
    · simp at h
structure so (we:World) (g:Gh) (w:World) (X:List Deferred):Prop where
 ne:X.Pairwise (· ≠ ·)
 at_:∀d ∈ X,∃D,d = {target:=.collected D,args := #[]}/\we.heap.size<=D/\w.heap[D]? = some (.deferred (some [])) /\ ¬g.has D /\ ¬KB D
theorem so.mono {we:World} {X:List Deferred} {g':Gh} {s':ASt} {w':World} (h:so we g w X) (e:Ext g s w g' s' w'):so we g' w' X:=
 ⟨h.ne,λd hd=>by
  obtain⟨D,h1,h2,h3,h4,h5⟩:=h.at_ d hd
  obtain⟨k1,k2⟩:=e.obj D (Array.getElem?_eq_some_iff.1 h3).1 h4
  exact⟨D,h1,h2,by rw[k1];exact h3,k2,h5⟩⟩
def QQ (we:World) (g:Gh) (s:ASt) (w:World) (ex:gg) (st':St) (Q:Exit->Act->World->Prop):Prop:=
 ∀g' a' w' e X',Ext g s w g' st'.s w'->jv g' w' st' a'->so we g' w' X'->O5 g' st'.s w' ex e->Q e (wd X' a') w'
theorem G9:∀{ps:List Nat} {xs tm:List AV} {vs:List Value} {tmps:Array Value},xs.length=ps.length->ga g s w tm tmps.toList->ga g s w xs vs->ga g s w (Ey tm ps xs) ((ps.zip vs).foldl (λt (p,v)=>t.setIfInBounds p v) tmps).toList
 | [],[],tm,vs,tmps,_,ht,hx=>by
  have:vs=[]:=by have:=hx.1;simpa using this.symm
  subst this;exact ht
 | [],_::_,_,_,_,h,_,_=>by simp at h
 | _::_,[],_,_,_,h,_,_=>by simp at h
 | p::ps,x::xs,tm,vs,tmps,h,ht,hx=>by
  obtain⟨v,vs',rfl,h1,h2⟩:=hx.cons_inv
  rw[Ey,List.zip_cons_cons,dc]
  refine G9 (by simpa using h) ?_ h2
  simp only[Array.toList_setIfInBounds]
  exact ht.set p h1
theorem Wq (ps:Array Nat) (vs:List Value) (t:Array Value):(ps.zip vs.toArray).foldl (λt (p,v)=>t.setIfInBounds p v) t=(ps.toList.zip vs).foldl (λt (p,v)=>t.setIfInBounds p v) t:=by
 rw[<- Array.foldl_toList]
 simp
def Kf:gg->Option Code
 | .exit id=>some (.exit id)
 | .ret=>some .ret
 | _=>none
set_option maxHeartbeats 4000000 in
theorem a4j (hS:Sound P call) (hD:mo P bsf call md) (hA:Kt P bsf) {N n:Nat} {f:Operand} {ps:Array Nat} {ca cb:Code} {x:X} {pa pb:PC} (hna:pg ca=true) (hnb:pg cb=true) (hx:gh f=some x) (hpa:ik P bsf ca=some pa) (hpb:ik P bsf cb=some pb)
  {we:World} {X:List Deferred} {st st':St} {ex:gg} {a:Act} {Q:Exit->Act->World->Prop} (hs:exec call md N (.By bsf.it x ps.toList pa pb) st=some (ex,st')) (hR:jv g w st a) (hX:so we g w X) (hwe:we.heap.size<=w.heap.size) (hQ:QQ we g st.s w ex st' Q) :
  (Code.rangeFunc f ps ca cb).wpIn Fence.wide n P Q (wd X a) w:=by
 simp only[exec,iy]at hs
 split at hs
 case h_2=>simp at hs
 rename_i gf caps hfx
 split at hs
 case isFalse=>simp at hs
 rename_i hdf
 have hdf:st.df=[]:=by simpa using hdf
 obtain⟨⟨ex1,s1⟩,hrng,e⟩:=fp hs
 simp only[ff]at e
 obtain⟨rfl,rfl⟩:=e
 have had:a.defers=[]:=by have:=hR.df;rw[hdf]at this;exact this
 obtain⟨cs,hev,hcaps⟩:=(fx hx hfx hR.tm).I1
 obtain⟨K,S,Xs,hS0,hit,hcase⟩:=Io hrng
 simp only[dp]at hit
 have hit0:∃r0,bsf.it gf caps (S 0) 0=some r0:=by
  rcases hcase with⟨_,_,h3,_⟩|⟨K',hK,_⟩
  ·rcases Nat.eq_zero_or_pos K with h|h
   ·subst h;exact⟨_,h3⟩
   ·exact⟨_,hit 0 h⟩
  ·exact⟨_,hit 0 (by omega)⟩
 obtain⟨r0,hit0⟩:=hit0
 obtain⟨hfit,hcon⟩:=hA gf caps (S 0) r0 hit0
 refine wpIn_rangeFunc ?_
 intro fn hfn
 obtain⟨rec,hrec⟩:∃rec:LoopState->Option Code->Loop,rec = λsta pe=>{state:=sta,pending:=pe,fn,tmps:=a.tmps,params:=ps,assign:=ca,body:=cb,defers:=w.heap.size}:=⟨_,rfl⟩
 obtain⟨W1,hW1⟩:∃W1,(w.alloc (.deferred (some []))).alloc (.loop (rec .ready none))=W1:=⟨_,rfl⟩
 have hW1s:W1.heap.size=w.heap.size+2:=by rw[<- hW1];simp
 have hL1:W1.heap[w.heap.size+1]? = some (.loop (rec .ready none)):=by
  rw[<- hW1];have:=World.alloc_heap_new (w.alloc (.deferred (some []))) (.loop (rec .ready none));rwa [World.size_alloc]at this
 have hK1:W1.heap[w.heap.size]? = some (.deferred (some [])):=by
  rw[<- hW1];exact(Below.heap_alloc _ _ _ (by simp)).trans (World.alloc_heap_new w _)
 have hI1:Inv g st.s W1:=by rw[<- hW1];exact(hR.inv.alloc _).alloc _
 have hE1:Ext g st.s w g st.s W1:=by rw[<- hW1];exact(Ext.alloc g st.s w _).trans (Ext.alloc g st.s _ _)
 have hge:∀b,w.heap.size<=b -> ¬g.has b:=λb hb h=>by have:=hR.inv.yb h;omega
 have hkb:∀b,w.heap.size<=b -> ¬KB b:=λb hb h=>by have:=(hR.inv.kn b h).1;omega
 refine⟨w.heap.size+1,[{target:=.collected w.heap.size,args := #[]}],W1,{target:=.fn (.func gf) cs.toArray,args := #[.func (.yield (w.heap.size+1)) #[] #[]]},W1,gf,
  #[.func (.yield (w.heap.size+1)) #[] #[]]++cs.toArray,W1, ?_, ?_,λ_ _=>trivial, ?_,λh=>(by cases h), ?_⟩
 ·rw[<- hW1,hrec];exact run_enterLoop_outer _ _ _ _ _
 ·simp only[resolve,N7,hev]
  simp[go_sem]
 ·have:=hfit.callFunc (#[.func (.yield (w.heap.size+1)) #[] #[]]++cs.toArray) W1
  simpa[invoke,go_sem]using this
 let fin:Prop:=ex1 = .normal
 have hroundA:∀j,j<K -> ∃exj stj,(if (Xs j).length=ps.toList.length then match iy call md (ko call md N) pa ⟨Ey st.tm ps.toList (Xs j),[],S j⟩with|some (.normal,st1)=>if st1.df.isEmpty then iy call md (ko call md N) pb st1 else none|_=>none else none)=some (exj,stj)/\stj.df=[] /\
   ((exj = .normal/\stj.s=S (j+1)/\(j+1=K->fin))\/(¬fin/\j+1=K/\exj=ex1/\stj.s=s1/\((∃id,ex1 = .exit id)\/ex1 = .ret))):=by
  intro j hj
  rcases hcase with⟨e1,e2,e3,e4⟩|⟨K',rfl,e1,st2,e2,e3,e4,e5⟩
  ·obtain⟨stj,q1,q2,q3⟩:=e4 j hj
   exact⟨_,stj,q1,q2,.inl ⟨rfl,q3,λ_=>e1⟩⟩
  ·by_cases hjk:j=K'
   ·subst hjk
    exact⟨_,st2,e2,e3,.inr ⟨λh=>(by have h:ex1 = .normal:=h;subst h;rcases e5 with⟨id,h⟩|h<;>cases h),rfl,rfl,e4,e5⟩⟩
   ·obtain⟨stj,q1,q2,q3⟩:=e1 j (by omega)
    exact⟨_,stj,q1,q2,.inl ⟨rfl,q3,λh=>by omega⟩⟩
 refine(hcon (n-1) (w.heap.size+1) K cs S Xs
  (λi g' W=>i<=K/\(i=K->fin)/\Inv g' (S i) W/\Ext g st.s w g' (S i) W/\W.heap[w.heap.size+1]? = some (.loop (rec .ready none))/\W.heap[w.heap.size]? = some (.deferred (some [])) /\ ¬g'.has (w.heap.size+1) /\ ¬g'.has w.heap.size)
  (λW=>¬fin /\ ∃g' c,Kf ex1=some c/\Inv g' s1 W/\Ext g st.s w g' s1 W/\W.heap[w.heap.size+1]? = some (.loop (rec .done (some c)))/\W.heap[w.heap.size]? = some (.deferred (some [])) /\ ¬g'.has (w.heap.size+1) /\ ¬g'.has w.heap.size)
  hit (λi g' W h=>⟨h.1,h.2.2.1,hcaps.mono h.2.2.2.1⟩) ?_ ?_ g W1 ?_).mono ?_
 ·rintro g' W ⟨_,hf,_⟩
  have hf:=hf rfl
  rcases hcase with⟨_,_,e3,_⟩|⟨K',_,_,st2,_,_,_,e5⟩
  ·simpa using e3
  ·have hf:ex1 = .normal:=hf
   subst hf
   rcases e5 with⟨id,h⟩|h<;>cases h
 ·-- one round
  rintro i g' W vs hi ⟨hiK,_,hI,hE,hl,hD',hnl,hnD⟩ hvs
  obtain⟨exj,stj,hrun,hdfj,hend⟩:=hroundA i hi
  split at hrun
  case isFalse=>simp at hrun
  rename_i hlen
  split at hrun
  case h_2=>simp at hrun
  rename_i st1 hxa
  split at hrun
  case isFalse=>simp at hrun
  have hlenv:vs.length=ps.size:=by rw[<- hvs.1,hlen];simp
  have hy:=run_yield (P:=P) (args:=vs.toArray) hl (by rw[hrec];simpa using hlenv)
  rw[hrec]at hy
  refine⟨fn,_,ca,cb,hy,roundIn_of_wpIn hfn ?_⟩
  rw[Wq]
  have hRa:jv g' W ⟨Ey st.tm ps.toList (Xs i),[],S i⟩ {tmps:=(ps.toList.zip vs).foldl (λt (p,v)=>t.setIfInBounds p v) a.tmps,defers:=[]}:=⟨hI,G9 hlen (hR.tm.mono hE) hvs,rfl⟩
  refine Il hS hD (wide_round (w.heap.size+1)) N hna hpa [] _ st1 .normal _ g' W _ (λa w h=>h) hxa hRa λg1 a1 W2 e hE2 hR2 hx2 => ?_
  cases e<;>first|exact hx2.elim|skip
  have hlt:w.heap.size+1<W.heap.size:=(Array.getElem?_eq_some_iff.1 hl).1
  obtain⟨b1,b2⟩:=hE2.obj (w.heap.size+1) hlt hnl
  obtain⟨b3,b4⟩:=hE2.obj w.heap.size (by omega) hnD
  have hl2:W2.heap[w.heap.size+1]? = some (.loop (rec .ready none)):=b1.trans hl
  have hlt2:w.heap.size+1<W2.heap.size:=(Array.getElem?_eq_some_iff.1 hl2).1
  refine⟨_,run_beginRound hl2 (by rw[hrec]), ?_⟩
  have hl3:(W2.putObj (w.heap.size+1) (.loop {rec .ready none with state:=.busy})).heap[w.heap.size+1]? = some (.loop {rec .ready none with state:=.busy}):=World.putObj_heap_same hlt2
  have hD3:(W2.putObj (w.heap.size+1) (.loop {rec .ready none with state:=.busy})).heap[w.heap.size]? = some (.deferred (some [])):=(World.putObj_heap_other (by omega)).trans (b3.trans hD')
  have hI3:=hR2.inv.mz (ob':=.loop {rec .ready none with state:=.busy}) b2 (hkb _ (by omega)) hl2 rfl
  have hE3:Ext g st.s w g1 st1.s (W2.putObj (w.heap.size+1) (.loop {rec .ready none with state:=.busy})):=(hE.trans hE2).mz (by omega)
  have hdf1:st1.df=[]:=by rename_i h;simpa using h
  have had1:a1.defers=[]:=by have:=hR2.df;rw[hdf1]at this;exact this
  have hR3:jv g1 (W2.putObj (w.heap.size+1) (.loop {rec .ready none with state:=.busy})) st1 a1:=⟨hI3,hR2.tm.mz hl2 rfl,by rw[hdf1];exact had1⟩
  generalize W2.putObj (w.heap.size+1) (.loop {rec .ready none with state:=.busy})=W3 at hl3 hD3 hI3 hE3 hR3 ⊢
  refine Il hS hD (wide_round (w.heap.size+1)) N hnb hpb [] st1 stj exj a1 g1 W3 _ (λa w h=>h) hrun hR3 λg2 a2 W4 e hE4 hR4 hx4 => ?_
  have hlt3:w.heap.size+1<W3.heap.size:=(Array.getElem?_eq_some_iff.1 hl3).1
  obtain⟨d1,d2⟩:=hE4.obj (w.heap.size+1) hlt3 b2
  obtain⟨d3,d4⟩:=hE4.obj w.heap.size (by omega) b4
  have hl4:W4.heap[w.heap.size+1]? = some (.loop {rec .ready none with state:=.busy}):=d1.trans hl3
  have hlt4:w.heap.size+1<W4.heap.size:=(Array.getElem?_eq_some_iff.1 hl4).1
  have hD4:W4.heap[w.heap.size]? = some (.deferred (some [])):=d3.trans hD3
  have hI5:∀ob',Inv g2 stj.s (W4.putObj (w.heap.size+1) ob'):=λob'=>hR4.inv.mz d2 (hkb _ (by omega)) hl4 rfl
  have hE5:∀ob',Ext g st.s w g2 stj.s (W4.putObj (w.heap.size+1) ob'):=λob'=>(hE3.trans hE4).mz (by omega)
  have hl5:∀ob',(W4.putObj (w.heap.size+1) ob').heap[w.heap.size+1]? = some ob':=λob'=>World.putObj_heap_same hlt4
  have hD5:∀ob',(W4.putObj (w.heap.size+1) ob').heap[w.heap.size]? = some (.deferred (some [])):=λob'=>(World.putObj_heap_other (by omega)).trans hD4
  have hend':∀jump,(Instr.endRound (w.heap.size+1) jump).run P W4 = .ok (.bool jump.isNone) (W4.putObj (w.heap.size+1) (.loop (rec (if jump.isNone then .ready else .done) jump))):=λjump=>by
   have:=run_endRound (P:=P) jump hl4
   rw[hrec]at this ⊢
   exact this
  rcases hend with⟨rfl,hsj,hfin⟩|⟨hnf,hik,rfl,hsj,hlast⟩
  ·cases e<;>first|exact hx4.elim|skip
   refine⟨_,_,hend' none,.inl ⟨rfl,g2,by omega,hfin, ?_, ?_,hl5 _,hD5 _,d2,d4⟩⟩
   ·rw[<- hsj];exact hI5 _
   ·rw[<- hsj];exact hE5 _
  ·rcases hlast with⟨id,rfl⟩|rfl
   ·cases e<;>first|exact hx4.elim|skip
    rename_i id'
    have:id=id':=hx4
    subst this
    refine⟨_,_,hend' (some (.exit id)),.inr ⟨rfl,hnf,g2,_,rfl, ?_, ?_,hl5 _,hD5 _,d2,d4⟩⟩
    ·rw[<- hsj];exact hI5 _
    ·rw[<- hsj];exact hE5 _
   ·cases e<;>first|exact hx4.elim|skip
    refine⟨_,_,hend' (some .ret),.inr ⟨rfl,hnf,g2,_,rfl, ?_, ?_,hl5 _,hD5 _,d2,d4⟩⟩
    ·rw[<- hsj];exact hI5 _
    ·rw[<- hsj];exact hE5 _
 ·refine⟨dk _,λh => ?_,by rw[hS0];exact hI1,by rw[hS0];exact hE1,hL1,hK1,hge _ (by omega),hge _ (by omega)⟩
  rcases hcase with⟨e1,_⟩|⟨K',hK,_⟩
  ·exact e1
  ·omega
 ·-- behind the iterator
  rintro e W2 ⟨⟨v,rfl⟩,hor⟩
  have done:∀(g':Gh) (jump:Option Code) (sta:LoopState),sta ≠ .busy->Inv g' s1 W2->Ext g st.s w g' s1 W2->W2.heap[w.heap.size+1]? = some (.loop (rec sta jump))->W2.heap[w.heap.size]? = some (.deferred (some [])) -> ¬g'.has (w.heap.size+1) -> ¬g'.has w.heap.size ->
    (∀e,O5 g' s1 (W2.putObj (w.heap.size+1) (.loop {rec sta jump with state:=.exhausted})) ex1 e->Q e {wd X a with defers:={target:=.collected w.heap.size,args := #[]}::(wd X a).defers} (W2.putObj (w.heap.size+1) (.loop {rec sta jump with state:=.exhausted}))) /\
    (Instr.endLoop (w.heap.size+1)).run P W2 = .ok jump (W2.putObj (w.heap.size+1) (.loop {rec sta jump with state:=.exhausted})):=by
   intro g' jump sta hsta hI hE hl hD' hnl hnD
   constructor
   ·intro e he
    have hE6:Ext g st.s w g' s1 (W2.putObj (w.heap.size+1) (.loop {rec sta jump with state:=.exhausted})):=hE.mz (by omega)
    have hm:so we g' (W2.putObj (w.heap.size+1) (.loop {rec sta jump with state:=.exhausted})) ({target:=.collected w.heap.size,args := #[]}::X):=by
     have hXm:=hX.mono hE6
     refine⟨List.pairwise_cons.2 ⟨λd hd hde => ?_,hX.ne⟩,λd hd => ?_⟩
     ·obtain⟨D,h1,h2,h3,_⟩:=hX.at_ d hd
      rw[h1]at hde
      cases hde
      have:=(Array.getElem?_eq_some_iff.1 h3).1
      omega
     ·rcases List.mem_cons.1 hd with rfl|hd
      ·exact⟨w.heap.size,rfl,hwe,(World.putObj_heap_other (by omega)).trans hD',hnD,hkb _ (by omega)⟩
      ·exact hXm.at_ d hd
    have:=hQ g' a _ e _ hE6 ⟨hI.mz hnl (hkb _ (by omega)) hl rfl,hR.tm.mono hE6,by rw[hdf];exact had⟩ hm he
    simpa[wd,had]using this
   ·have:=run_endLoop (P:=P) hl (by rw[hrec];exact hsta)
    rw[hrec]at this ⊢
    exact this
  rcases hor with⟨g',_,hfin,hI,hE,hl,hD',hnl,hnD⟩|⟨hnf,g',c,hj,hI,hE,hl,hD',hnl,hnD⟩
  ·have hfin:ex1 = .normal:=hfin rfl
   subst hfin
   have hsK:S K=s1:=by
    rcases hcase with⟨_,e2,_⟩|⟨K',_,_,st2,_,_,_,h|h⟩
    ·exact e2
    ·obtain⟨id,h⟩:=h;cases h
    ·cases h
   rw[hsK]at hI hE
   obtain⟨q1,q2⟩:=done g' none .ready (by simp) hI hE hl hD' hnl hnD
   exact⟨none,_,q2,q1 .normal trivial⟩
  ·obtain⟨q1,q2⟩:=done g' (some c) .done (by simp) hI hE hl hD' hnl hnD
   refine⟨some c,_,q2, ?_⟩
   cases ex1 with
   | exit id=>
    simp only[Kf,fe]at hj
    subst hj
    exact wpIn_exit (q1 (.exit id) rfl)
   | ret=>
    simp only[Kf,fe]at hj
    subst hj
    exact wpIn_ret (q1 .ret trivial)
   | normal=>simp[Kf]at hj
   | pan v=>simp[Kf]at hj
end
end Go.Proofs.Eng
