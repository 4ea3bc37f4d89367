/- The reference: the outline of a code. No conditions beyond those in the theorems. -/
import Derived.Test.YtflfmkkcnphdcaaGreatK4
import Derived.Test.YtflfmkkcnphdcaaGreatG5
import Derived.Test.YtflfmkkcnphdcaaGreatG4
set_option linter.all false
set_option linter.deprecated false
set_option linter.unnecessarySimpa false
set_option linter.unusedVariables false
set_option linter.unusedSimpArgs false
set_option linter.defProp false
namespace Go.Proofs.Eng
open Go Go.Proofs
set_option maxRecDepth 100000
set_option maxHeartbeats 16000000
theorem Aw {S:List Int} {b:Nat} (h:b<S.length):(ints S)[b]? = some (.int (S.getD b 0)):=by
 have:=aa h
 rw[ints,bh,List.getD,this];rfl
theorem Ae {S:List Int} {b:Nat} {v:Int} (h:b<S.length):(ints S).take b ++ .v (.int .i64 v)::(ints S).drop (b+1)=ints (S.set b v):=by
 simp only[ints,List.map_set]
 rw[List.set_eq_take_append_cons_drop,if_pos (by simpa using h)]
section
variable {ki si q:Nat} {Bs:List AV} {t1 t2 t3:Tl} {c:Cd} {S:List Int} {H:List fq} {V:List Nat}
theorem K4 (h:KS ki si Bs t1 t2 t3 c S H) {n:Nat} {env st bi br:Int} (hq:H[q]? = some (.cells false [.int n,.int env,.int st,.int bi,.int br])) {b:Int} {m:Int} (h0:0<=b) (h1:b<c.bl.length) (hw:jn (env+m)) :
  Sh md pfs 168 [.ptr ki 0,.ptr q 0,.int b,.int m] ⟨H,V⟩ (λv s=>match s7 n S b (env+m)with | .error e=>v = .int e/\s=⟨H,V⟩ | .ok S'=>v = .int 0/\s=⟨H.set si (.cells false (ints S')),V⟩) λ_ _=>False:=by
 obtain⟨b,rfl⟩:∃k:Nat,b=k:=⟨b.toNat,by omega⟩
 have hk:=h.k
 have hs:=h.s
 have hlt:b<S.length:=by rw[h.sl];omega
 have hb:(List.drop b (ints S)).head? = some (.int (S.getD b 0)):=by rw[List.head?_drop];exact Aw hlt
 have hbs:(b:Int)<((ints S).length:Nat):=by rw[ig];omega
 have hset:=Ae (v:=env+m) hlt
 have hlb:(b:Int)<c.bl.length:=h1
 rw[s7]
 simp only[ew]
 cases d1:decide (S.getD b 0>=0)
 ·rw[if_neg (by simpa using d1)]
  cases d2:decide ((b:Int)<=(n:Nat))
  ·rw[if_neg (by simpa using d2)]
   refine j8 pf168_is (dh rfl) ?_
   simp only[pf168,↓fm,wall,simprocAttr,wH,hk,hs,hq,Nat.mul_one,hb,hbs,hlb,d1,d2,hset,gw hw]
   rw[ig];omega
  ·rw[if_pos (by simpa using d2)]
   refine j8 pf168_is (dh rfl) ?_
   simp only[pf168,↓fm,wall,simprocAttr,wH,hk,hs,hq,Nat.mul_one,hb,hbs,hlb,d1,d2]
 ·rw[if_pos (by simpa using d1)]
  refine j8 pf168_is (dh rfl) ?_
  simp only[pf168,↓fm,wall,simprocAttr,wH,hk,hs,hq,Nat.mul_one,hb,hbs,hlb,d1]
theorem KS.enter (h:KS ki si Bs t1 t2 t3 c S H) {S':List Int} (hl:S'.length=S.length):KS ki si Bs t1 t2 t3 c S' (H.set si (.cells false (ints S'))):=
 ⟨xe h.k h.ne.symm,by rw[b9,if_pos rfl,if_pos (fu h.s)],hl.trans h.sl,h.ne,h.bl,h.p1,h.gl⟩
theorem Ov (h:KS ki si Bs t1 t2 t3 c S H) {n:Nat} {env st bi br:Int} (hq:H[q]? = some (.cells false [.int n,.int env,.int st,.int bi,.int br])) (x:Ins) (h0:x.op=1\/x.op=6->0<=x.a/\x.a<c.bl.length) (hw1:jn (env+1)) (hw:x.op=6->jn (env+x.b)) :
  Sh md pfs 140 [.ptr ki 0,.ptr q 0,x.av] ⟨H,V⟩ (λv s=>match pd n x ⟨S,env,st,bi,br⟩with | .error e=>v = .int e /\ ∃G,s=⟨H++G,V⟩ | .ok S'=>v = .int 0/\S'.length=S.length /\ ∃G,s=⟨(H++G).set si (.cells false (ints S')),V⟩) λ_ _=>False:=by
 obtain⟨op,a,b,nm⟩:=x
 simp only at h0 hw
 have hA:=h.app [.cells false [.int op,.int a,.int b,.str nm]]
 have hqA:=jc hq [fq.cells false [.int op,.int a,.int b,.str nm]]
 have hop:op=1\/op=6\/op=0\/((op==1)=false/\(op==6)=false/\(op==0)=false):=by
  simp only[beq_eq_false_iff_ne];omega
 have hsS:(H++[fq.cells false [.int op,.int a,.int b,.str nm]]).set si (.cells false (ints S))=H++[fq.cells false [.int op,.int a,.int b,.str nm]]:=by
  apply List.ext_getElem?
  intro k
  by_cases hk:si=k
  ·subst hk;rw[b9,if_pos rfl,if_pos (fu hA.s)];exact hA.s.symm
  ·rw[b9,if_neg hk]
 have hent:∀{b' m S'},s7 n S b' m = .ok S'->S'.length=S.length:=λ{b' m S'} e=>by
  unfold s7 at e
  split at e
  ·cases e
  ·split at e
   ·cases e
   ·cases e;simp
 rw[pd]
 rcases hop with rfl|rfl|rfl|⟨o1,o6,o0⟩
 ·rw[if_pos rfl]
  obtain⟨v,s,hp,hc⟩:=(K4 (V:=V) hA hqA (h0 (.inl rfl)).1 (h0 (.inl rfl)).2 hw1).r8 rfl
  simp only
  refine j8 pf140_is (dh rfl) ?_
  cases he:s7 n S a (env+1)with
  | error e=>
   rw[he]at hp
   obtain⟨rfl,rfl⟩:=hp
   simp only[pf140,Ins.av,↓fm,wall,simprocAttr,wH,hc]
   exact⟨_,rfl⟩
  | ok S'=>
   rw[he]at hp
   obtain⟨rfl,rfl⟩:=hp
   simp only[pf140,Ins.av,↓fm,wall,simprocAttr,wH,hc]
   exact⟨hent he,_,rfl⟩
 ·rw[if_neg (by simp),if_pos rfl]
  obtain⟨v,s,hp,hc⟩:=(K4 (V:=V) hA hqA (h0 (.inr rfl)).1 (h0 (.inr rfl)).2 (hw rfl)).r8 rfl
  simp only
  refine j8 pf140_is (dh rfl) ?_
  cases he:s7 n S a (env+b)with
  | error e=>
   rw[he]at hp
   obtain⟨rfl,rfl⟩:=hp
   simp only[pf140,Ins.av,↓fm,wall,simprocAttr,wH,hc]
   exact⟨_,rfl⟩
  | ok S'=>
   rw[he]at hp
   obtain⟨rfl,rfl⟩:=hp
   simp only[pf140,Ins.av,↓fm,wall,simprocAttr,wH,hc]
   exact⟨hent he,_,rfl⟩
 ·rw[if_neg (by simp),if_neg (by simp)]
  cases d:decide (a>=env)
  ·rw[if_neg (by simpa using d)]
   refine j8 pf140_is (dh rfl) ?_
   simp only[pf140,Ins.av,↓fm,wall,simprocAttr,wH,hqA,d]
   exact⟨_,by rw[hsS]⟩
  ·rw[if_pos (by simpa using d)]
   refine j8 pf140_is (dh rfl) ?_
   simp only[pf140,Ins.av,↓fm,wall,simprocAttr,wH,hqA,d]
   exact⟨_,rfl⟩
 ·rw[if_neg (by simpa using o1),if_neg (by simpa using o6),if_neg (by rintro⟨h,_⟩;exact ne_of_beq_false o0 h)]
  refine j8 pf140_is (dh rfl) ?_
  simp only[pf140,Ins.av,↓fm,wall,simprocAttr,wH,o1,o6,o0]
  exact⟨_,by rw[hsS]⟩
theorem Mn {n:Nat} {env st bi br:Int} (hq:H[q]? = some (.cells false [.int n,.int env,.int st,.int bi,.int br])) (x:Ins) (rest:List Ins) (h0:0<=x.op) (h1:x.op<=14) (hb:0<=x.b) (hst:0<=st/\st<=B62) (hbi:0<=bi/\bi<=B62) (hen : -B62<=env/\env<=B62) (hbr:0<=br/\br<=B62) :
  Sh md pfs 141 [.ptr q 0,x.av,.bool rest.isEmpty] ⟨H,V⟩ (λv s=>match mb x rest S ⟨S,env,st,bi,br⟩with | .error e=>v = .int e /\ ∃H',s=⟨H',V⟩ | .ok t=>v = .int 0/\t.S=S /\ ∃G,s=⟨(H++G).set q (.cells false [.int n,.int t.env,.int t.stack,.int t.binds,.int t.br]),V⟩) λ_ _=>False:=by
 obtain⟨op,a,b,nm⟩:=x
 simp only at h0 h1 hb
 have hB:B62=4611686018427387904:=rfl
 have hqA:=jc hq [fq.cells false [.int op,.int a,.int b,.str nm]]
 obtain⟨_,rfl,ce⟩:=(Lp ⟨op,a,b,nm⟩ h0 h1).call rfl (by simp[gp,gz,oj,Ins.av,n6])
 simp only[Ins.av]at ce
 have hpp:0<=lk ⟨op,a,b,nm⟩/\0<=jq ⟨op,a,b,nm⟩/\jq ⟨op,a,b,nm⟩<=1:=by
  refine⟨?_, ?_, ?_⟩
  ·unfold lk;simp only;split
   ·omega
   ·split
    ·exact hb
    ·split<;>omega
  ·unfold jq;split<;>omega
  ·unfold jq;split<;>omega
 obtain⟨po,hpo⟩:∃po,po=lk ⟨op,a,b,nm⟩:=⟨_,rfl⟩
 obtain⟨pu,hpu⟩:∃pu,pu=jq ⟨op,a,b,nm⟩:=⟨_,rfl⟩
 rw[<- hpo,<- hpu]at ce hpp
 have hex:mb ⟨op,a,b,nm⟩ rest S ⟨S,env,st,bi,br⟩=if st<po\/op=10/\bi=0 then .error 27 else if (op==3) != rest.isEmpty then .error 3 else if op=3/\(st-po+pu ≠ 1\/jr ⟨op,a,b,nm⟩ bi ≠ 0)then .error 27 else .ok ⟨S,jr ⟨op,a,b,nm⟩ env,st-po+pu,jr ⟨op,a,b,nm⟩ bi,brI ⟨op,a,b,nm⟩ br⟩:=by rw[hpo,hpu];rfl
 rw[hex]
 clear hex
 have hqs:∀Y,((H++[fq.cells false [.int op,.int a,.int b,.str nm]]).set q Y)[q]? = some Y:=λY=>by rw[b9,if_pos rfl,if_pos (fu hqA)]
 have hlq:=fu hq
 have hxs:∀Y,((H++[fq.cells false [.int op,.int a,.int b,.str nm]]).set q Y)[H.length]? = some (fq.cells false [.int op,.int a,.int b,.str nm]):=λY=>by rw[b9,if_neg (by omega)];simp
 have SS:∀(Y Z:fq),((H++[fq.cells false [.int op,.int a,.int b,.str nm]]).set q Y).set q Z=(H++[fq.cells false [.int op,.int a,.int b,.str nm]]).set q Z:=λY Z=>List.set_set ..
 have hm:(if br-1>0 then br-1 else 0)=max 0 (br-1):=by split<;>omega
 have w1:IntKind.i64.wrap (br-1)=br-1:=gw (by unfold jn;omega)
 obtain⟨l,hl⟩:∃l,l=rest.isEmpty:=⟨_,rfl⟩
 rw[<- hl]
 refine j8 pf141_is (dh rfl) ?_
 cases d1:decide (st<po)
 case true=>
  rw[if_pos (.inl (by simpa using d1))]
  cases h5:(op==5)
  all_goals
   simp only[pf141,Ins.av,↓fm,wall,simprocAttr,wH,hqA,hqs,hxs,hm,w1,ce,d1,h5,SS,show ((false:Bool)==true)=false from rfl,show ((true:Bool)==false)=false from rfl,ed,ee]
   exact⟨_,rfl⟩
 have d1':¬st<po:=by simpa using d1
 have w2:IntKind.i64.wrap (pu-po)=pu-po:=gw (by unfold jn;omega)
 have w3:IntKind.i64.wrap (st+(pu-po))=st-po+pu:=by rw[gw (by unfold jn;omega)];omega
 have hop:op=5\/op=9\/op=10\/op=3\/((op==5)=false/\(op==9)=false/\(op==10)=false/\(op==3)=false):=by
  simp only[beq_eq_false_iff_ne];omega
 generalize hz:st-po+pu=z at w3
 rcases hop with rfl|rfl|rfl|rfl|⟨o5,o9,o10,o3⟩
 ·rw[if_neg (by omega)]
  cases l
  ·rw[if_neg (by decide),if_neg (by omega)]
   simp only[pf141,Ins.av,↓fm,wall,simprocAttr,wH,hqA,hqs,hxs,hm,w1,w2,w3,ce,d1,SS,show ((false:Bool)==true)=false from rfl,show ((true:Bool)==false)=false from rfl,ed,ee]
   first|exact⟨_,rfl⟩|exact⟨trivial,_,rfl⟩
  ·rw[if_pos (by decide)]
   simp only[pf141,Ins.av,↓fm,wall,simprocAttr,wH,hqA,hqs,hxs,hm,w1,w2,w3,ce,d1,SS,show ((false:Bool)==true)=false from rfl,show ((true:Bool)==false)=false from rfl,ed,ee]
   exact⟨_,rfl⟩
 ·have w4:IntKind.i64.wrap (env+1)=env+1:=gw (by unfold jn;omega)
  have w5:IntKind.i64.wrap (bi+1)=bi+1:=gw (by unfold jn;omega)
  rw[if_neg (by omega)]
  cases l
  ·rw[if_neg (by decide),if_neg (by omega)]
   simp only[pf141,Ins.av,↓fm,wall,simprocAttr,wH,hqA,hqs,hxs,hm,w1,w2,w3,w4,w5,ce,d1,SS,show ((false:Bool)==true)=false from rfl,show ((true:Bool)==false)=false from rfl,ed,ee]
   first|exact⟨_,rfl⟩|exact⟨trivial,_,rfl⟩
  ·rw[if_pos (by decide)]
   simp only[pf141,Ins.av,↓fm,wall,simprocAttr,wH,hqA,hqs,hxs,hm,w1,w2,w3,w4,w5,ce,d1,SS,show ((false:Bool)==true)=false from rfl,show ((true:Bool)==false)=false from rfl,ed,ee]
   exact⟨_,rfl⟩
 ·have w4:IntKind.i64.wrap (env-1)=env-1:=gw (by unfold jn;omega)
  have w5:IntKind.i64.wrap (bi-1)=bi-1:=gw (by unfold jn;omega)
  cases d2:(bi==0)
  ·have d2':=ne_of_beq_false d2
   rw[if_neg (by omega)]
   cases l
   ·rw[if_neg (by decide),if_neg (by omega)]
    simp only[pf141,Ins.av,↓fm,wall,simprocAttr,wH,hqA,hqs,hxs,hm,w1,w2,w3,w4,w5,ce,d1,d2,SS,show ((false:Bool)==true)=false from rfl,show ((true:Bool)==false)=false from rfl,ed,ee]
    first|exact⟨_,rfl⟩|exact⟨trivial,_,rfl⟩
   ·rw[if_pos (by decide)]
    simp only[pf141,Ins.av,↓fm,wall,simprocAttr,wH,hqA,hqs,hxs,hm,w1,w2,w3,w4,w5,ce,d1,d2,SS,show ((false:Bool)==true)=false from rfl,show ((true:Bool)==false)=false from rfl,ed,ee]
    exact⟨_,rfl⟩
  ·have d2':=eq_of_beq d2
   rw[if_pos (.inr ⟨rfl,d2'⟩)]
   simp only[pf141,Ins.av,↓fm,wall,simprocAttr,wH,hqA,hqs,hxs,hm,w1,w2,w3,ce,d1,d2,SS,show ((false:Bool)==true)=false from rfl,show ((true:Bool)==false)=false from rfl,ed,ee]
   exact⟨_,rfl⟩
 ·rw[if_neg (by omega)]
  cases l
  ·rw[if_pos (by decide)]
   simp only[pf141,Ins.av,↓fm,wall,simprocAttr,wH,hqA,hqs,hxs,hm,w1,w2,w3,ce,d1,SS,show ((false:Bool)==true)=false from rfl,show ((true:Bool)==false)=false from rfl,ed,ee]
   exact⟨_,rfl⟩
  ·rw[if_neg (by decide)]
   cases d3:(z != 1)
   ·cases d4:(bi != 0)
    ·have e3:z=1:=by simpa[bne]using d3
     have e4:bi=0:=by simpa[bne]using d4
     rw[if_neg (λh=>h.2.elim (λh=>h e3) λh=>h e4)]
     simp only[pf141,Ins.av,↓fm,wall,simprocAttr,wH,hqA,hqs,hxs,hm,w1,w2,w3,ce,d1,d3,d4,SS,show ((false:Bool)==true)=false from rfl,show ((true:Bool)==false)=false from rfl,ed,ee]
     first|exact⟨_,rfl⟩|exact⟨trivial,_,rfl⟩
    ·have e4:bi ≠ 0:=by simpa[bne]using d4
     rw[if_pos ⟨rfl,.inr e4⟩]
     simp only[pf141,Ins.av,↓fm,wall,simprocAttr,wH,hqA,hqs,hxs,hm,w1,w2,w3,ce,d1,d3,d4,SS,show ((false:Bool)==true)=false from rfl,show ((true:Bool)==false)=false from rfl,ed,ee]
     exact⟨_,rfl⟩
   ·have e3:z ≠ 1:=by simpa[bne]using d3
    rw[if_pos ⟨rfl,.inl e3⟩]
    simp only[pf141,Ins.av,↓fm,wall,simprocAttr,wH,hqA,hqs,hxs,hm,w1,w2,w3,ce,d1,d3,SS,show ((false:Bool)==true)=false from rfl,show ((true:Bool)==false)=false from rfl,ed,ee]
    exact⟨_,rfl⟩
 ·have e10:=ne_of_beq_false o10
  have e3:=ne_of_beq_false o3
  have e9:=ne_of_beq_false o9
  have e5:=ne_of_beq_false o5
  have E1:∀v,jr ⟨op,a,b,nm⟩ v=v:=λv=>by simp only[jr,if_neg e9,if_neg e10]
  have E2:brI ⟨op,a,b,nm⟩ br=max 0 (br-1):=by simp only[brI,if_neg e5]
  rw[if_neg (λh=>h.elim d1' λh=>e10 h.1),o3,E1,E1,E2]
  cases l
  ·rw[if_neg (by decide),if_neg (by rintro⟨h,_⟩;exact e3 h)]
   simp only[pf141,Ins.av,↓fm,wall,simprocAttr,wH,hqA,hqs,hxs,hm,w1,w2,w3,ce,d1,o5,o9,o10,o3,SS,show ((false:Bool)==true)=false from rfl,show ((true:Bool)==false)=false from rfl,ed,ee]
   first|exact⟨_,rfl⟩|exact⟨trivial,_,rfl⟩
  ·rw[if_pos (by decide)]
   simp only[pf141,Ins.av,↓fm,wall,simprocAttr,wH,hqA,hqs,hxs,hm,w1,w2,w3,ce,d1,o5,o9,o10,o3,SS,show ((false:Bool)==true)=false from rfl,show ((true:Bool)==false)=false from rfl,ed,ee]
   exact⟨_,rfl⟩
end
end Go.Proofs.Eng
namespace Go.Proofs.Eng
open Go Go.Proofs
set_option maxRecDepth 100000
set_option maxHeartbeats 16000000
theorem I2 {nb ng:Nat} {x:Ins} {rest:List Ins} {br:Int} (h:lq nb ng x rest br=0):(0<=x.op/\x.op<=14/\0<=x.a/\0<=x.b)/\(x.op=1\/x.op=6->x.a<nb)/\(x.op=6->x.b<=64)/\(x.op=5->x.a<=32):=by
 unfold lq at h
 split at h
 ·omega
 rename_i h1
 split at h
 ·omega
 split at h
 ·omega
 rename_i h3
 have h1:qu x rest br=true:=by simpa using h1
 simp only[qu,dy,decide_eq_true_eq]at h1
 obtain⟨⟨⟨⟨⟨⟨⟨⟨a1,a2⟩,a3⟩,a4⟩,_⟩,_⟩,_⟩,_⟩,a5⟩:=h1
 simp only[ld,ei,dy,beq_iff_eq,decide_eq_true_eq,not_or,not_and,Int.not_le,Int.not_lt]at h3
 obtain⟨⟨⟨_,h6⟩,h16⟩,_⟩:=h3
 refine⟨⟨a1,a2,a3,a4⟩,λh=>h16 h,λh=>h6 h,λh => ?_⟩
 have h5:(x.op != 5)=false:=by simp[h]
 rw[h5,Bool.false_or,xp]at a5
 simp only[dy,decide_eq_true_eq]at a5
 exact a5.1.1
theorem Mi {nb ng n:Nat} {x:Ins} {rest:List Ins} {t:Sk} {e:Int} (h:stp nb ng n x rest t = .error e):e ≠ 0:=by
 unfold stp at h
 split at h
 ·rename_i h1
  simp only[Except.error.injEq]at h;rw[<- h];exact h1
 ·split at h
  ·rename_i h2
   simp only[Except.error.injEq]at h;subst h
   unfold pd s7 at h2
   repeat' split at h2
   all_goals first|(simp only[Except.error.injEq]at h2;subst h2;decide)|cases h2
  ·unfold mb at h
   repeat' split at h
   all_goals first|(simp only[Except.error.injEq]at h;subst h;decide)|cases h
theorem Oo {nb ng n:Nat} {suf:List Ins}:∀{l:List Ins} {t:Sk} {e:Int},s9 nb ng n suf l t = .error e->e ≠ 0
 | [],t,e,h=>by cases h
 | x::l,t,e,h=>by
  rw[s9]at h
  split at h
  ·rename_i e' h1
   simp only[Except.error.injEq]at h;subst h
   exact Mi h1
  ·exact Oo h
def SB (W:Int) (S:List Int):Prop:=∀s ∈ S,s<=W
theorem SB.mono {W W':Int} {S:List Int} (h:SB W S) (hw:W<=W'):SB W' S:=λs hs=>Int.le_trans (h s hs) hw
theorem SB.set {W:Int} {S:List Int} (h:SB W S) {k:Nat} {v:Int} (hv:v<=W):SB W (S.set k v):=λs hs=>by
 rcases List.mem_or_eq_of_mem_set hs with h'|rfl
 ·exact h s h'
 ·exact hv
structure Bd (W:Int) (e0:Int) (j:Nat) (t:Sk):Prop where
 st:0<=t.stack/\t.stack<=j
 bi:0<=t.binds/\t.binds<=j
 en:t.env=e0+t.binds
 br:0<=t.br/\t.br<=32
 sb:SB (W+64+j) t.S
theorem Bd.step {W e0:Int} {j nb ng n:Nat} {x:Ins} {rest:List Ins} {t t':Sk} (h:Bd W e0 j t) (h0:0<=e0) (h1:e0<=W) (hs:stp nb ng n x rest t = .ok t'):Bd W e0 (j+1) t':=by
 unfold stp at hs
 split at hs
 ·cases hs
 rename_i hf
 obtain⟨⟨f1,f2,f3,f4⟩,f5,f6,f7⟩:=I2 (by simpa using hf)
 split at hs
 ·cases hs
 rename_i S' hr
 obtain⟨⟨s1,s2⟩,⟨b1,b2⟩,he,⟨r1,r2⟩,hsb⟩:=h
 have hS':SB (W+64+(j+1:Nat)) S':=by
  unfold pd at hr
  have hsb':=hsb.mono (W':=W+64+(j+1:Nat)) (by omega)
  have hent:∀{b m},s7 n t.S b m = .ok S'->m<=W+64+(j+1:Nat)->SB (W+64+(j+1:Nat)) S':=λ{b m} e hm=>by
   unfold s7 at e
   split at e
   ·cases e
   ·split at e
    ·cases e
    ·cases e;exact hsb'.set hm
  split at hr
  ·exact hent hr (by omega)
  ·split at hr
   ·rename_i h6
    have:=f6 h6
    exact hent hr (by omega)
   ·split at hr
    ·cases hr
    ·cases hr;exact hsb'
 unfold mb at hs
 split at hs
 ·cases hs
 rename_i g1
 split at hs
 ·cases hs
 split at hs
 ·cases hs
 simp only[Except.ok.injEq]at hs
 subst hs
 have g2:¬t.stack<lk x:=λh=>g1 (.inl h)
 have g3:¬(x.op=10/\t.binds=0):=λh=>g1 (.inr h)
 have hp:0<=lk x:=by unfold lk;repeat' split<;>omega
 have hq:0<=jq x/\jq x<=1:=by unfold jq;split<;>omega
 refine⟨⟨by simp only;omega,by simp only;omega⟩, ?_, ?_, ?_,hS'⟩
 ·simp only[jr]
  split
  ·omega
  ·split
   ·rename_i h10
    have:t.binds ≠ 0:=λh=>g3 ⟨h10,h⟩
    omega
   ·omega
 ·simp only[jr]
  split
  ·omega
  ·split<;>omega
 ·simp only[brI]
  split
  ·rename_i h5;exact⟨f3,f7 h5⟩
  ·omega
def zn (nb ng n:Nat) (l:List Ins) (S:List Int):Except Int (List Int):=if S.getD n 0<0 then .error 9 else if l=[]then .error 3 else match s9 nb ng n [] l ⟨S,S.getD n 0,0,0,0⟩with
 | .error e=>.error e
 | .ok t=>.ok t.S
theorem Oi (nb ng n:Nat) (l:List Ins) (r:List (List Ins)) (S:List Int):goB nb ng n (l::r) S=match zn nb ng n l S with
  | .error e=>e
  | .ok S'=>goB nb ng (n+1) r S':=by
 rw[goB,zn]
 split
 ·rfl
 ·split
  ·rfl
  ·cases s9 nb ng n [] l ⟨S,S.getD n 0,0,0,0⟩<;>rfl
theorem Nu {nb ng n:Nat} {l:List Ins} {S:List Int} {e:Int} (h:zn nb ng n l S = .error e):e ≠ 0:=by
 unfold zn at h
 split at h
 ·simp only[Except.error.injEq]at h;subst h;decide
 ·split at h
  ·simp only[Except.error.injEq]at h;subst h;decide
  ·split at h
   ·rename_i h1
    simp only[Except.error.injEq]at h;subst h
    exact Oo h1
   ·cases h
theorem Nz {W e0:Int} {nb ng n:Nat} (h0:0<=e0) (h1:e0<=W):∀{l:List Ins} {j:Nat} {t t':Sk},Bd W e0 j t->s9 nb ng n [] l t = .ok t'->Bd W e0 (j+l.length) t'
 | [],j,t,t',h,e=>by cases e;exact h
 | x::l,j,t,t',h,e=>by
  rw[s9]at e
  split at e
  ·cases e
  ·rename_i t1 h2
   have:=Nz h0 h1 (h.step h0 h1 h2) e
   rw[ak,show j+(l.length+1)=j+1+l.length from by omega];exact this
theorem Ol {W:Int} {nb ng n:Nat} {l:List Ins} {S S':List Int} (hS:SB W S) (hW:0<=W) (h:zn nb ng n l S = .ok S'):SB (W+64+l.length) S':=by
 unfold zn at h
 split at h
 ·cases h
 rename_i h1
 split at h
 ·cases h
 split at h
 ·cases h
 rename_i t h2
 cases h
 have h3:S.getD n 0<=W:=by
  rw[List.getD]
  cases hg:S[n]? with
  | none=>simpa using hW
  | some v=>exact hS v (aq hg)
 have:=Nz (j:=0) (W:=W) (e0:=S.getD n 0) (by omega) h3 ⟨⟨by simp,by simp⟩,⟨by simp,by simp⟩,by simp,⟨by simp,by simp⟩,hS.mono (by show W<=W+64+((0:Nat):Int);omega)⟩ h2
 simpa using this.sb
end Go.Proofs.Eng
namespace Go.Proofs.Eng
open Go Go.Proofs
set_option maxRecDepth 100000
set_option maxHeartbeats 16000000
theorem KS.set {ki si q:Nat} {Bs:List AV} {t1 t2 t3:Tl} {c:Cd} {S:List Int} {H:List fq} (h:KS ki si Bs t1 t2 t3 c S H) {o:fq} (h1:q ≠ ki) (h2:q ≠ si):KS ki si Bs t1 t2 t3 c S (H.set q o):=
 ⟨xe h.k h1,xe h.s h2,h.sl,h.ne,h.bl,h.p1,h.gl⟩
section
variable {ki si:Nat} {Bs:List AV} {t1 t2 t3:Tl} {c:Cd} {S:List Int} {H:List fq} {V:List Nat}
theorem Pn (h:KS ki si Bs t1 t2 t3 c S H) {n:Nat} {l:List Ins} (hn:c.bl[n]? = some l) (hnm:∀x ∈ l,x.n.size<=jj) {W:Int} (hS:SB W S) (hW:0<=W) (hWl:W+l.length<=1000000000000000000) :
  Sh md pfs 89 [.ptr ki 0,.int n] ⟨H,V⟩ (λv s=>match zn c.bl.length c.gl.length n l S with | .error e=>v = .int e /\ ∃H',s=⟨H',V⟩ | .ok S'=>v = .int 0 /\ ∃H',s=⟨H',V⟩/\KS ki si Bs t1 t2 t3 c S' H'/\S'.length=S.length) λ_ _=>False:=by
 have hB:B62=4611686018427387904:=rfl
 have hk:=h.k
 have hs:=h.s
 have hBl:=h.bl.len
 have hnl:n<c.bl.length:=(List.getElem?_eq_some_iff.1 hn).1
 obtain⟨l',a,d0,_,_,d4,⟨tb,rfl,htb,hll⟩⟩:=h.bl.at (i:=n) (by omega)
 rw[hn]at d0;cases d0
 have hnS:n<S.length:=by rw[h.sl];exact hnl
 have hSn:(List.drop n (ints S)).head? = some (.int (S.getD n 0)):=by rw[List.head?_drop];exact Aw hnS
 have hnB:(n:Int)<Bs.length:=by omega
 have hnC:(n:Int)<c.bl.length:=by omega
 have hallB:(Bs.all λx=>x.cells.length==1)=true:=aw.2 λy hy=>by
  obtain⟨q,hq⟩:=List.mem_iff_getElem?.1 hy
  obtain⟨b,a,_,_,_,e4,⟨t,rfl,_⟩⟩:=h.bl.at (i:=q) (List.getElem?_eq_some_iff.1 hq).1
  rw[hq]at e4;cases e4;rfl
 have hkl:=fu hk
 have hsl:=fu hs
 refine j8 pf89_is (dh rfl) ?_
 rw[zn]
 cases d1:decide (S.getD n 0<0)
 case true=>
  rw[if_pos (by simpa using d1)]
  simp only[pf89,↓fm,wall,simprocAttr,wH,hk,hs,hnB,hnC,d4,hallB,Nat.mul_one,hSn,d1]
  exact⟨_,rfl⟩
 rw[if_neg (by simpa using d1)]
 have d1':¬S.getD n 0<0:=by simpa using d1
 cases d2:(((l.length:Nat):Int)==0)
 case true=>
  have:l=[]:=by have:=eq_of_beq d2;exact List.length_eq_zero_iff.1 (by omega)
  rw[if_pos this]
  simp only[pf89,↓fm,wall,simprocAttr,wH,hk,hs,hnB,hnC,d4,hallB,Nat.mul_one,hSn,gj,d1,d2]
  exact⟨_,rfl⟩
 have d2':l.length ≠ 0:=by have:=ne_of_beq_false d2;omega
 rw[if_neg (λe=>d2' (by rw[e];rfl))]
 generalize hS0:S.getD n 0=e0 at *
 have he0:e0<=W:=by
  rw[<- hS0,List.getD,aa hnS];exact hS _ (List.getElem_mem hnS)
 generalize hR:s9 c.bl.length c.gl.length n [] l ⟨S,e0,0,0,0⟩=R
 simp only[pf89,↓fm,wall,simprocAttr,wH,hk,hs,hnB,hnC,d4,hallB,Nat.mul_one,hSn,gj,d1,d2]
 refine j7 (λj=>l.length-j) (λj E H1 V1=>j<=l.length/\V1=V/\E 0 = .ptr ki 0/\E 6 = .ptr H.length 0/\E 5 = .sl (jf l) tb/\E 41 = .sl (jf l) tb/\E 42 = .int l.length/\E 43 = .int j /\ ∃t:Sk,KS ki si Bs t1 t2 t3 c t.S H1/\t.S.length=S.length/\Bd W e0 j t/\H1[H.length]? = some (.cells false [.int n,.int t.env,.int t.stack,.int t.binds,.int t.br])/\s9 c.bl.length c.gl.length n [] (l.drop j) t=R) ?_ 0 ?_
 ·rintro j E H1 V1 ⟨hj,rfl,e0',e6,e5,e41,e42,e43,t,k1,k2,k3,k4,k5⟩
  rcases dj j l.length with hlt|hge
  ·have hdec:decide ((j:Int)<l.length)=true:=by simpa using hlt
   obtain⟨x,x0,x4⟩:=D0 hlt
   have hdr:l.drop j=x::l.drop (j+1):=by
    obtain⟨h,rfl⟩:=List.getElem?_eq_some_iff.1 x0
    exact bz h
   rw[hdr,s9,List.append_nil]at k5
   obtain⟨t',ht',hsu⟩:=G7 (es:=4) (al:=jf l) htb (n:=j+1) (m:=l.length) (by omega) (by rw[gj])
   have hsl2:(jf l).drop (j+1)=jf (l.drop (j+1)):=by simp[jf]
   rw[hsl2]at hsu
   have kA:=k1.app [.cells false [.int x.op,.int x.a,.int x.b,.str x.n]]
   have k4A:=jc k4 [fq.cells false [.int x.op,.int x.a,.int x.b,.str x.n]]
   obtain⟨_,_,⟨rfl,G,rfl⟩,cf⟩:=(Wy (V:=V1) kA x (rest:=l.drop (j+1)) (t:=t') t.br ht' (by rw[b8];omega) (hnm x (aq x0))).r8 rfl
   have wj:IntKind.i64.wrap ((j:Int)+1)=((j+1:Nat):Int):=by rw[gw (by unfold jn;omega)];omega
   have hj1:((j+1:Nat):Int)<=l.length:=by omega
   have hx2:(H1++[fq.cells false [.int x.op,.int x.a,.int x.b,.str x.n]]++G)[H1.length]? = some (.cells false [.int x.op,.int x.a,.int x.b,.str x.n]):=jc (by simp) G
   have kG:=kA.app G
   have k4G:=jc k4A G
   have hlH:H1.length<(H1++[fq.cells false [.int x.op,.int x.a,.int x.b,.str x.n]]++G).length:=fu hx2
   generalize H1++[fq.cells false [.int x.op,.int x.a,.int x.b,.str x.n]]++G=H2 at *
   have hq1:H.length ≠ H1.length:=by have:=fu k4;omega
   have hk1:ki ≠ H1.length:=by have:=fu k1.k;omega
   have hs1:si ≠ H1.length:=by have:=fu k1.s;omega
   have w42:IntKind.i64.wrap (((l.length:Nat):Int)-1)=((l.length-1:Nat):Int):=by rw[gw (by unfold jn;omega)];omega
   have hlast:(((j:Nat):Int)==((l.length-1:Nat):Int))=(l.drop (j+1)).isEmpty:=by
    cases hd:l.drop (j+1)with
    | nil=>
     have:=List.drop_eq_nil_iff.1 hd
     rw[List.isEmpty_nil,beq_iff_eq];omega
    | cons y r=>
     have:=congrArg List.length hd
     rw[b8,ak]at this
     rw[List.isEmpty_cons,beq_eq_false_iff_ne];omega
   simp only[Ins.av]at cf
   cases hf:(lq c.bl.length c.gl.length x (l.drop (j+1)) t.br != 0)
   case true=>
    have hf':lq c.bl.length c.gl.length x (l.drop (j+1)) t.br ≠ 0:=by simpa[bne]using hf
    rw[stp,if_pos hf']at k5
    rw[<- k5]
    simp only[↓fm,wall,simprocAttr,wH,e0',e6,e5,e41,e42,e43,hdec,x4,iq,gj,k4A,wj,hj1,hsu,cf,hf]
    exact⟨_,rfl⟩
   have hf':lq c.bl.length c.gl.length x (l.drop (j+1)) t.br=0:=by simpa[bne]using hf
   obtain⟨⟨f1,f2,f3,f4⟩,f5,f6,f7⟩:=I2 hf'
   have kS:=k3
   obtain⟨⟨s1,s2⟩,⟨b1,b2⟩,hen,⟨r1,r2⟩,hsb⟩:=k3
   obtain⟨vr,sr,hr,cr⟩:=(Ov (V:=V1) kG k4G x (λh=>by
    rcases h with h|h
    ·exact⟨f3,f5 (.inl h)⟩
    ·exact⟨f3,f5 (.inr h)⟩) (by unfold jn;omega) (λh=>by have:=f6 h;unfold jn;omega)).r8 rfl
   simp only[Ins.av]at cr
   rw[stp,if_neg (by rw[hf'];simp)]at k5
   cases hre:pd n x t with
   | error e=>
    have hne:(e != 0)=true:=by
     have:stp c.bl.length c.gl.length n x (l.drop (j+1)) t = .error e:=by rw[stp,if_neg (by rw[hf'];simp),hre]
     simpa[bne]using Mi this
    rw[hre]at hr k5
    obtain⟨rfl,G2,rfl⟩:=hr
    simp only at k5
    rw[<- k5]
    simp only[↓fm,wall,simprocAttr,wH,e0',e6,e5,e41,e42,e43,hdec,x4,iq,gj,k4A,wj,hj1,hsu,cf,hf,hx2,cr,hne]
    exact⟨_,rfl⟩
   | ok S1=>
    rw[hre]at hr k5
    obtain⟨rfl,hl1,G2,rfl⟩:=hr
    have kR:=(kG.app G2).enter hl1
    have k4R:=xe (x:=.cells false (ints S1)) (j:=si) (jc k4G G2) (by have:=fu h.s;omega)
    have hx3:=xe (x:=.cells false (ints S1)) (j:=si) (jc hx2 G2) hs1
    generalize (H2++G2).set si (.cells false (ints S1))=H3 at *
    obtain⟨ve,se,hxe,ce⟩:=(Mn (S:=S1) (V:=V1) k4R x (l.drop (j+1)) f1 f2 f4 (by omega) (by omega) (by omega) (by omega)).r8 rfl
    simp only[Ins.av]at ce
    rw[<- hlast]at ce
    simp only at k5
    have hxx:mb x (l.drop (j+1)) S1 t=mb x (l.drop (j+1)) S1 ⟨S1,t.env,t.stack,t.binds,t.br⟩:=rfl
    rw[hxx]at k5
    cases hee:mb x (l.drop (j+1)) S1 ⟨S1,t.env,t.stack,t.binds,t.br⟩with
    | error e=>
     have hne:(e != 0)=true:=by
      have:stp c.bl.length c.gl.length n x (l.drop (j+1)) t = .error e:=by
       rw[stp,if_neg (by rw[hf'];simp),hre];exact hee
      simpa[bne]using Mi this
     rw[hee]at hxe k5
     obtain⟨rfl,H',rfl⟩:=hxe
     simp only at k5
     rw[<- k5]
     simp only[↓fm,wall,simprocAttr,wH,e0',e6,e5,e41,e42,e43,hdec,x4,iq,gj,k4A,wj,hj1,hsu,cf,hf,hx2,cr,hx3,w42,ce,hne]
     exact⟨_,rfl⟩
    | ok t1=>
     have hstp:stp c.bl.length c.gl.length n x (l.drop (j+1)) t = .ok t1:=by
      rw[stp,if_neg (by rw[hf'];simp),hre];exact hee
     rw[hee]at hxe k5
     obtain⟨rfl,hS1,G3,rfl⟩:=hxe
     simp only at k5
     have kX:=(kR.app G3).set (q:=H.length) (o:=.cells false [.int n,.int t1.env,.int t1.stack,.int t1.binds,.int t1.br]) (by omega) (by omega)
     have hlt3:=fu (jc k4R G3)
     simp only[↓fm,wall,simprocAttr,wH,e0',e6,e5,e41,e42,e43,hdec,x4,iq,gj,k4A,wj,hj1,hsu,cf,hf,hx2,cr,hx3,w42,ce]
     exact jg ⟨j+1,by omega,by omega,rfl,e0',e6,e5,e41,e42,rfl,t1,by rw[hS1];exact kX,by rw[hS1,hl1];exact k2,kS.step (by omega) he0 hstp,by rw[b9,if_pos rfl,if_pos hlt3],k5⟩
  ·have hdec:decide ((j:Int)<l.length)=false:=by simpa using hge
   rw[bt (by omega),s9]at k5
   rw[<- k5]
   simp only[↓fm,wall,simprocAttr,wH,e0',e6,e5,e41,e42,e43,hdec]
   exact⟨_,rfl,k1,k2⟩
 ·have kA:=h.app [.cells false [.int n,.int e0,.int 0,.int 0,.int 0]]
  refine⟨dk _,rfl,rfl,rfl,rfl,rfl,rfl,rfl,⟨S,e0,0,0,0⟩,kA,rfl,⟨by simp,by simp,by simp,by simp,hS.mono (by show W<=W+64+((0:Nat):Int);omega)⟩,by simp,by rw[List.drop_zero];exact hR⟩
end
end Go.Proofs.Eng
namespace Go.Proofs.Eng
open Go Go.Proofs
set_option maxRecDepth 100000
set_option maxHeartbeats 16000000
theorem T5 (H:List fq) (V:List Nat) (z:Int) (t:Tl) (n:Nat) (h1:1<=n) (h2:n<=1000000) (K KP):CW (run md pfs) md false ⟨H,V⟩ 88 [.sl [.int z] t,.int n] K KP ()=K (.bs H.length 0 n 1 false) ⟨H++[.cells false (ints (List.replicate n z))],V⟩:=by
 have h:=Df (md:=md) (pfs:=pfs) (f:=88) (pf:=⟨0,[],.ora R5⟩) (by simp[pfs]) rfl (args:=[.sl [.int z] t,.int n]) (v:=.bs H.length 0 n 1 false) (s:=⟨H,V⟩) (s':=⟨H++[.cells false (ints (List.replicate n z))],V⟩) (by
  simp only[R5,AV.int]
  rw[if_pos (by omega)]
  simp[ints])
 simp[CW,me,my,mg,show md 88 = .raw from rfl,h]
theorem a5k:∀l:List Ins,k9 (jf l) (jf l)=true
 | []=>by rw[jf,List.map_nil,k9]
 | x::l=>by
  have:=a5k l
  simp only[jf]at this ⊢
  rw[bq,k9,this,Ins.av,ml,k9,k9,k9,k9,k9,eqI,eqI,eqI,eqS];rfl
theorem a6f:∀l:List ByteArray,k9 (nmA l) (nmA l)=true
 | []=>by rw[nmA,List.map_nil,k9]
 | x::l=>by
  have:=a6f l
  simp only[nmA]at this ⊢
  rw[bq,k9,this,eqS];rfl
theorem a6w {l:List (List Ins)} {al:List AV} (h:LIs Em l al):k9 al al=true:=eqL (R:=Em) (λx _ a ⟨t,e,_⟩=>by rw[e];exact eqT _ _ (a5k _)) h
theorem Di:∀(l:List Nat) (n:Nat),(l.take n).sum<=l.sum
 | [],n=>by simp
 | x::l,0=>by simp
 | x::l,n+1=>by have:=Di l n;simp;omega
theorem Sp {c:Cd} {a:AV} (h:c.Is a) (hn:∀g ∈ c.gl,g.size<=jj) (hnm:∀b ∈ c.bl,∀x ∈ b,x.n.size<=jj) (hb:c.bl.length<=1000000) (hsum:(c.bl.map List.length).sum<=1000000000000):Out md pfs 38 [a] (· = .int c.check) λ_=>False:=by
 obtain⟨Bs,t1,t2,t3,rfl,g1,g2,g3,g4,g5,g6,g7⟩:=id h
 have hBl:=g1.len
 refine jt pf38_is (dh rfl) ?_
 obtain⟨_,rfl,co⟩:=(K8 h hn).call rfl (by simp[gp,gz,Ca h])
 rw[Cd.check]
 cases ho:(c.ua != 0)
 case true=>
  rw[if_pos (by simpa[bne]using ho)]
  simp only[pf38,↓fm,wall,simprocAttr,wH,co,ho]
 have ho':c.ua=0:=by simpa[bne]using ho
 rw[if_neg (by rw[ho'];simp)]
 rw[ho']at co
 have hoo:c.bl ≠ []/\(c.st.any λs=>decide (s<1)||decide ((c.bl.length:Int)<=s))=false:=by
  unfold Cd.ua at ho'
  split at ho'
  ·omega
  rename_i hh
  exact⟨λe=>hh (.inl e),by
   cases hx:(c.st.any λs=>decide (s<1)||decide ((c.bl.length:Int)<=s))with
   | false=>rfl
   | true=>exact absurd (.inr (.inr (.inl hx))) hh⟩
 obtain⟨hne,hst⟩:=hoo
 have hb1:1<=c.bl.length:=by
  rcases Nat.eq_zero_or_pos c.bl.length with h|h
  ·exact absurd (List.length_eq_zero_iff.1 h) hne
  ·exact h
 have hrc:=λ(K KP)=>T5 [.cells false [.sl Bs t1,.sl (nmA c.gl) t2,.sl (ints c.st) t3]] [] (-1) (.cap 1) c.bl.length hb1 hb K KP
 rw[<- hBl]at hrc
 have heq:ml (.agg [.sl Bs t1,.sl (nmA c.gl) t2,.sl (ints c.st) t3]) (.agg [.sl Bs t1,.sl (nmA c.gl) t2,.sl (ints c.st) t3])=true:=by
  rw[ml,k9,k9,k9,k9,eqT _ _ (a6w g1),eqT _ _ (a6f _),eqT _ _ (a5z _)];rfl
 have hB1:(0:Int)<((Bs.length:Nat):Int):=by omega
 simp only[pf38,↓fm,wall,simprocAttr,wH,co,hrc,heq,hB1]
 refine⟨by rw[ig,List.length_replicate,hBl];exact hb1, ?_⟩
 let stf:List Int->List Int->List Int:=λl S=>l.foldl (λS s=>S.set s.toNat 0) S
 refine j7 (λj=>c.st.length-j) (λj E H V=>j<=c.st.length/\V=[]/\E 1 = .ptr 0 0/\E 4 = .ptr 2 0/\E 28 = .sl (ints c.st) t3/\E 29 = .int c.st.length/\E 30 = .int j/\H[0]? = some (.cells false [.sl Bs t1,.sl (nmA c.gl) t2,.sl (ints c.st) t3]) /\ ∃S,KS 2 1 Bs t1 t2 t3 c S H/\SB 0 S/\(c.st.drop j).foldl (λS s=>S.set s.toNat 0) S=c.S0) ?_ 0 ?start
 case start=>
  refine⟨dk _,rfl,rfl,rfl,rfl,by rw[<- ig];rfl,rfl,rfl,(List.replicate c.bl.length (-1)).set 0 0,⟨by rw[<- hBl];rfl, ?_,by simp,by decide,g1,g2,g6⟩, ?_,rfl⟩
  ·rw[<- Ae (by rw[List.length_replicate];exact hb1),<- hBl];rfl
  ·refine SB.set (λs hs => ?_) (Int.le_refl _)
   rw[(List.mem_replicate.1 hs).2];decide
 rintro j E H V ⟨hj,rfl,e1,e4,e28,e29,e30,hH0,S,kS,hS,hf⟩
 have hk:=kS.k
 have hs:=kS.s
 rcases dj j c.st.length with hlt|hge
 ·have hdec:decide ((j:Int)<c.st.length)=true:=by simpa using hlt
  obtain⟨x,x0,x4⟩:=yt hlt
  have hdr:c.st.drop j=x::c.st.drop (j+1):=by
   obtain⟨h,rfl⟩:=List.getElem?_eq_some_iff.1 x0
   exact bz h
  have hx:=List.any_eq_false.1 hst x (aq x0)
  simp only[ei,decide_eq_true_eq,not_or]at hx
  obtain⟨m,rfl⟩:∃m:Nat,x=m:=⟨x.toNat,by omega⟩
  have hm:(m:Int)<c.bl.length:=by omega
  have hmS:m<S.length:=by rw[kS.sl];omega
  have hset:=Ae (v:=0) hmS
  have hml:m+1<=(ints S).length:=by rw[ig];omega
  rw[hdr,dc,ew]at hf
  simp only[↓fm,wall,simprocAttr,wH,e1,e4,e28,e29,e30,hdec,x4,mn,ig,hk,hs,hm,Nat.mul_one,hset,hml]
  exact⟨hmS,jg ⟨j+1,by omega,by omega,rfl,e1,e4,e28,e29,ij (by omega),xe hH0 (by decide),_,kS.enter (S':=S.set m 0) (by simp),hS.set (Int.le_refl _),hf⟩⟩
 ·have hdec:decide ((j:Int)<c.st.length)=false:=by simpa using hge
  simp only[↓fm,wall,simprocAttr,wH,e1,e4,e28,e29,e30,hdec,hH0]
  rw[bt (by omega),List.foldl_nil]at hf
  subst hf
  have hBn:((Bs.length:Nat):Int)=((c.bl.length:Nat):Int):=by rw[hBl]
  refine j7 (λj=>c.bl.length-j) (λn E H V=>n<=c.bl.length/\V=[]/\E 4 = .ptr 2 0/\E 43 = .int c.bl.length/\E 44 = .int n /\ ∃S,KS 2 1 Bs t1 t2 t3 c S H/\SB ((64*n+((c.bl.map List.length).take n).sum:Nat):Int) S/\goB c.bl.length c.gl.length n (c.bl.drop n) S=goB c.bl.length c.gl.length 0 c.bl c.S0) ?_ 0 ⟨dk _,rfl,e4,by rw[<- hBn];rfl,rfl,_,kS,hS.mono (by simp),rfl⟩
  rintro n E H V ⟨hn1,rfl,e4,e43,e44,S,kS,hS,hg⟩
  rcases dj n c.bl.length with hlt|hge
  ·have hdec:decide ((n:Int)<c.bl.length)=true:=by simpa using hlt
   have hx:c.bl[n]? = some c.bl[n]:=aa hlt
   generalize c.bl[n]=l at hx
   have hdr:c.bl.drop n=l::c.bl.drop (n+1):=by
    obtain⟨h,rfl⟩:=List.getElem?_eq_some_iff.1 hx
    exact bz h
   have htk:((c.bl.map List.length).take (n+1)).sum=((c.bl.map List.length).take n).sum+l.length:=by
    rw[bj,bh,hx];simp
   have hle:=Di (c.bl.map List.length) (n+1)
   obtain⟨v,s,hv,hc⟩:=(Pn (V:=[]) kS hx (hnm l (aq hx)) hS (by omega) (by omega)).r8 rfl
   rw[hdr,Oi]at hg
   cases hbk:zn c.bl.length c.gl.length n l S with
   | error e=>
    rw[hbk]at hv hg
    have hne:(e != 0)=true:=by simpa[bne]using Nu hbk
    obtain⟨rfl,H',rfl⟩:=hv
    simp only at hg
    rw[<- hg]
    simp only[↓fm,wall,simprocAttr,wH,e4,e43,e44,hdec,hc,hne]
   | ok S'=>
    have hS':=Ol hS (by omega) hbk
    rw[hbk]at hv hg
    obtain⟨rfl,H',rfl,kS',hl'⟩:=hv
    simp only at hg
    simp only[↓fm,wall,simprocAttr,wH,e4,e43,e44,hdec,hc]
    exact jg ⟨n+1,by omega,by omega,rfl,e4,e43,ij (by omega),S',kS',hS'.mono (by rw[htk];omega),hg⟩
  ·have hdec:decide ((n:Int)<c.bl.length)=false:=by simpa using hge
   rw[bt (by omega),goB]at hg
   simp only[↓fm,wall,simprocAttr,wH,e4,e43,e44,hdec]
   rw[<- hg]
end Go.Proofs.Eng
namespace Go.Proofs.Eng
open Go Go.Proofs
set_option maxRecDepth 100000
theorem a4x:0<Tryz.prog.cellsOf 3:=by rw[show Tryz.prog.cellsOf 3=1 from by kernel_rfl];decide
theorem D9 {n:Nat} {l:List AV} (h:OfT Tryz.prog n 3 l):∃i,l=[.int i]/\jn i:=by
 cases n with
 | zero=>exact h.elim
 | succ n=>
  simp only[OfT,Tryz.underlying3]at h
  obtain⟨i,rfl,hw⟩:=h
  refine⟨i,rfl, ?_⟩
  unfold jn
  simp[Lit.wf,IntKind.min,IntKind.max,IntKind.signed,IntKind.bits]at hw
  omega
theorem O9 {n:Nat} {l:List AV} (h:OfT Tryz.prog n 9 l):∃s,l=[.str s]/\s.size<=jj:=by
 cases n with
 | zero=>exact h.elim
 | succ n=>
  simp only[OfT,Tryz.underlying9]at h
  obtain⟨s,rfl,hw⟩:=h
  exact⟨s,rfl,by unfold jj;simpa[maxLen]using hw⟩
theorem vj {α:Type} {R:α->AV->Prop} {n:Nat} {t e:TypeId} {l:List AV} (hu:Tryz.prog.underlying t=some (.slice e)) (hc:0<Tryz.prog.cellsOf e) (hR:∀n l,OfT Tryz.prog n e l -> ∃x,R x (mkE (isAgg Tryz.prog e) l)) (h:OfT Tryz.prog n t l):∃(xs:List α) (al:List AV) (tl:Tl),l=[.sl al tl]/\LIs R xs al/\tl.pure=true/\al.length<=jj:=by
 cases n with
 | zero=>exact h.elim
 | succ n=>
  simp only[OfT,hu,if_pos hc]at h
  obtain⟨xs,tl,rfl,h1,h2,h3⟩:=h
  have key:∀xs:List (List AV),(∀x ∈ xs,OfT Tryz.prog n e x) -> ∃ys:List α,LIs R ys (xs.map (mkE (isAgg Tryz.prog e))):=by
   intro xs
   induction xs with
   | nil=>intro _;exact⟨[],trivial⟩
   | cons x xs ih=>
    intro h
    obtain⟨y,hy⟩:=hR n x (h x (by simp))
    obtain⟨ys,hys⟩:=ih λz hz=>h z (by simp[hz])
    exact⟨y::ys,hy,hys⟩
  obtain⟨ys,hys⟩:=key xs h3
  refine⟨ys,_,tl,rfl,hys, ?_,by rw[dg];unfold jj;simpa[maxLen]using h2⟩
  rcases h1 with rfl|⟨rfl,_⟩<;>rfl
theorem Vb {n:Nat} {l:List AV} (h:OfT Tryz.prog n 24 l):∃s tl,l=[.sl (ints s) tl]/\tl.pure=true/\s.length<=jj:=by
 obtain⟨xs,al,tl,rfl,h1,h2,h3⟩:=vj (R:=λ(i:Int) a=>a = .int i) Tryz.underlying24 a4x (λn l h=>by
  obtain⟨i,rfl,_⟩:=D9 h
  exact⟨i,by rw[show isAgg Tryz.prog 3=false from by kernel_rfl];rfl⟩) h
 have:∀{xs:List Int} {al:List AV},LIs (λ(i:Int) a=>a = .int i) xs al->al=ints xs:=by
  intro xs
  induction xs with
  | nil=>intro al h;cases al with
   | nil=>rfl
   | cons=>exact h.elim
  | cons x xs ih=>intro al h;cases al with
   | nil=>exact h.elim
   | cons a al=>obtain⟨rfl,h⟩:=h;rw[ih h];rfl
 have e:=this h1
 subst e
 exact⟨xs,tl,rfl,h2,by rw[<- ig];exact h3⟩
theorem two {α:Type} {l:List α} (h:l.length=2):∃a b,l=[a,b]:=by
 match l,h with
 | [a,b],_=>exact⟨a,b,rfl⟩
theorem I3 {n:Nat} {s:ASt} {x:AV} {y:Value} (h:gr n s x=some (.v y)):x = .v y:=by
 cases n with
 | zero=>rw[gr]at h;cases h
 | succ n=>
  unfold gr at h
  split at h
  ·cases h;rfl
  ·split at h
   all_goals first
    | (cases h;done)
    | (rw[fi]at h;obtain⟨_,_,h⟩:=h;cases h;done)
    | skip
   split at h
   ·split at h
    ·rw[fi]at h;obtain⟨_,_,h⟩:=h;cases h
    ·cases h
   ·cases h
theorem U5 {pfs2:FuncId->Option PF} {f:FuncId} {ls:List AV} (h:Out md pfs2 f ls (· = .bool true) λ_=>False):∃s',run md pfs2 f ls ⟨[],[]⟩=some (.ret (.v (.bool true)),s'):=by
 obtain⟨out,s,out',h1,h2,h3⟩:=h
 cases out' with
 | pan v=>exact h3.elim
 | ret v=>
  subst h3
  cases out with
  | pan w=>simp[jx.gr]at h2
  | ret w=>
   simp only[jx.gr,fi]at h2
   obtain⟨y,h2,h3⟩:=h2
   cases h3
   exact⟨s,by rw[h1,I3 h2]⟩
end Go.Proofs.Eng
namespace Go.Proofs.Eng
open Go Go.Proofs
set_option maxRecDepth 100000
set_option maxHeartbeats 16000000
theorem Rb (op:Int):Out md pfs 152 [.int op] (· = .tup [.bool (pw op),.bool (pq op),.bool (qm op)]) λ_=>False:=by
 refine jt pf152_is (dh rfl) ?_
 have h:op=0\/op=1\/op=5\/op=7\/op=6\/op=4\/((op==0)=false/\(op==1)=false/\(op==5)=false/\(op==7)=false/\(op==6)=false/\(op==4)=false):=by
  simp only[beq_eq_false_iff_ne];omega
 rcases h with rfl|rfl|rfl|rfl|rfl|rfl|⟨h0,h1,h5,h7,h6,h4⟩
 all_goals first
  | (simp only[pf152,↓fm,wall,simprocAttr,pw,pq,qm];done)
  | (simp only[pf152,↓fm,wall,simprocAttr,pw,pq,qm];rfl)
  | (simp only[pf152,↓fm,wall,simprocAttr,pw,pq,qm,h0,h1,h5,h7,h6,h4];first|done|rfl)
theorem Vu (x:Ins) (h0:0<=x.op) (h1:x.op<=14):Out md pfs 115 [x.av] (· = .tup [.int (lk x),.int (jq x)]) λ_=>False:=by
 obtain⟨op,a,b,n⟩:=x
 simp only at h0 h1
 refine jt pf115_is (dh rfl) ?_
 have h:op=0\/op=1\/op=2\/op=3\/op=4\/op=5\/op=6\/op=7\/op=8\/op=9\/op=10\/op=11\/op=12\/op=13\/op=14:=by omega
 rcases h with rfl|rfl|rfl|rfl|rfl|rfl|rfl|rfl|rfl|rfl|rfl|rfl|rfl|rfl|rfl
 all_goals
  simp only[pf115,↓fm,wall,simprocAttr,Ins.av,lk,jq]
  first|done|rfl|simp
section
variable {ki si:Nat} {Bs:List AV} {t1 t2 t3:Tl} {c:Cd} {S:List Int} {H:List fq} {V:List Nat}
theorem N6 (h:KS ki si Bs t1 t2 t3 c S H) {n:Nat} {b:Int} {m:Int} (h0:0<=b) (h1:b<c.bl.length) :
  Sh md pfs 114 [.ptr ki 0,.int b,.int m,.int n] ⟨H,V⟩ (λv s=>match s7 n S b m with | .error e=>v = .int e/\s=⟨H,V⟩ | .ok S'=>v = .int 0/\s=⟨H.set si (.cells false (ints S')),V⟩) λ_ _=>False:=by
 obtain⟨b,rfl⟩:∃k:Nat,b=k:=⟨b.toNat,by omega⟩
 have hk:=h.k
 have hs:=h.s
 have hlt:b<S.length:=by rw[h.sl];omega
 have hb:(List.drop b (ints S)).head? = some (.int (S.getD b 0)):=by rw[List.head?_drop];exact Aw hlt
 have hbs:(b:Int)<((ints S).length:Nat):=by rw[ig];omega
 have hset:=Ae (v:=m) hlt
 have hlb:(b:Int)<c.bl.length:=h1
 rw[s7]
 simp only[ew]
 cases d1:decide (S.getD b 0>=0)
 ·rw[if_neg (by simpa using d1)]
  cases d2:decide ((b:Int)<=(n:Nat))
  ·rw[if_neg (by simpa using d2)]
   refine j8 pf114_is (dh rfl) ?_
   simp only[pf114,↓fm,wall,simprocAttr,wH,hk,hs,Nat.mul_one,hb,hbs,hlb,d1,d2,hset]
   rw[ig];omega
  ·rw[if_pos (by simpa using d2)]
   refine j8 pf114_is (dh rfl) ?_
   simp only[pf114,↓fm,wall,simprocAttr,wH,hk,hs,Nat.mul_one,hb,hbs,hlb,d1,d2]
 ·rw[if_pos (by simpa using d1)]
  refine j8 pf114_is (dh rfl) ?_
  simp only[pf114,↓fm,wall,simprocAttr,wH,hk,hs,Nat.mul_one,hb,hbs,hlb,d1]
end
end Go.Proofs.Eng
namespace Go.Proofs.Eng
open Go Go.Proofs
set_option maxRecDepth 100000
set_option maxHeartbeats 16000000
theorem M7 {c:Cd} {a:AV} (h:c.Is a) (hn:∀g ∈ c.gl,g.size<=jj):Out md pfs 73 [a] (· = .int c.ua) λ_=>False:=by
 obtain⟨Bs,t1,t2,t3,rfl,g1,g2,g3,g4,g5,g6,g7⟩:=id h
 have hBl:=g1.len
 refine jt pf73_is (dh rfl) ?_
 have hR:c.ua=if c.bl=[]\/c.st.length ≠ c.gl.length\/(c.st.any λs=>decide (s<1)||decide ((c.bl.length:Int)<=s))=true\/lj [] c.st=true then 3 else if (c.gl.any λg => !isName g)=true then 29 else if lj [] c.gl=true then 8 else 0:=rfl
 have hbl:c.bl=[] ↔ Bs.length=0:=by rw[hBl];exact⟨λh=>by rw[h];rfl,λh=>List.length_eq_zero_iff.1 h⟩
 cases q1:(((Bs.length:Nat):Int)==0)
 case true=>
  have q1':c.bl=[]:=by rw[hbl];have:=eq_of_beq q1;omega
  rw[hR,if_pos (.inl q1')]
  simp only[pf73,↓fm,wall,simprocAttr,wH,ig,ja,q1]
 have q1':¬c.bl=[]:=by rw[hbl];have:=ne_of_beq_false q1;omega
 cases q2:(((c.st.length:Nat):Int) != ((c.gl.length:Nat):Int))
 case true=>
  have q2':c.st.length ≠ c.gl.length:=by simp only[bne_iff_ne,ne_eq]at q2;omega
  rw[hR,if_pos (.inr (.inl q2'))]
  simp only[pf73,↓fm,wall,simprocAttr,wH,ig,ja,q1,q2]
 have q2':c.st.length=c.gl.length:=by simp only[bne_eq_false_iff_eq]at q2;omega
 simp only[pf73,↓fm,wall,simprocAttr,wH,ig,ja,q1,q2]
 refine j7 (λi=>c.st.length-i) (λi E H T=>E 1 = .ptr 0 0/\E 3 = .int i/\i<=c.st.length/\((c.st.take i).any λs=>decide (s<1)||decide ((c.bl.length:Int)<=s))=false/\lj (c.st.take i) (c.st.drop i)=lj [] c.st /\ ∃G,H = .cells false [.sl Bs t1,.sl (nmA c.gl) t2,.sl (ints c.st) t3]::G) ?_ 0 ⟨rfl,rfl,dk _,rfl,rfl,_,rfl⟩
 rintro i E H T ⟨e1,e3,hi,hb,htw,G,rfl⟩
 rcases dj i c.st.length with hlt|hge
 ·have hdec:decide ((i:Int)<c.st.length)=true:=by simpa using hlt
  obtain⟨x,x0,x4⟩:=yt hlt
  have hdr:c.st.drop i=x::c.st.drop (i+1):=by
   obtain⟨h,rfl⟩:=List.getElem?_eq_some_iff.1 x0
   exact bz h
  have htk:c.st.take (i+1)=c.st.take i++[x]:=by rw[bj,x0];rfl
  have hbad:(decide (x<1)||decide ((c.bl.length:Int)<=x))=true->c.ua=3:=λhx=>by
   rw[hR,if_pos (.inr (.inr (.inl (List.any_eq_true.2 ⟨x,aq x0,hx⟩))))]
  cases c1:decide (x<1)
  case true=>
   rw[hbad (by rw[c1];rfl)]
   simp only[↓fm,wall,simprocAttr,wH,e1,e3,hdec,x4,mn,ig,c1]
  cases c2:decide (x>=((Bs.length:Nat):Int))
  case true=>
   rw[hbad (by rw[c1,Bool.false_or];simp only[decide_eq_true_eq]at c2 ⊢;omega)]
   simp only[↓fm,wall,simprocAttr,wH,e1,e3,hdec,x4,mn,ig,c1,c2]
  simp only[↓fm,wall,simprocAttr,wH,e1,e3,hdec,x4,mn,ig,c1,c2]
  rw[hdr,lj,<- htk]at htw
  refine j7 (λj=>i-j) (λj E H T=>E 1 = .ptr 0 0/\E 3 = .int i/\E 4 = .int j/\j<=i/\x ∉ c.st.take j /\ ∃G,H = .cells false [.sl Bs t1,.sl (nmA c.gl) t2,.sl (ints c.st) t3]::G) ?_ 0 ⟨e1,e3,rfl,dk _,by simp,_,rfl⟩
  rintro j E H T ⟨e1,e3,e4,hj,hnx,G,rfl⟩
  rcases dj j i with hlt2|hge2
  ·have hdec2:decide ((j:Int)<i)=true:=by simpa using hlt2
   obtain⟨y,y0,y4⟩:=yt (show j<c.st.length by omega)
   have htj:c.st.take (j+1)=c.st.take j++[y]:=by rw[bj,y0];rfl
   cases hxy:(y==x)
   ·have hne:=ne_of_beq_false hxy
    simp only[↓fm,wall,simprocAttr,wH,e1,e3,e4,hdec2,x4,y4,mn,ig,hxy]
    exact jg ⟨j+1,by omega,e1,e3,ij (by omega),by omega,by rw[htj];simp[hnx,Ne.symm hne],_,rfl⟩
   ·have he:=eq_of_beq hxy
    have hin:x ∈ c.st.take i:=by
     rw[<- he]
     exact List.mem_take_iff_getElem.2 ⟨j,by omega,(List.getElem?_eq_some_iff.1 y0).2⟩
    have:lj [] c.st=true:=by rw[<- htw,decide_eq_true hin];rfl
    rw[hR,if_pos (.inr (.inr (.inr this)))]
    simp only[↓fm,wall,simprocAttr,wH,e1,e3,e4,hdec2,x4,y4,mn,ig,hxy]
  ·have hji:j=i:=by omega
   have hdec2:decide ((j:Int)<i)=false:=by simpa using hge2
   simp only[↓fm,wall,simprocAttr,wH,e1,e3,e4,hdec2]
   rw[hji]at hnx
   have hb2:(decide (x<1)||decide ((c.bl.length:Int)<=x))=false:=by
    rw[c1,Bool.false_or];simp only[decide_eq_false_iff_not]at c2 ⊢;omega
   exact jg ⟨i+1,by omega,e1,ij (by omega),by omega,by rw[htk,List.any_append,hb];simp only[List.any_cons,List.any_nil,hb2];rfl,by rw[decide_eq_false hnx,Bool.false_or]at htw;exact htw,_,rfl⟩
 ·have hdec:decide ((i:Int)<c.st.length)=false:=by simpa using hge
  rw[au (by omega)]at hb htw
  rw[bt (by omega),lj]at htw
  have hno:¬(c.bl=[]\/c.st.length ≠ c.gl.length\/(c.st.any λs=>decide (s<1)||decide ((c.bl.length:Int)<=s))=true\/lj [] c.st=true):=by
   rintro(h|h|h|h)
   ·exact q1' h
   ·exact h q2'
   ·rw[hb]at h;cases h
   ·rw[<- htw]at h;cases h
  have hR2:c.ua=if (c.gl.any λg => !isName g)=true then 29 else if lj [] c.gl=true then 8 else 0:=by rw[hR,if_neg hno]
  clear hR
  simp only[↓fm,wall,simprocAttr,wH,e1,e3,hdec,ig]
  refine j7 (λi=>c.gl.length-i) (λi E H T=>E 1 = .ptr 0 0/\E 5 = .int i/\i<=c.gl.length/\((c.gl.take i).any λg => !isName g)=false /\ ∃G,H = .cells false [.sl Bs t1,.sl (nmA c.gl) t2,.sl (ints c.st) t3]::G) ?_ 0 ⟨e1,rfl,dk _,rfl,_,rfl⟩
  rintro i E H T ⟨e1,e5,hi,hnm,G,rfl⟩
  rcases dj i c.gl.length with hlt|hge
  ·have hdec:decide ((i:Int)<c.gl.length)=true:=by simpa using hlt
   obtain⟨x,x0,x4⟩:=C1 hlt
   have htk:c.gl.take (i+1)=c.gl.take i++[x]:=by rw[bj,x0];rfl
   obtain⟨_,rfl,cn⟩:=(Ct x (hn x (aq x0))).call rfl (by simp[gp,gz,oj])
   cases hx:isName x
   ·have:(c.gl.any λg => !isName g)=true:=List.any_eq_true.2 ⟨x,aq x0,by rw[hx];rfl⟩
    rw[hR2,if_pos this]
    rw[hx]at cn
    simp only[↓fm,wall,simprocAttr,wH,e1,e5,hdec,x4,r9,ja,cn]
   ·rw[hx]at cn
    simp only[↓fm,wall,simprocAttr,wH,e1,e5,hdec,x4,r9,ja,cn]
    exact jg ⟨i+1,by omega,e1,ij (by omega),by omega,by rw[htk,List.any_append,hnm];simp[hx],_,rfl⟩
  ·have hdec:decide ((i:Int)<c.gl.length)=false:=by simpa using hge
   rw[au (by omega)]at hnm
   rw[hnm]at hR2
   simp only[dz,if_false]at hR2
   simp only[↓fm,wall,simprocAttr,wH,e1,e5,hdec,ja]
   refine j7 (λi=>c.gl.length-i) (λi E H T=>E 1 = .ptr 0 0/\E 6 = .int i/\i<=c.gl.length/\lj (c.gl.take i) (c.gl.drop i)=lj [] c.gl /\ ∃G,H = .cells false [.sl Bs t1,.sl (nmA c.gl) t2,.sl (ints c.st) t3]::G) ?_ 0 ⟨e1,rfl,dk _,rfl,_,rfl⟩
   rintro i E H T ⟨e1,e6,hi,htw,G,rfl⟩
   rcases dj i c.gl.length with hlt|hge
   ·have hdec:decide ((i:Int)<c.gl.length)=true:=by simpa using hlt
    obtain⟨x,x0,x4⟩:=C1 hlt
    have hdr:c.gl.drop i=x::c.gl.drop (i+1):=by
     obtain⟨h,rfl⟩:=List.getElem?_eq_some_iff.1 x0
     exact bz h
    have htk:c.gl.take (i+1)=c.gl.take i++[x]:=by rw[bj,x0];rfl
    rw[hdr,lj,<- htk]at htw
    obtain⟨bx,hbx,htw⟩:=or_some htw
    simp only[↓fm,wall,simprocAttr,wH,e1,e6,hdec,ja]
    refine j7 (λj=>i-j) (λj E H T=>E 1 = .ptr 0 0/\E 6 = .int i/\E 7 = .int j/\j<=i/\x ∉ c.gl.take j /\ ∃G,H = .cells false [.sl Bs t1,.sl (nmA c.gl) t2,.sl (ints c.st) t3]::G) ?_ 0 ?start
    case start=>exact⟨e1,e6,rfl,dk _,by simp,_,rfl⟩
    rintro j E H T ⟨e1,e6,e7,hj,hnx,G,rfl⟩
    rcases dj j i with hlt2|hge2
    ·have hdec2:decide ((j:Int)<i)=true:=by simpa using hlt2
     obtain⟨y,y0,y4⟩:=C1 (show j<c.gl.length by omega)
     have htj:c.gl.take (j+1)=c.gl.take j++[y]:=by rw[bj,y0];rfl
     by_cases hxy:y=x
     ·have hin:x ∈ c.gl.take i:=by
       rw[<- hxy]
       exact List.mem_take_iff_getElem.2 ⟨j,by omega,(List.getElem?_eq_some_iff.1 y0).2⟩
      have:lj [] c.gl=true:=by rw[<- htw,hbx.2 hin];rfl
      rw[hR2,if_pos this]
      have hd:decide (y=x)=true:=decide_eq_true hxy
      simp only[↓fm,wall,simprocAttr,wH,e1,e6,e7,hdec2,x4,y4,r9,ja,j9,ir,hd]
     ·have hd:decide (y=x)=false:=decide_eq_false hxy
      simp only[↓fm,wall,simprocAttr,wH,e1,e6,e7,hdec2,x4,y4,r9,ja,j9,ir,hd]
      exact jg ⟨j+1,by omega,e1,e6,ij (by omega),by omega,by rw[htj];simp[hnx,Ne.symm hxy],_,rfl⟩
    ·have hji:j=i:=by omega
     have hdec2:decide ((j:Int)<i)=false:=by simpa using hge2
     simp only[↓fm,wall,simprocAttr,wH,e1,e6,e7,hdec2]
     rw[hji]at hnx
     have hbf:bx=false:=by
      cases bx with
      | false=>rfl
      | true=>exact absurd (hbx.1 rfl) hnx
     rw[hbf,Bool.false_or]at htw
     exact jg ⟨i+1,by omega,e1,ij (by omega),by omega,htw,_,rfl⟩
   ·have hdec:decide ((i:Int)<c.gl.length)=false:=by simpa using hge
    rw[bt (by omega),lj]at htw
    rw[<- htw]at hR2
    simp only[dz,if_false]at hR2
    rw[hR2]
    simp only[↓fm,wall,simprocAttr,wH,e1,e6,hdec,ja]
end Go.Proofs.Eng
