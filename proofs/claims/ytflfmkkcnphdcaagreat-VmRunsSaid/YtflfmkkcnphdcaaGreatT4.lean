/- The text of a code, told. No conditions beyond those in the theorems. -/
import Derived.Test.YtflfmkkcnphdcaaGreatV2
set_option linter.all false
set_option linter.deprecated false
set_option linter.unnecessarySimpa false
set_option linter.unusedVariables false
set_option linter.unusedSimpArgs false
set_option linter.defProp false
namespace Go.Proofs.Eng
open Go Go.Proofs
set_option maxRecDepth 100000
set_option maxHeartbeats 16000000
theorem Pu (op:Int):op=0\/op=1\/op=4\/op=5\/op=6\/op=7\/((op==0)=false/\(op==1)=false/\(op==4)=false/\(op==5)=false/\(op==6)=false/\(op==7)=false):=by
 simp only[beq_eq_false_iff_ne];omega
section
variable {ki si:Nat} {Bs:List AV} {t1 t2 t3:Tl} {c:Cd} {S:List Int} {H:List fq} {V:List Nat}
theorem Sr (h:KS ki si Bs t1 t2 t3 c S H) (x:Ins) {rest:List Ins} {t:Tl} (br:Int) (ht:t.pure=true) (hl:rest.length<=jj) (hn:x.n.size<=jj) :
  Sh md pfs 113 [.ptr ki 0,x.av,.sl (jf rest) t,.int br] ⟨H,V⟩ (λv s=>v = .int (lq c.bl.length c.gl.length x rest br) /\ ∃G,s=⟨H++G,V⟩) λ_ _=>False:=by
 obtain⟨op,a,b,n⟩:=x
 simp only at hn
 have hBl:=h.bl.len
 have hk:=jc h.k [fq.cells false [.int op,.int a,.int b,.str n]]
 obtain⟨_,rfl,cu⟩:=(Rb op).call rfl (by simp[gp,gz,oj])
 obtain⟨_,rfl,cn⟩:=(Ct n hn).call rfl (by simp[gp,gz,oj])
 have go:∀r,lq c.bl.length c.gl.length ⟨op,a,b,n⟩ rest br=r->(Sh md pfs 113 [.ptr ki 0,.agg [.int op,.int a,.int b,.str n],.sl (jf rest) t,.int br] ⟨H,V⟩ (λv s=>v = .int r /\ ∃G,s=⟨H++G,V⟩) λ_ _=>False)->Sh md pfs 113 [.ptr ki 0,Ins.av ⟨op,a,b,n⟩,.sl (jf rest) t,.int br] ⟨H,V⟩ (λv s=>v = .int (lq c.bl.length c.gl.length ⟨op,a,b,n⟩ rest br) /\ ∃G,s=⟨H++G,V⟩) λ_ _=>False:=by
  rintro r rfl h;exact h
 have bad:qu ⟨op,a,b,n⟩ rest br=false->lq c.bl.length c.gl.length ⟨op,a,b,n⟩ rest br=3:=λh=>by rw[lq,if_pos h]
 have f01:((false:Bool)==true)=false:=rfl
 have f10:((true:Bool)==false)=false:=rfl
 cases c1:decide (op<0)
 case true=>
  refine go 3 (bad (by simp only[decide_eq_true_eq]at c1;simp[qu];omega)) ?_
  refine j8 pf113_is (dh rfl) ?_
  simp only[pf113,↓fm,wall,simprocAttr,wH,c1]
  exact⟨_,rfl⟩
 cases c2:decide (op>14)
 case true=>
  refine go 3 (bad (by simp only[decide_eq_true_eq]at c2;simp[qu];omega)) ?_
  refine j8 pf113_is (dh rfl) ?_
  simp only[pf113,↓fm,wall,simprocAttr,wH,c1,c2]
  exact⟨_,rfl⟩
 cases c3:decide (a<0)
 case true=>
  refine go 3 (bad (by simp only[decide_eq_true_eq]at c3;simp[qu];omega)) ?_
  refine j8 pf113_is (dh rfl) ?_
  simp only[pf113,↓fm,wall,simprocAttr,wH,c1,c2,c3]
  exact⟨_,rfl⟩
 cases c4:decide (b<0)
 case true=>
  refine go 3 (bad (by simp only[decide_eq_true_eq]at c4;simp[qu];omega)) ?_
  refine j8 pf113_is (dh rfl) ?_
  simp only[pf113,↓fm,wall,simprocAttr,wH,c1,c2,c3,c4]
  exact⟨_,rfl⟩
 have k1:decide (0<=op)=true:=decide_eq_true (by simp only[decide_eq_false_iff_not]at c1;omega)
 have k2:decide (op<=14)=true:=decide_eq_true (by simp only[decide_eq_false_iff_not]at c2;omega)
 have k3:decide (0<=a)=true:=decide_eq_true (by simp only[decide_eq_false_iff_not]at c3;omega)
 have k4:decide (0<=b)=true:=decide_eq_true (by simp only[decide_eq_false_iff_not]at c4;omega)
 have e0:qu ⟨op,a,b,n⟩ rest br=((pw op||a==0)&&(pq op||b==0)&&(qm op||decide (n=⟨#[]⟩))&&((op==6)==decide (0<br))&&(op != 5||xp ⟨op,a,b,n⟩ rest)):=by
  rw[qu,Fs]
  simp only[k1,k2,k3,k4,Bool.true_and]
 have hf:qu ⟨op,a,b,n⟩ rest br=true->lq c.bl.length c.gl.length ⟨op,a,b,n⟩ rest br=if op=4/\isName n=false then 29 else if ld c.bl.length c.gl.length ⟨op,a,b,n⟩=true then 2 else 0:=λh=>by rw[lq,if_neg (by rw[h];simp)]
 have hop:=Pu op
 rcases hop with rfl|rfl|rfl|rfl|rfl|rfl|⟨o0,o1,o4,o5,o6,o7⟩
 ·replace cu:∀(pm:Bool) (s:ASt) (K KP:AV->ASt->Prop),CW (run md pfs) md pm s 152 [.int 0] K KP ()=K (.tup [.bool true,.bool false,.bool false]) s:=cu
  rw[show pw 0=true from rfl,show pq 0=false from rfl,show qm 0=false from rfl]at e0
  cases db:(b != 0)
  case true=>
   refine go 3 (bad (by rw[e0];simp only[bne_iff_ne,ne_eq]at db;simp[db])) ?_
   refine j8 pf113_is (dh rfl) ?_
   simp only[pf113,↓fm,wall,simprocAttr,wH,j9,ir,f01,f10,beq_self_eq_true,c1,c2,c3,c4,cu,db]
   exact⟨_,rfl⟩
  have eb:(b==0)=true:=by simpa[bne]using db
  cases dn:decide (n=⟨#[]⟩)
  case false=>
   refine go 3 (bad (by rw[e0,dn];simp)) ?_
   refine j8 pf113_is (dh rfl) ?_
   simp only[pf113,↓fm,wall,simprocAttr,wH,j9,ir,f01,f10,beq_self_eq_true,c1,c2,c3,c4,cu,db,dn]
   exact⟨_,rfl⟩
  cases dr:decide (br>0)
  case true=>
   refine go 3 (bad (by rw[e0];simp only[gt_iff_lt]at dr;rw[dr];simp)) ?_
   refine j8 pf113_is (dh rfl) ?_
   simp only[pf113,↓fm,wall,simprocAttr,wH,j9,ir,f01,f10,beq_self_eq_true,c1,c2,c3,c4,cu,db,dn,dr]
   exact⟨_,rfl⟩
  have dr':=dr
  simp only[gt_iff_lt]at dr'
  have e1:qu ⟨0,a,b,n⟩ rest br=true:=by rw[e0,eb,dn,dr'];simp
  have hf1:=hf e1
  refine go 0 (by rw[hf1,if_neg (by simp),if_neg (by simp[ld])]) ?_
  refine j8 pf113_is (dh rfl) ?_
  simp only[pf113,↓fm,wall,simprocAttr,wH,j9,ir,f01,f10,beq_self_eq_true,c1,c2,c3,c4,cu,db,dn,dr]
  exact⟨_,rfl⟩
 ·replace cu:∀(pm:Bool) (s:ASt) (K KP:AV->ASt->Prop),CW (run md pfs) md pm s 152 [.int 1] K KP ()=K (.tup [.bool true,.bool false,.bool false]) s:=cu
  rw[show pw 1=true from rfl,show pq 1=false from rfl,show qm 1=false from rfl]at e0
  cases db:(b != 0)
  case true=>
   refine go 3 (bad (by rw[e0];simp only[bne_iff_ne,ne_eq]at db;simp[db])) ?_
   refine j8 pf113_is (dh rfl) ?_
   simp only[pf113,↓fm,wall,simprocAttr,wH,j9,ir,f01,f10,beq_self_eq_true,c1,c2,c3,c4,cu,db]
   exact⟨_,rfl⟩
  have eb:(b==0)=true:=by simpa[bne]using db
  cases dn:decide (n=⟨#[]⟩)
  case false=>
   refine go 3 (bad (by rw[e0,dn];simp)) ?_
   refine j8 pf113_is (dh rfl) ?_
   simp only[pf113,↓fm,wall,simprocAttr,wH,j9,ir,f01,f10,beq_self_eq_true,c1,c2,c3,c4,cu,db,dn]
   exact⟨_,rfl⟩
  cases dr:decide (br>0)
  case true=>
   refine go 3 (bad (by rw[e0];simp only[gt_iff_lt]at dr;rw[dr];simp)) ?_
   refine j8 pf113_is (dh rfl) ?_
   simp only[pf113,↓fm,wall,simprocAttr,wH,j9,ir,f01,f10,beq_self_eq_true,c1,c2,c3,c4,cu,db,dn,dr]
   exact⟨_,rfl⟩
  have dr':=dr
  simp only[gt_iff_lt]at dr'
  have e1:qu ⟨1,a,b,n⟩ rest br=true:=by rw[e0,eb,dn,dr'];simp
  have hf1:=hf e1
  cases h1:decide (a>=((Bs.length:Nat):Int))
  ·refine go 0 (by rw[hf1,if_neg (by simp),if_neg (by simp[ld];simp at h1;omega)]) ?_
   refine j8 pf113_is (dh rfl) ?_
   simp only[pf113,↓fm,wall,simprocAttr,wH,j9,ir,f01,f10,beq_self_eq_true,c1,c2,c3,c4,cu,db,dn,dr,hk,h1]
   exact⟨_,rfl⟩
  ·refine go 2 (by rw[hf1,if_neg (by simp),if_pos (by simp[ld];simp at h1;omega)]) ?_
   refine j8 pf113_is (dh rfl) ?_
   simp only[pf113,↓fm,wall,simprocAttr,wH,j9,ir,f01,f10,beq_self_eq_true,c1,c2,c3,c4,cu,db,dn,dr,hk,h1]
   exact⟨_,rfl⟩
 ·replace cu:∀(pm:Bool) (s:ASt) (K KP:AV->ASt->Prop),CW (run md pfs) md pm s 152 [.int 4] K KP ()=K (.tup [.bool true,.bool true,.bool true]) s:=cu
  rw[show pw 4=true from rfl,show pq 4=true from rfl,show qm 4=true from rfl]at e0
  cases dr:decide (br>0)
  case true=>
   refine go 3 (bad (by rw[e0];simp only[gt_iff_lt]at dr;rw[dr];simp)) ?_
   refine j8 pf113_is (dh rfl) ?_
   simp only[pf113,↓fm,wall,simprocAttr,wH,j9,ir,f01,f10,beq_self_eq_true,c1,c2,c3,c4,cu,dr]
   exact⟨_,rfl⟩
  have dr':=dr
  simp only[gt_iff_lt]at dr'
  have e1:qu ⟨4,a,b,n⟩ rest br=true:=by rw[e0,dr'];simp
  have hf1:=hf e1
  cases hnm:isName n
  ·rw[hnm]at cn
   refine go 29 (by rw[hf1,if_pos ⟨rfl,hnm⟩]) ?_
   refine j8 pf113_is (dh rfl) ?_
   simp only[pf113,↓fm,wall,simprocAttr,wH,j9,ir,f01,f10,beq_self_eq_true,c1,c2,c3,c4,cu,dr,cn]
   exact⟨_,rfl⟩
  ·rw[hnm]at cn
   cases h32:decide (a>=32)
   ·refine go 0 (by rw[hf1,if_neg (by simp[hnm]),if_neg (by simp[ld];simpa using h32)]) ?_
    refine j8 pf113_is (dh rfl) ?_
    simp only[pf113,↓fm,wall,simprocAttr,wH,j9,ir,f01,f10,beq_self_eq_true,c1,c2,c3,c4,cu,dr,cn,h32]
    exact⟨_,rfl⟩
   ·refine go 2 (by rw[hf1,if_neg (by simp[hnm]),if_pos (by simp[ld];simpa using h32)]) ?_
    refine j8 pf113_is (dh rfl) ?_
    simp only[pf113,↓fm,wall,simprocAttr,wH,j9,ir,f01,f10,beq_self_eq_true,c1,c2,c3,c4,cu,dr,cn,h32]
    exact⟨_,rfl⟩
 ·replace cu:∀(pm:Bool) (s:ASt) (K KP:AV->ASt->Prop),CW (run md pfs) md pm s 152 [.int 5] K KP ()=K (.tup [.bool true,.bool false,.bool false]) s:=cu
  rw[show pw 5=true from rfl,show pq 5=false from rfl,show qm 5=false from rfl]at e0
  cases db:(b != 0)
  case true=>
   refine go 3 (bad (by rw[e0];simp only[bne_iff_ne,ne_eq]at db;simp[db])) ?_
   refine j8 pf113_is (dh rfl) ?_
   simp only[pf113,↓fm,wall,simprocAttr,wH,j9,ir,f01,f10,beq_self_eq_true,c1,c2,c3,c4,cu,db]
   exact⟨_,rfl⟩
  have eb:(b==0)=true:=by simpa[bne]using db
  cases dn:decide (n=⟨#[]⟩)
  case false=>
   refine go 3 (bad (by rw[e0,dn];simp)) ?_
   refine j8 pf113_is (dh rfl) ?_
   simp only[pf113,↓fm,wall,simprocAttr,wH,j9,ir,f01,f10,beq_self_eq_true,c1,c2,c3,c4,cu,db,dn]
   exact⟨_,rfl⟩
  cases dr:decide (br>0)
  case true=>
   refine go 3 (bad (by rw[e0];simp only[gt_iff_lt]at dr;rw[dr];simp)) ?_
   refine j8 pf113_is (dh rfl) ?_
   simp only[pf113,↓fm,wall,simprocAttr,wH,j9,ir,f01,f10,beq_self_eq_true,c1,c2,c3,c4,cu,db,dn,dr]
   exact⟨_,rfl⟩
  have dr':=dr
  simp only[gt_iff_lt]at dr'
  obtain⟨m,rfl⟩:∃m:Nat,a=m:=⟨a.toNat,by simp only[decide_eq_false_iff_not]at c3;omega⟩
  have e1:qu ⟨5,m,b,n⟩ rest br=xp ⟨5,m,b,n⟩ rest:=by
   rw[e0,eb,dn,dr'];simp
  rw[xp]at e1
  simp only[ew]at e1
  cases g1:decide ((m:Int)>32)
  case true=>
   refine go 3 (bad (by rw[e1];simp only[decide_eq_true_eq]at g1;simp;omega)) ?_
   refine j8 pf113_is (dh rfl) ?_
   simp only[pf113,↓fm,wall,simprocAttr,wH,j9,ir,f01,f10,beq_self_eq_true,c1,c2,c3,c4,cu,db,dn,dr,g1]
   exact⟨_,rfl⟩
  cases g2:decide ((m:Int)>rest.length)
  case true=>
   refine go 3 (bad (by rw[e1];simp only[decide_eq_true_eq]at g2;simp;omega)) ?_
   refine j8 pf113_is (dh rfl) ?_
   simp only[pf113,↓fm,wall,simprocAttr,wH,j9,ir,f01,f10,beq_self_eq_true,c1,c2,c3,c4,cu,db,dn,dr,g1,g2,gj]
   exact⟨_,rfl⟩
  have g1':(m:Int)<=32:=by simp only[decide_eq_false_iff_not]at g1;omega
  have g2':m<=rest.length:=by simp only[decide_eq_false_iff_not]at g2;omega
  have e2:qu ⟨5,m,b,n⟩ rest br=(rest.take m).all λy=>y.op==6:=by
   rw[e1,decide_eq_true g1',decide_eq_true (by omega)];simp
  have hres:lq c.bl.length c.gl.length ⟨5,m,b,n⟩ rest br=if ((rest.take m).all λy=>y.op==6)=true then 0 else 3:=by
   rw[lq,e2]
   cases ((rest.take m).all λy=>y.op==6)<;>simp[ld]
  generalize hr:(if ((rest.take m).all λy=>y.op==6)=true then(0:Int)else 3)=r at hres
  refine go r hres ?_
  refine j8 pf113_is (dh rfl) ?_
  simp only[pf113,↓fm,wall,simprocAttr,wH,j9,ir,f01,f10,beq_self_eq_true,c1,c2,c3,c4,cu,db,dn,dr,g1,g2,gj]
  refine j7 (λj=>m-j) (λj E H' T=>T=V/\H'=H++[.cells false [.int 5,.int m,.int b,.str n]]/\E 0 = .ptr ki 0/\E 2 = .sl (jf rest) t/\E 5 = .ptr H.length 0/\E 12 = .int j/\j<=m/\((rest.take j).all λy=>y.op==6)=true) ?_ 0 ?start
  case start=>exact⟨rfl,rfl,rfl,rfl,rfl,rfl,dk _,rfl⟩
  rintro j E H' T ⟨rfl,rfl,e0',e2',e5',e12,hj,hall⟩
  have hbx:(H++[fq.cells false [.int 5,.int m,.int b,.str n]])[H.length]? = some (.cells false [.int 5,.int m,.int b,.str n]):=by simp
  rcases dj j m with hlt|hge
  ·have hdec:decide ((j:Int)<m)=true:=by simpa using hlt
   obtain⟨y,y0,y4⟩:=D0 (show j<rest.length by omega)
   have htk:rest.take (j+1)=rest.take j++[y]:=by rw[bj,y0];rfl
   cases hy:(y.op != 6)
   ·have hy':(y.op==6)=true:=by simpa[bne]using hy
    simp only[↓fm,wall,simprocAttr,wH,e0',e2',e5',e12,hbx,hdec,y4,iq,gj,hy]
    exact jg ⟨j+1,by omega,rfl,rfl,e0',e2',e5',ij (by omega),by omega,by rw[htk,List.all_append,hall];simp[hy']⟩
   ·have hy':(y.op==6)=false:=by simpa[bne]using hy
    have hna:((rest.take m).all λy=>y.op==6)=false:=by
     rw[List.all_eq_false]
     exact⟨y,List.mem_take_iff_getElem.2 ⟨j,by omega,(List.getElem?_eq_some_iff.1 y0).2⟩,by rw[hy'];simp⟩
    rw[hna]at hr
    simp only[dz,if_false]at hr
    subst hr
    simp only[↓fm,wall,simprocAttr,wH,e0',e2',e5',e12,hbx,hdec,y4,iq,gj,hy]
    exact⟨_,rfl⟩
  ·have hji:j=m:=by omega
   have hdec:decide ((j:Int)<m)=false:=by simpa using hge
   rw[hji]at hall
   rw[hall]at hr
   simp only[if_true]at hr
   subst hr
   simp only[↓fm,wall,simprocAttr,wH,e0',e2',e5',e12,hbx,hdec]
   exact⟨_,rfl⟩
 ·replace cu:∀(pm:Bool) (s:ASt) (K KP:AV->ASt->Prop),CW (run md pfs) md pm s 152 [.int 6] K KP ()=K (.tup [.bool true,.bool true,.bool false]) s:=cu
  rw[show pw 6=true from rfl,show pq 6=true from rfl,show qm 6=false from rfl]at e0
  cases dn:decide (n=⟨#[]⟩)
  case false=>
   refine go 3 (bad (by rw[e0,dn];simp)) ?_
   refine j8 pf113_is (dh rfl) ?_
   simp only[pf113,↓fm,wall,simprocAttr,wH,j9,ir,f01,f10,beq_self_eq_true,c1,c2,c3,c4,cu,dn]
   exact⟨_,rfl⟩
  cases dr:decide (br>0)
  case false=>
   refine go 3 (bad (by rw[e0];simp only[gt_iff_lt]at dr;rw[dr];simp)) ?_
   refine j8 pf113_is (dh rfl) ?_
   simp only[pf113,↓fm,wall,simprocAttr,wH,j9,ir,f01,f10,beq_self_eq_true,c1,c2,c3,c4,cu,dn,dr]
   exact⟨_,rfl⟩
  have dr':=dr
  simp only[gt_iff_lt]at dr'
  have e1:qu ⟨6,a,b,n⟩ rest br=true:=by rw[e0,dn,dr'];simp
  have hf1:=hf e1
  cases h64:decide (b>64)
  ·cases h1:decide (a>=((Bs.length:Nat):Int))
   ·refine go 0 (by rw[hf1,if_neg (by simp),if_neg (by simp[ld];simp at h1 h64;omega)]) ?_
    refine j8 pf113_is (dh rfl) ?_
    simp only[pf113,↓fm,wall,simprocAttr,wH,j9,ir,f01,f10,beq_self_eq_true,c1,c2,c3,c4,cu,dn,dr,hk,h1,h64]
    exact⟨_,rfl⟩
   ·refine go 2 (by rw[hf1,if_neg (by simp),if_pos (by simp[ld];simp at h1 h64;omega)]) ?_
    refine j8 pf113_is (dh rfl) ?_
    simp only[pf113,↓fm,wall,simprocAttr,wH,j9,ir,f01,f10,beq_self_eq_true,c1,c2,c3,c4,cu,dn,dr,hk,h1,h64]
    exact⟨_,rfl⟩
  ·refine go 2 (by rw[hf1,if_neg (by simp),if_pos (by simp[ld];simp at h64;omega)]) ?_
   refine j8 pf113_is (dh rfl) ?_
   simp only[pf113,↓fm,wall,simprocAttr,wH,j9,ir,f01,f10,beq_self_eq_true,c1,c2,c3,c4,cu,dn,dr,hk,h64]
   exact⟨_,rfl⟩
 ·replace cu:∀(pm:Bool) (s:ASt) (K KP:AV->ASt->Prop),CW (run md pfs) md pm s 152 [.int 7] K KP ()=K (.tup [.bool true,.bool false,.bool false]) s:=cu
  rw[show pw 7=true from rfl,show pq 7=false from rfl,show qm 7=false from rfl]at e0
  cases db:(b != 0)
  case true=>
   refine go 3 (bad (by rw[e0];simp only[bne_iff_ne,ne_eq]at db;simp[db])) ?_
   refine j8 pf113_is (dh rfl) ?_
   simp only[pf113,↓fm,wall,simprocAttr,wH,j9,ir,f01,f10,beq_self_eq_true,c1,c2,c3,c4,cu,db]
   exact⟨_,rfl⟩
  have eb:(b==0)=true:=by simpa[bne]using db
  cases dn:decide (n=⟨#[]⟩)
  case false=>
   refine go 3 (bad (by rw[e0,dn];simp)) ?_
   refine j8 pf113_is (dh rfl) ?_
   simp only[pf113,↓fm,wall,simprocAttr,wH,j9,ir,f01,f10,beq_self_eq_true,c1,c2,c3,c4,cu,db,dn]
   exact⟨_,rfl⟩
  cases dr:decide (br>0)
  case true=>
   refine go 3 (bad (by rw[e0];simp only[gt_iff_lt]at dr;rw[dr];simp)) ?_
   refine j8 pf113_is (dh rfl) ?_
   simp only[pf113,↓fm,wall,simprocAttr,wH,j9,ir,f01,f10,beq_self_eq_true,c1,c2,c3,c4,cu,db,dn,dr]
   exact⟨_,rfl⟩
  have dr':=dr
  simp only[gt_iff_lt]at dr'
  have e1:qu ⟨7,a,b,n⟩ rest br=true:=by rw[e0,eb,dn,dr'];simp
  have hf1:=hf e1
  cases h1:decide (a>=((c.gl.length:Nat):Int))
  ·refine go 0 (by rw[hf1,if_neg (by simp),if_neg (by simp[ld];simp at h1;omega)]) ?_
   refine j8 pf113_is (dh rfl) ?_
   simp only[pf113,↓fm,wall,simprocAttr,wH,j9,ir,f01,f10,beq_self_eq_true,c1,c2,c3,c4,cu,db,dn,dr,hk,ja,h1]
   exact⟨_,rfl⟩
  ·refine go 2 (by rw[hf1,if_neg (by simp),if_pos (by simp[ld];simp at h1;omega)]) ?_
   refine j8 pf113_is (dh rfl) ?_
   simp only[pf113,↓fm,wall,simprocAttr,wH,j9,ir,f01,f10,beq_self_eq_true,c1,c2,c3,c4,cu,db,dn,dr,hk,ja,h1]
   exact⟨_,rfl⟩
 ·have u1:pw op=false:=by simp[pw,o0,o1,o4,o5,o6,o7]
  have u2:pq op=false:=by simp[pq,o4,o6]
  have u3:qm op=false:=by simp[qm,o4]
  rw[u1,u2,u3]at cu e0
  cases da:(a != 0)
  case true=>
   refine go 3 (bad (by rw[e0];simp only[bne_iff_ne,ne_eq]at da;simp[da])) ?_
   refine j8 pf113_is (dh rfl) ?_
   simp only[pf113,↓fm,wall,simprocAttr,wH,j9,ir,f01,f10,beq_self_eq_true,c1,c2,c3,c4,cu,o0,o1,o4,o5,o6,o7,da]
   exact⟨_,rfl⟩
  have ea:(a==0)=true:=by simpa[bne]using da
  cases db:(b != 0)
  case true=>
   refine go 3 (bad (by rw[e0];simp only[bne_iff_ne,ne_eq]at db;simp[db])) ?_
   refine j8 pf113_is (dh rfl) ?_
   simp only[pf113,↓fm,wall,simprocAttr,wH,j9,ir,f01,f10,beq_self_eq_true,c1,c2,c3,c4,cu,o0,o1,o4,o5,o6,o7,da,db]
   exact⟨_,rfl⟩
  have eb:(b==0)=true:=by simpa[bne]using db
  cases dn:decide (n=⟨#[]⟩)
  case false=>
   refine go 3 (bad (by rw[e0,dn];simp)) ?_
   refine j8 pf113_is (dh rfl) ?_
   simp only[pf113,↓fm,wall,simprocAttr,wH,j9,ir,f01,f10,beq_self_eq_true,c1,c2,c3,c4,cu,o0,o1,o4,o5,o6,o7,da,db,dn]
   exact⟨_,rfl⟩
  cases dr:decide (br>0)
  case true=>
   refine go 3 (bad (by rw[e0];simp only[gt_iff_lt]at dr;rw[dr];simp[o6])) ?_
   refine j8 pf113_is (dh rfl) ?_
   simp only[pf113,↓fm,wall,simprocAttr,wH,j9,ir,f01,f10,beq_self_eq_true,c1,c2,c3,c4,cu,o0,o1,o4,o5,o6,o7,da,db,dn,dr]
   exact⟨_,rfl⟩
  have dr':=dr
  simp only[gt_iff_lt]at dr'
  have e1:qu ⟨op,a,b,n⟩ rest br=true:=by rw[e0,ea,eb,dn,dr',o6];simp[bne,o5]
  have hf1:=hf e1
  refine go 0 (by rw[hf1,if_neg (λh=>ne_of_beq_false o4 h.1),if_neg (by simp[ld,o4,o1,o6,o7])]) ?_
  refine j8 pf113_is (dh rfl) ?_
  simp only[pf113,↓fm,wall,simprocAttr,wH,j9,ir,f01,f10,beq_self_eq_true,c1,c2,c3,c4,cu,o0,o1,o4,o5,o6,o7,da,db,dn,dr]
  exact⟨_,rfl⟩
end
end Go.Proofs.Eng
namespace Go.Proofs.Eng
open Go Go.Proofs
set_option maxRecDepth 100000
set_option maxHeartbeats 16000000
theorem D4 {n:Nat} {S S':List Int} {b m:Int} (e:s7 n S b m = .ok S'):S'.length=S.length:=by
 unfold s7 at e
 split at e
 ·cases e
 ·split at e
  ·cases e
  ·cases e;simp
theorem Vi {n:Nat} {S:List Int} {b m e:Int} (h:s7 n S b m = .error e):(e != 0)=true:=by
 unfold s7 at h
 split at h
 ·simp only[Except.error.injEq]at h;subst h;rfl
 ·split at h
  ·simp only[Except.error.injEq]at h;subst h;rfl
  ·cases h
theorem R3 (op:Int):op=0\/op=1\/op=3\/op=5\/op=6\/op=9\/op=10\/((op==0)=false/\(op==1)=false/\(op==3)=false/\(op==5)=false/\(op==6)=false/\(op==9)=false/\(op==10)=false):=by
 simp only[beq_eq_false_iff_ne];omega
section
variable {ki si:Nat} {Bs:List AV} {t1 t2 t3:Tl} {c:Cd} {S:List Int} {H:List fq} {V:List Nat}
theorem Lg (h:KS ki si Bs t1 t2 t3 c S H) {n:Nat} {l:List Ins} (hn:c.bl[n]? = some l) (hnm:∀x ∈ l,x.n.size<=jj) {W:Int} (hS:SB W S) (hW:0<=W) (hWl:W+l.length<=1000000000000000000) :
  Sh md pfs 74 [.ptr ki 0,.int n] ⟨H,V⟩ (λv s=>match zn c.bl.length c.gl.length n l S with | .error e=>v = .int e /\ ∃H',s=⟨H',V⟩ | .ok S'=>v = .int 0 /\ ∃H',s=⟨H',V⟩/\KS ki si Bs t1 t2 t3 c S' H'/\S'.length=S.length) λ_ _=>False:=by
 have hB:B62=4611686018427387904:=rfl
 have hk:=h.k
 have hs:=h.s
 have hBl:=h.bl.len
 have hnl:n<c.bl.length:=(List.getElem?_eq_some_iff.1 hn).1
 obtain⟨l',a,d0,_,_,d4,⟨tb,rfl,htb,hll⟩⟩:=h.bl.at (i:=n) (by omega)
 rw[hn]at d0;cases d0
 have hnS:n<S.length:=by rw[h.sl];exact hnl
 have hSn:(List.drop n (ints S)).head? = some (.int (S.getD n 0)):=by rw[List.head?_drop];exact Aw hnS
 have hnB:(n:Int)<Bs.length:=by omega
 have hnC:(n:Int)<c.bl.length:=by omega
 have hallB:(Bs.all λx=>x.cells.length==1)=true:=aw.2 λy hy=>by
  obtain⟨q,hq⟩:=List.mem_iff_getElem?.1 hy
  obtain⟨b,a,_,_,_,e4,⟨t,rfl,_⟩⟩:=h.bl.at (i:=q) (List.getElem?_eq_some_iff.1 hq).1
  rw[hq]at e4;cases e4;rfl
 have hkl:=fu hk
 have hsl:=fu hs
 refine j8 pf74_is (dh rfl) ?_
 rw[zn]
 cases d1:decide (S.getD n 0<0)
 case true=>
  rw[if_pos (by simpa using d1)]
  simp only[pf74,↓fm,wall,simprocAttr,wH,hk,hs,hnB,hnC,d4,hallB,Nat.mul_one,hSn,d1]
  exact⟨_,rfl⟩
 rw[if_neg (by simpa using d1)]
 have d1':¬S.getD n 0<0:=by simpa using d1
 generalize hS0:S.getD n 0=e0 at *
 have he0:e0<=W:=by
  rw[<- hS0,List.getD,aa hnS];exact hS _ (List.getElem_mem hnS)
 simp only[pf74,↓fm,wall,simprocAttr,wH,hk,hs,hnB,hnC,d4,hallB,Nat.mul_one,hSn,gj,d1]
 generalize hR:s9 c.bl.length c.gl.length n [] l ⟨S,e0,0,0,0⟩=R
 refine j7 (λj=>l.length-j) (λj E H1 V1=>j<=l.length/\V1=V/\E 0 = .ptr ki 0/\E 1 = .int n/\E 9 = .sl (jf l) tb/\E 10 = .int j /\ ∃t:Sk,E 5 = .int t.env/\E 6 = .int t.stack/\E 7 = .int t.binds/\E 8 = .int t.br/\KS ki si Bs t1 t2 t3 c t.S H1/\t.S.length=S.length/\Bd W e0 j t/\s9 c.bl.length c.gl.length n [] (l.drop j) t=R) ?_ 0 ?start
 case start=>exact⟨dk _,rfl,rfl,rfl,rfl,rfl,⟨S,e0,0,0,0⟩,rfl,rfl,rfl,rfl,h,rfl,⟨by simp,by simp,by simp,by simp,hS.mono (by show W<=W+64+((0:Nat):Int);omega)⟩,by rw[List.drop_zero];exact hR⟩
 rintro j E H1 V1 ⟨hj,rfl,e0',e1',e9,e10,t,e5,e6,e7,e8,k1,k2,k3,k5⟩
 rcases dj j l.length with hlt|hge
 ·have hdec:decide ((j:Int)<l.length)=true:=by simpa using hlt
  have hne0:l ≠ []:=by intro e;rw[e]at hlt;simp at hlt
  obtain⟨x,x0,x4⟩:=D0 hlt
  have hdr:l.drop j=x::l.drop (j+1):=by
   obtain⟨h,rfl⟩:=List.getElem?_eq_some_iff.1 x0
   exact bz h
  rw[hdr,s9,List.append_nil]at k5
  obtain⟨t',ht',hsu⟩:=G7 (es:=4) (al:=jf l) htb (n:=j+1) (m:=l.length) (by omega) (by rw[gj])
  have hsl2:(jf l).drop (j+1)=jf (l.drop (j+1)):=by simp[jf]
  rw[hsl2]at hsu
  have kA:=k1.app [.cells false [.int x.op,.int x.a,.int x.b,.str x.n]]
  obtain⟨_,_,⟨rfl,G,rfl⟩,cf⟩:=(Sr (V:=V1) kA x (rest:=l.drop (j+1)) (t:=t') t.br ht' (by rw[b8];omega) (hnm x (aq x0))).r8 rfl
  have wj:IntKind.i64.wrap ((j:Int)+1)=((j+1:Nat):Int):=by rw[gw (by unfold jn;omega)];omega
  have hj1:((j+1:Nat):Int)<=l.length:=by omega
  have hx2:(H1++[fq.cells false [.int x.op,.int x.a,.int x.b,.str x.n]]++G)[H1.length]? = some (.cells false [.int x.op,.int x.a,.int x.b,.str x.n]):=jc (by simp) G
  have kG:=kA.app G
  generalize H1++[fq.cells false [.int x.op,.int x.a,.int x.b,.str x.n]]++G=H2 at *
  have hs1:si ≠ H1.length:=by have:=fu k1.s;omega
  have w42:IntKind.i64.wrap (((l.length:Nat):Int)-1)=((l.length-1:Nat):Int):=by rw[gw (by unfold jn;omega)];omega
  have hlast:(((j:Nat):Int)==((l.length-1:Nat):Int))=(l.drop (j+1)).isEmpty:=by
   cases hd:l.drop (j+1)with
   | nil=>
    have:=List.drop_eq_nil_iff.1 hd
    rw[List.isEmpty_nil,beq_iff_eq];omega
   | cons y r=>
    have:=congrArg List.length hd
    rw[b8,ak]at this
    rw[List.isEmpty_cons,beq_eq_false_iff_ne];omega
  simp only[Ins.av]at cf
  cases hf:(lq c.bl.length c.gl.length x (l.drop (j+1)) t.br != 0)
  case true=>
   have hf':lq c.bl.length c.gl.length x (l.drop (j+1)) t.br ≠ 0:=by simpa[bne]using hf
   rw[stp,if_pos hf']at k5
   rw[if_neg hne0,<- k5]
   simp only[↓fm,wall,simprocAttr,wH,e0',e1',e9,e10,e5,e6,e7,e8,hdec,x4,iq,gj,wj,hj1,hsu,cf,hf]
   exact⟨_,rfl⟩
  have hf':lq c.bl.length c.gl.length x (l.drop (j+1)) t.br=0:=by simpa[bne]using hf
  obtain⟨⟨f1a,f2a,f3a,f4a⟩,f5a,f6a,f7a⟩:=I2 hf'
  obtain⟨⟨s1,s2⟩,⟨b1,b2⟩,hen,⟨r1,r2⟩,hsb⟩:=id k3
  obtain⟨_,rfl,ce⟩:=(Vu x f1a f2a).call rfl (by simp[gp,gz,oj,Ins.av,n6])
  simp only[Ins.av]at ce
  have hpp:0<=lk x/\0<=jq x/\jq x<=1:=by
   refine⟨?_, ?_, ?_⟩
   ·unfold lk;repeat' split<;>omega
   ·unfold jq;split<;>omega
   ·unfold jq;split<;>omega
  have hm:(if t.br-1>0 then t.br-1 else 0)=max 0 (t.br-1):=by split<;>omega
  have w1:IntKind.i64.wrap (t.br-1)=t.br-1:=gw (by unfold jn;omega)
  have f01:((false:Bool)==true)=false:=rfl
  have f10b:((true:Bool)==false)=false:=rfl
  obtain⟨po,hpo⟩:∃po,po=lk x:=⟨_,rfl⟩
  obtain⟨pu,hpu⟩:∃pu,pu=jq x:=⟨_,rfl⟩
  have hexe:∀S1,mb x (l.drop (j+1)) S1 t=if t.stack<po\/x.op=10/\t.binds=0 then .error 27 else if (x.op==3) != (l.drop (j+1)).isEmpty then .error 3 else if x.op=3/\(t.stack-po+pu ≠ 1\/jr x t.binds ≠ 0)then .error 27 else .ok ⟨S1,jr x t.env,t.stack-po+pu,jr x t.binds,brI x t.br⟩:=λS1=>by rw[hpo,hpu];rfl
  rw[<- hpo,<- hpu]at ce hpp
  clear hpo hpu
  rcases R3 x.op with h|h|h|h|h|h|h|⟨f0,f1,f3,f5,f6,f9,f10⟩
  ·have f0:(x.op==0)=true:=by rw[h];rfl
   have f1:(x.op==1)=false:=by rw[h];rfl
   have f3:(x.op==3)=false:=by rw[h];rfl
   have f5:(x.op==5)=false:=by rw[h];rfl
   have f6:(x.op==6)=false:=by rw[h];rfl
   have f9:(x.op==9)=false:=by rw[h];rfl
   have f10:(x.op==10)=false:=by rw[h];rfl
   cases da:decide (x.a>=t.env)
   case true=>
    have hstp:stp c.bl.length c.gl.length n x (l.drop (j+1)) t = .error 24:=by rw[stp,if_neg (by rw[hf'];simp),pd,if_neg (by omega),if_neg (by omega),if_pos ⟨h,by simpa using da⟩]
    rw[hstp]at k5
    simp only at k5
    rw[if_neg hne0,<- k5]
    simp only[↓fm,wall,simprocAttr,wH,e0',e1',e9,e10,e5,e6,e7,e8,hdec,x4,iq,gj,wj,hj1,hsu,cf,hf,hm,w1,w42,hlast,hx2,f0,f1,f3,f5,f6,f9,f10,da]
    exact⟨_,rfl⟩
   have href:pd n x t = .ok t.S:=by rw[pd,if_neg (by omega),if_neg (by omega),if_neg (λhh=>by have:=hh.2;simp only[ge_iff_le,decide_eq_false_iff_not]at da;omega)]
   have kR:=kG
   have hl1:t.S.length=t.S.length:=rfl
   have hex:=hexe t.S
   cases d1:decide (t.stack<po)
   case true=>
    have hstp:stp c.bl.length c.gl.length n x (l.drop (j+1)) t = .error 27:=by
     rw[stp,if_neg (by rw[hf'];simp),href]
     show mb x (l.drop (j+1)) t.S t=_
     rw[hex,if_pos (.inl (by simpa using d1))]
    rw[hstp]at k5
    simp only at k5
    rw[if_neg hne0,<- k5]
    simp only[↓fm,wall,simprocAttr,wH,e0',e1',e9,e10,e5,e6,e7,e8,hdec,x4,iq,gj,wj,hj1,hsu,cf,hf,hm,w1,w42,hlast,hx2,f0,f1,f3,f5,f6,f9,f10,da,ce,d1]
    exact⟨_,rfl⟩
   have d1':¬t.stack<po:=by simpa using d1
   have wP:IntKind.i64.wrap (t.stack-po)=t.stack-po:=gw (by unfold jn;omega)
   have wZ:IntKind.i64.wrap (t.stack-po+pu)=t.stack-po+pu:=gw (by unfold jn;omega)
   cases hlx:(l.drop (j+1)).isEmpty
   case true=>
    rw[hlx]at hlast
    have hstp:stp c.bl.length c.gl.length n x (l.drop (j+1)) t = .error 3:=by
     rw[stp,if_neg (by rw[hf'];simp),href]
     show mb x (l.drop (j+1)) t.S t=_
     rw[hex,if_neg (λhh=>hh.elim d1' λhh=>by have:=hh.1;omega),if_pos (by rw[f3,hlx];rfl)]
    rw[hstp]at k5
    simp only at k5
    rw[if_neg hne0,<- k5]
    simp only[↓fm,wall,simprocAttr,wH,e0',e1',e9,e10,e5,e6,e7,e8,hdec,x4,iq,gj,wj,hj1,hsu,cf,hf,hm,w1,w42,hlast,hx2,f0,f1,f3,f5,f6,f9,f10,da,ce,d1,wP,wZ,f01,f10b]
    exact⟨_,rfl⟩
   rw[hlx]at hlast
   have hstp:stp c.bl.length c.gl.length n x (l.drop (j+1)) t = .ok ⟨t.S,t.env,t.stack-po+pu,t.binds,max 0 (t.br-1)⟩:=by
    rw[stp,if_neg (by rw[hf'];simp),href]
    show mb x (l.drop (j+1)) t.S t=_
    rw[hex,if_neg (λhh=>hh.elim d1' λhh=>by have:=hh.1;omega),if_neg (by rw[f3,hlx];decide),if_neg (λhh=>by have:=hh.1;omega),show jr x t.env=t.env from by rw[jr,if_neg (by omega),if_neg (by omega)],show jr x t.binds=t.binds from by rw[jr,if_neg (by omega),if_neg (by omega)],show brI x t.br=max 0 (t.br-1)from by rw[brI,if_neg (by omega)]]
   have kB:=k3.step (by omega) he0 hstp
   rw[hstp]at k5
   simp only at k5
   simp only[↓fm,wall,simprocAttr,wH,e0',e1',e9,e10,e5,e6,e7,e8,hdec,x4,iq,gj,wj,hj1,hsu,cf,hf,hm,w1,w42,hlast,hx2,f0,f1,f3,f5,f6,f9,f10,da,ce,d1,wP,wZ,f01,f10b]
   exact jg ⟨j+1,by omega,by omega,rfl,e0',e1',e9,rfl,⟨t.S,t.env,t.stack-po+pu,t.binds,max 0 (t.br-1)⟩,by first|rfl|exact e5,rfl,by first|rfl|exact e7,rfl,kR,hl1.trans k2,kB,k5⟩
  ·have f0:(x.op==0)=false:=by rw[h];rfl
   have f1:(x.op==1)=true:=by rw[h];rfl
   have f3:(x.op==3)=false:=by rw[h];rfl
   have f5:(x.op==5)=false:=by rw[h];rfl
   have f6:(x.op==6)=false:=by rw[h];rfl
   have f9:(x.op==9)=false:=by rw[h];rfl
   have f10:(x.op==10)=false:=by rw[h];rfl
   have wE:IntKind.i64.wrap (t.env+1)=t.env+1:=gw (by unfold jn;omega)
   have href:pd n x t=s7 n t.S x.a (t.env+1):=by rw[pd,if_pos h]
   obtain⟨vr,sr,hr,cr⟩:=(N6 (V:=V1) kG (n:=n) (m:=t.env+1) f3a (f5a (.inl h))).r8 rfl
   cases hre:s7 n t.S x.a (t.env+1)with
   | error e=>
    have hne:=Vi hre
    rw[hre]at hr href
    obtain⟨rfl,rfl⟩:=hr
    have hstp:stp c.bl.length c.gl.length n x (l.drop (j+1)) t = .error e:=by rw[stp,if_neg (by rw[hf'];simp),href]
    rw[hstp]at k5
    simp only at k5
    rw[if_neg hne0,<- k5]
    simp only[↓fm,wall,simprocAttr,wH,e0',e1',e9,e10,e5,e6,e7,e8,hdec,x4,iq,gj,wj,hj1,hsu,cf,hf,hm,w1,w42,hlast,hx2,f0,f1,f3,f5,f6,f9,f10,wE,cr,hne]
    exact⟨_,rfl⟩
   | ok S1=>
    rw[hre]at hr href
    obtain⟨rfl,rfl⟩:=hr
    have kR:=kG.enter (D4 hre)
    have hl1:=D4 hre
    have hx3:=xe (x:=.cells false (ints S1)) (j:=si) hx2 hs1
    have hex:=hexe S1
    cases d1:decide (t.stack<po)
    case true=>
     have hstp:stp c.bl.length c.gl.length n x (l.drop (j+1)) t = .error 27:=by
      rw[stp,if_neg (by rw[hf'];simp),href]
      show mb x (l.drop (j+1)) S1 t=_
      rw[hex,if_pos (.inl (by simpa using d1))]
     rw[hstp]at k5
     simp only at k5
     rw[if_neg hne0,<- k5]
     simp only[↓fm,wall,simprocAttr,wH,e0',e1',e9,e10,e5,e6,e7,e8,hdec,x4,iq,gj,wj,hj1,hsu,cf,hf,hm,w1,w42,hlast,hx2,hx3,f0,f1,f3,f5,f6,f9,f10,wE,cr,ce,d1]
     exact⟨_,rfl⟩
    have d1':¬t.stack<po:=by simpa using d1
    have wP:IntKind.i64.wrap (t.stack-po)=t.stack-po:=gw (by unfold jn;omega)
    have wZ:IntKind.i64.wrap (t.stack-po+pu)=t.stack-po+pu:=gw (by unfold jn;omega)
    cases hlx:(l.drop (j+1)).isEmpty
    case true=>
     rw[hlx]at hlast
     have hstp:stp c.bl.length c.gl.length n x (l.drop (j+1)) t = .error 3:=by
      rw[stp,if_neg (by rw[hf'];simp),href]
      show mb x (l.drop (j+1)) S1 t=_
      rw[hex,if_neg (λhh=>hh.elim d1' λhh=>by have:=hh.1;omega),if_pos (by rw[f3,hlx];rfl)]
     rw[hstp]at k5
     simp only at k5
     rw[if_neg hne0,<- k5]
     simp only[↓fm,wall,simprocAttr,wH,e0',e1',e9,e10,e5,e6,e7,e8,hdec,x4,iq,gj,wj,hj1,hsu,cf,hf,hm,w1,w42,hlast,hx2,hx3,f0,f1,f3,f5,f6,f9,f10,wE,cr,ce,d1,wP,wZ,f01,f10b]
     exact⟨_,rfl⟩
    rw[hlx]at hlast
    have hstp:stp c.bl.length c.gl.length n x (l.drop (j+1)) t = .ok ⟨S1,t.env,t.stack-po+pu,t.binds,max 0 (t.br-1)⟩:=by
     rw[stp,if_neg (by rw[hf'];simp),href]
     show mb x (l.drop (j+1)) S1 t=_
     rw[hex,if_neg (λhh=>hh.elim d1' λhh=>by have:=hh.1;omega),if_neg (by rw[f3,hlx];decide),if_neg (λhh=>by have:=hh.1;omega),show jr x t.env=t.env from by rw[jr,if_neg (by omega),if_neg (by omega)],show jr x t.binds=t.binds from by rw[jr,if_neg (by omega),if_neg (by omega)],show brI x t.br=max 0 (t.br-1)from by rw[brI,if_neg (by omega)]]
    have kB:=k3.step (by omega) he0 hstp
    rw[hstp]at k5
    simp only at k5
    simp only[↓fm,wall,simprocAttr,wH,e0',e1',e9,e10,e5,e6,e7,e8,hdec,x4,iq,gj,wj,hj1,hsu,cf,hf,hm,w1,w42,hlast,hx2,hx3,f0,f1,f3,f5,f6,f9,f10,wE,cr,ce,d1,wP,wZ,f01,f10b]
    exact jg ⟨j+1,by omega,by omega,rfl,e0',e1',e9,rfl,⟨S1,t.env,t.stack-po+pu,t.binds,max 0 (t.br-1)⟩,by first|rfl|exact e5,rfl,by first|rfl|exact e7,rfl,kR,hl1.trans k2,kB,k5⟩
  ·have f0:(x.op==0)=false:=by rw[h];rfl
   have f1:(x.op==1)=false:=by rw[h];rfl
   have f3:(x.op==3)=true:=by rw[h];rfl
   have f5:(x.op==5)=false:=by rw[h];rfl
   have f6:(x.op==6)=false:=by rw[h];rfl
   have f9:(x.op==9)=false:=by rw[h];rfl
   have f10:(x.op==10)=false:=by rw[h];rfl
   have href:pd n x t = .ok t.S:=by rw[pd,if_neg (by omega),if_neg (by omega),if_neg (λhh=>by have:=hh.1;omega)]
   have kR:=kG
   have hl1:t.S.length=t.S.length:=rfl
   have hex:=hexe t.S
   cases d1:decide (t.stack<po)
   case true=>
    have hstp:stp c.bl.length c.gl.length n x (l.drop (j+1)) t = .error 27:=by
     rw[stp,if_neg (by rw[hf'];simp),href]
     show mb x (l.drop (j+1)) t.S t=_
     rw[hex,if_pos (.inl (by simpa using d1))]
    rw[hstp]at k5
    simp only at k5
    rw[if_neg hne0,<- k5]
    simp only[↓fm,wall,simprocAttr,wH,e0',e1',e9,e10,e5,e6,e7,e8,hdec,x4,iq,gj,wj,hj1,hsu,cf,hf,hm,w1,w42,hlast,hx2,f0,f1,f3,f5,f6,f9,f10,ce,d1]
    exact⟨_,rfl⟩
   have d1':¬t.stack<po:=by simpa using d1
   have wP:IntKind.i64.wrap (t.stack-po)=t.stack-po:=gw (by unfold jn;omega)
   have wZ:IntKind.i64.wrap (t.stack-po+pu)=t.stack-po+pu:=gw (by unfold jn;omega)
   cases hlx:(l.drop (j+1)).isEmpty
   case false=>
    rw[hlx]at hlast
    have hstp:stp c.bl.length c.gl.length n x (l.drop (j+1)) t = .error 3:=by
     rw[stp,if_neg (by rw[hf'];simp),href]
     show mb x (l.drop (j+1)) t.S t=_
     rw[hex,if_neg (λhh=>hh.elim d1' λhh=>by have:=hh.1;omega),if_pos (by rw[f3,hlx];rfl)]
    rw[hstp]at k5
    simp only at k5
    rw[if_neg hne0,<- k5]
    simp only[↓fm,wall,simprocAttr,wH,e0',e1',e9,e10,e5,e6,e7,e8,hdec,x4,iq,gj,wj,hj1,hsu,cf,hf,hm,w1,w42,hlast,hx2,f0,f1,f3,f5,f6,f9,f10,ce,d1,wP,wZ,f01,f10b]
    exact⟨_,rfl⟩
   rw[hlx]at hlast
   have henv:jr x t.binds=t.binds:=by rw[jr,if_neg (by omega),if_neg (by omega)]
   cases d3:(t.stack-po+pu != 1)
   case true=>
    have hstp:stp c.bl.length c.gl.length n x (l.drop (j+1)) t = .error 27:=by
     rw[stp,if_neg (by rw[hf'];simp),href]
     show mb x (l.drop (j+1)) t.S t=_
     rw[hex,if_neg (λhh=>hh.elim d1' λhh=>by have:=hh.1;omega),if_neg (by rw[f3,hlx];decide),if_pos ⟨h,.inl (by simpa[bne]using d3)⟩]
    rw[hstp]at k5
    simp only at k5
    rw[if_neg hne0,<- k5]
    simp only[↓fm,wall,simprocAttr,wH,e0',e1',e9,e10,e5,e6,e7,e8,hdec,x4,iq,gj,wj,hj1,hsu,cf,hf,hm,w1,w42,hlast,hx2,f0,f1,f3,f5,f6,f9,f10,ce,d1,wP,wZ,f01,f10b,d3]
    exact⟨_,rfl⟩
   cases d4:(t.binds != 0)
   case true=>
    have hstp:stp c.bl.length c.gl.length n x (l.drop (j+1)) t = .error 27:=by
     rw[stp,if_neg (by rw[hf'];simp),href]
     show mb x (l.drop (j+1)) t.S t=_
     rw[hex,if_neg (λhh=>hh.elim d1' λhh=>by have:=hh.1;omega),if_neg (by rw[f3,hlx];decide),if_pos ⟨h,.inr (by rw[henv];simpa[bne]using d4)⟩]
    rw[hstp]at k5
    simp only at k5
    rw[if_neg hne0,<- k5]
    simp only[↓fm,wall,simprocAttr,wH,e0',e1',e9,e10,e5,e6,e7,e8,hdec,x4,iq,gj,wj,hj1,hsu,cf,hf,hm,w1,w42,hlast,hx2,f0,f1,f3,f5,f6,f9,f10,ce,d1,wP,wZ,f01,f10b,d3,d4]
    exact⟨_,rfl⟩
   have hstp:stp c.bl.length c.gl.length n x (l.drop (j+1)) t = .ok ⟨t.S,t.env,t.stack-po+pu,t.binds,max 0 (t.br-1)⟩:=by
    rw[stp,if_neg (by rw[hf'];simp),href]
    show mb x (l.drop (j+1)) t.S t=_
    rw[hex,if_neg (λhh=>hh.elim d1' λhh=>by have:=hh.1;omega),if_neg (by rw[f3,hlx];decide),if_neg (λhh=>hh.2.elim (λq=>q (by simpa[bne]using d3)) λq=>q (by rw[henv];simpa[bne]using d4)),show jr x t.env=t.env from by rw[jr,if_neg (by omega),if_neg (by omega)],show jr x t.binds=t.binds from by rw[jr,if_neg (by omega),if_neg (by omega)],show brI x t.br=max 0 (t.br-1)from by rw[brI,if_neg (by omega)]]
   have kB:=k3.step (by omega) he0 hstp
   rw[hstp]at k5
   simp only at k5
   simp only[↓fm,wall,simprocAttr,wH,e0',e1',e9,e10,e5,e6,e7,e8,hdec,x4,iq,gj,wj,hj1,hsu,cf,hf,hm,w1,w42,hlast,hx2,f0,f1,f3,f5,f6,f9,f10,ce,d1,wP,wZ,d3,d4,f01,f10b]
   exact jg ⟨j+1,by omega,by omega,rfl,e0',e1',e9,rfl,⟨t.S,t.env,t.stack-po+pu,t.binds,max 0 (t.br-1)⟩,by first|rfl|exact e5,rfl,by first|rfl|exact e7,rfl,kR,hl1.trans k2,kB,k5⟩
  ·have f0:(x.op==0)=false:=by rw[h];rfl
   have f1:(x.op==1)=false:=by rw[h];rfl
   have f3:(x.op==3)=false:=by rw[h];rfl
   have f5:(x.op==5)=true:=by rw[h];rfl
   have f6:(x.op==6)=false:=by rw[h];rfl
   have f9:(x.op==9)=false:=by rw[h];rfl
   have f10:(x.op==10)=false:=by rw[h];rfl
   have href:pd n x t = .ok t.S:=by rw[pd,if_neg (by omega),if_neg (by omega),if_neg (λhh=>by have:=hh.1;omega)]
   have kR:=kG
   have hl1:t.S.length=t.S.length:=rfl
   have hex:=hexe t.S
   cases d1:decide (t.stack<po)
   case true=>
    have hstp:stp c.bl.length c.gl.length n x (l.drop (j+1)) t = .error 27:=by
     rw[stp,if_neg (by rw[hf'];simp),href]
     show mb x (l.drop (j+1)) t.S t=_
     rw[hex,if_pos (.inl (by simpa using d1))]
    rw[hstp]at k5
    simp only at k5
    rw[if_neg hne0,<- k5]
    simp only[↓fm,wall,simprocAttr,wH,e0',e1',e9,e10,e5,e6,e7,e8,hdec,x4,iq,gj,wj,hj1,hsu,cf,hf,hm,w1,w42,hlast,hx2,f0,f1,f3,f5,f6,f9,f10,ce,d1]
    exact⟨_,rfl⟩
   have d1':¬t.stack<po:=by simpa using d1
   have wP:IntKind.i64.wrap (t.stack-po)=t.stack-po:=gw (by unfold jn;omega)
   have wZ:IntKind.i64.wrap (t.stack-po+pu)=t.stack-po+pu:=gw (by unfold jn;omega)
   cases hlx:(l.drop (j+1)).isEmpty
   case true=>
    rw[hlx]at hlast
    have hstp:stp c.bl.length c.gl.length n x (l.drop (j+1)) t = .error 3:=by
     rw[stp,if_neg (by rw[hf'];simp),href]
     show mb x (l.drop (j+1)) t.S t=_
     rw[hex,if_neg (λhh=>hh.elim d1' λhh=>by have:=hh.1;omega),if_pos (by rw[f3,hlx];rfl)]
    rw[hstp]at k5
    simp only at k5
    rw[if_neg hne0,<- k5]
    simp only[↓fm,wall,simprocAttr,wH,e0',e1',e9,e10,e5,e6,e7,e8,hdec,x4,iq,gj,wj,hj1,hsu,cf,hf,hm,w1,w42,hlast,hx2,f0,f1,f3,f5,f6,f9,f10,ce,d1,wP,wZ,f01,f10b]
    exact⟨_,rfl⟩
   rw[hlx]at hlast
   have hstp:stp c.bl.length c.gl.length n x (l.drop (j+1)) t = .ok ⟨t.S,t.env,t.stack-po+pu,t.binds,x.a⟩:=by
    rw[stp,if_neg (by rw[hf'];simp),href]
    show mb x (l.drop (j+1)) t.S t=_
    rw[hex,if_neg (λhh=>hh.elim d1' λhh=>by have:=hh.1;omega),if_neg (by rw[f3,hlx];decide),if_neg (λhh=>by have:=hh.1;omega),show jr x t.env=t.env from by rw[jr,if_neg (by omega),if_neg (by omega)],show jr x t.binds=t.binds from by rw[jr,if_neg (by omega),if_neg (by omega)],show brI x t.br=x.a from by rw[brI,if_pos h]]
   have kB:=k3.step (by omega) he0 hstp
   rw[hstp]at k5
   simp only at k5
   simp only[↓fm,wall,simprocAttr,wH,e0',e1',e9,e10,e5,e6,e7,e8,hdec,x4,iq,gj,wj,hj1,hsu,cf,hf,hm,w1,w42,hlast,hx2,f0,f1,f3,f5,f6,f9,f10,ce,d1,wP,wZ,f01,f10b]
   exact jg ⟨j+1,by omega,by omega,rfl,e0',e1',e9,rfl,⟨t.S,t.env,t.stack-po+pu,t.binds,x.a⟩,by first|rfl|exact e5,rfl,by first|rfl|exact e7,rfl,kR,hl1.trans k2,kB,k5⟩
  ·have f0:(x.op==0)=false:=by rw[h];rfl
   have f1:(x.op==1)=false:=by rw[h];rfl
   have f3:(x.op==3)=false:=by rw[h];rfl
   have f5:(x.op==5)=false:=by rw[h];rfl
   have f6:(x.op==6)=true:=by rw[h];rfl
   have f9:(x.op==9)=false:=by rw[h];rfl
   have f10:(x.op==10)=false:=by rw[h];rfl
   have wE:IntKind.i64.wrap (t.env+x.b)=t.env+x.b:=gw (by unfold jn;omega)
   have href:pd n x t=s7 n t.S x.a (t.env+x.b):=by rw[pd,if_neg (by omega),if_pos h]
   obtain⟨vr,sr,hr,cr⟩:=(N6 (V:=V1) kG (n:=n) (m:=t.env+x.b) f3a (f5a (.inr h))).r8 rfl
   cases hre:s7 n t.S x.a (t.env+x.b)with
   | error e=>
    have hne:=Vi hre
    rw[hre]at hr href
    obtain⟨rfl,rfl⟩:=hr
    have hstp:stp c.bl.length c.gl.length n x (l.drop (j+1)) t = .error e:=by rw[stp,if_neg (by rw[hf'];simp),href]
    rw[hstp]at k5
    simp only at k5
    rw[if_neg hne0,<- k5]
    simp only[↓fm,wall,simprocAttr,wH,e0',e1',e9,e10,e5,e6,e7,e8,hdec,x4,iq,gj,wj,hj1,hsu,cf,hf,hm,w1,w42,hlast,hx2,f0,f1,f3,f5,f6,f9,f10,wE,cr,hne]
    exact⟨_,rfl⟩
   | ok S1=>
    rw[hre]at hr href
    obtain⟨rfl,rfl⟩:=hr
    have kR:=kG.enter (D4 hre)
    have hl1:=D4 hre
    have hx3:=xe (x:=.cells false (ints S1)) (j:=si) hx2 hs1
    have hex:=hexe S1
    cases d1:decide (t.stack<po)
    case true=>
     have hstp:stp c.bl.length c.gl.length n x (l.drop (j+1)) t = .error 27:=by
      rw[stp,if_neg (by rw[hf'];simp),href]
      show mb x (l.drop (j+1)) S1 t=_
      rw[hex,if_pos (.inl (by simpa using d1))]
     rw[hstp]at k5
     simp only at k5
     rw[if_neg hne0,<- k5]
     simp only[↓fm,wall,simprocAttr,wH,e0',e1',e9,e10,e5,e6,e7,e8,hdec,x4,iq,gj,wj,hj1,hsu,cf,hf,hm,w1,w42,hlast,hx2,hx3,f0,f1,f3,f5,f6,f9,f10,wE,cr,ce,d1]
     exact⟨_,rfl⟩
    have d1':¬t.stack<po:=by simpa using d1
    have wP:IntKind.i64.wrap (t.stack-po)=t.stack-po:=gw (by unfold jn;omega)
    have wZ:IntKind.i64.wrap (t.stack-po+pu)=t.stack-po+pu:=gw (by unfold jn;omega)
    cases hlx:(l.drop (j+1)).isEmpty
    case true=>
     rw[hlx]at hlast
     have hstp:stp c.bl.length c.gl.length n x (l.drop (j+1)) t = .error 3:=by
      rw[stp,if_neg (by rw[hf'];simp),href]
      show mb x (l.drop (j+1)) S1 t=_
      rw[hex,if_neg (λhh=>hh.elim d1' λhh=>by have:=hh.1;omega),if_pos (by rw[f3,hlx];rfl)]
     rw[hstp]at k5
     simp only at k5
     rw[if_neg hne0,<- k5]
     simp only[↓fm,wall,simprocAttr,wH,e0',e1',e9,e10,e5,e6,e7,e8,hdec,x4,iq,gj,wj,hj1,hsu,cf,hf,hm,w1,w42,hlast,hx2,hx3,f0,f1,f3,f5,f6,f9,f10,wE,cr,ce,d1,wP,wZ,f01,f10b]
     exact⟨_,rfl⟩
    rw[hlx]at hlast
    have hstp:stp c.bl.length c.gl.length n x (l.drop (j+1)) t = .ok ⟨S1,t.env,t.stack-po+pu,t.binds,max 0 (t.br-1)⟩:=by
     rw[stp,if_neg (by rw[hf'];simp),href]
     show mb x (l.drop (j+1)) S1 t=_
     rw[hex,if_neg (λhh=>hh.elim d1' λhh=>by have:=hh.1;omega),if_neg (by rw[f3,hlx];decide),if_neg (λhh=>by have:=hh.1;omega),show jr x t.env=t.env from by rw[jr,if_neg (by omega),if_neg (by omega)],show jr x t.binds=t.binds from by rw[jr,if_neg (by omega),if_neg (by omega)],show brI x t.br=max 0 (t.br-1)from by rw[brI,if_neg (by omega)]]
    have kB:=k3.step (by omega) he0 hstp
    rw[hstp]at k5
    simp only at k5
    simp only[↓fm,wall,simprocAttr,wH,e0',e1',e9,e10,e5,e6,e7,e8,hdec,x4,iq,gj,wj,hj1,hsu,cf,hf,hm,w1,w42,hlast,hx2,hx3,f0,f1,f3,f5,f6,f9,f10,wE,cr,ce,d1,wP,wZ,f01,f10b]
    exact jg ⟨j+1,by omega,by omega,rfl,e0',e1',e9,rfl,⟨S1,t.env,t.stack-po+pu,t.binds,max 0 (t.br-1)⟩,by first|rfl|exact e5,rfl,by first|rfl|exact e7,rfl,kR,hl1.trans k2,kB,k5⟩
  ·have f0:(x.op==0)=false:=by rw[h];rfl
   have f1:(x.op==1)=false:=by rw[h];rfl
   have f3:(x.op==3)=false:=by rw[h];rfl
   have f5:(x.op==5)=false:=by rw[h];rfl
   have f6:(x.op==6)=false:=by rw[h];rfl
   have f9:(x.op==9)=true:=by rw[h];rfl
   have f10:(x.op==10)=false:=by rw[h];rfl
   have href:pd n x t = .ok t.S:=by rw[pd,if_neg (by omega),if_neg (by omega),if_neg (λhh=>by have:=hh.1;omega)]
   have kR:=kG
   have hl1:t.S.length=t.S.length:=rfl
   have hex:=hexe t.S
   cases d1:decide (t.stack<po)
   case true=>
    have hstp:stp c.bl.length c.gl.length n x (l.drop (j+1)) t = .error 27:=by
     rw[stp,if_neg (by rw[hf'];simp),href]
     show mb x (l.drop (j+1)) t.S t=_
     rw[hex,if_pos (.inl (by simpa using d1))]
    rw[hstp]at k5
    simp only at k5
    rw[if_neg hne0,<- k5]
    simp only[↓fm,wall,simprocAttr,wH,e0',e1',e9,e10,e5,e6,e7,e8,hdec,x4,iq,gj,wj,hj1,hsu,cf,hf,hm,w1,w42,hlast,hx2,f0,f1,f3,f5,f6,f9,f10,ce,d1]
    exact⟨_,rfl⟩
   have d1':¬t.stack<po:=by simpa using d1
   have wP:IntKind.i64.wrap (t.stack-po)=t.stack-po:=gw (by unfold jn;omega)
   have wZ:IntKind.i64.wrap (t.stack-po+pu)=t.stack-po+pu:=gw (by unfold jn;omega)
   have wA:IntKind.i64.wrap (t.env+1)=t.env+1:=gw (by unfold jn;omega)
   have wB:IntKind.i64.wrap (t.binds+1)=t.binds+1:=gw (by unfold jn;omega)
   cases hlx:(l.drop (j+1)).isEmpty
   case true=>
    rw[hlx]at hlast
    have hstp:stp c.bl.length c.gl.length n x (l.drop (j+1)) t = .error 3:=by
     rw[stp,if_neg (by rw[hf'];simp),href]
     show mb x (l.drop (j+1)) t.S t=_
     rw[hex,if_neg (λhh=>hh.elim d1' λhh=>by have:=hh.1;omega),if_pos (by rw[f3,hlx];rfl)]
    rw[hstp]at k5
    simp only at k5
    rw[if_neg hne0,<- k5]
    simp only[↓fm,wall,simprocAttr,wH,e0',e1',e9,e10,e5,e6,e7,e8,hdec,x4,iq,gj,wj,hj1,hsu,cf,hf,hm,w1,w42,hlast,hx2,f0,f1,f3,f5,f6,f9,f10,ce,d1,wP,wZ,wA,wB,f01,f10b]
    exact⟨_,rfl⟩
   rw[hlx]at hlast
   have hstp:stp c.bl.length c.gl.length n x (l.drop (j+1)) t = .ok ⟨t.S,t.env+1,t.stack-po+pu,t.binds+1,max 0 (t.br-1)⟩:=by
    rw[stp,if_neg (by rw[hf'];simp),href]
    show mb x (l.drop (j+1)) t.S t=_
    rw[hex,if_neg (λhh=>hh.elim d1' λhh=>by have:=hh.1;omega),if_neg (by rw[f3,hlx];decide),if_neg (λhh=>by have:=hh.1;omega),show jr x t.env=t.env+1 from by rw[jr,if_pos h],show jr x t.binds=t.binds+1 from by rw[jr,if_pos h],show brI x t.br=max 0 (t.br-1)from by rw[brI,if_neg (by omega)]]
   have kB:=k3.step (by omega) he0 hstp
   rw[hstp]at k5
   simp only at k5
   simp only[↓fm,wall,simprocAttr,wH,e0',e1',e9,e10,e5,e6,e7,e8,hdec,x4,iq,gj,wj,hj1,hsu,cf,hf,hm,w1,w42,hlast,hx2,f0,f1,f3,f5,f6,f9,f10,ce,d1,wP,wZ,wA,wB,f01,f10b]
   exact jg ⟨j+1,by omega,by omega,rfl,e0',e1',e9,rfl,⟨t.S,t.env+1,t.stack-po+pu,t.binds+1,max 0 (t.br-1)⟩,by first|rfl|exact e5,rfl,by first|rfl|exact e7,rfl,kR,hl1.trans k2,kB,k5⟩
  ·have f0:(x.op==0)=false:=by rw[h];rfl
   have f1:(x.op==1)=false:=by rw[h];rfl
   have f3:(x.op==3)=false:=by rw[h];rfl
   have f5:(x.op==5)=false:=by rw[h];rfl
   have f6:(x.op==6)=false:=by rw[h];rfl
   have f9:(x.op==9)=false:=by rw[h];rfl
   have f10:(x.op==10)=true:=by rw[h];rfl
   have href:pd n x t = .ok t.S:=by rw[pd,if_neg (by omega),if_neg (by omega),if_neg (λhh=>by have:=hh.1;omega)]
   have kR:=kG
   have hl1:t.S.length=t.S.length:=rfl
   have hex:=hexe t.S
   cases d1:decide (t.stack<po)
   case true=>
    have hstp:stp c.bl.length c.gl.length n x (l.drop (j+1)) t = .error 27:=by
     rw[stp,if_neg (by rw[hf'];simp),href]
     show mb x (l.drop (j+1)) t.S t=_
     rw[hex,if_pos (.inl (by simpa using d1))]
    rw[hstp]at k5
    simp only at k5
    rw[if_neg hne0,<- k5]
    simp only[↓fm,wall,simprocAttr,wH,e0',e1',e9,e10,e5,e6,e7,e8,hdec,x4,iq,gj,wj,hj1,hsu,cf,hf,hm,w1,w42,hlast,hx2,f0,f1,f3,f5,f6,f9,f10,ce,d1]
    exact⟨_,rfl⟩
   have d1':¬t.stack<po:=by simpa using d1
   have wP:IntKind.i64.wrap (t.stack-po)=t.stack-po:=gw (by unfold jn;omega)
   have wZ:IntKind.i64.wrap (t.stack-po+pu)=t.stack-po+pu:=gw (by unfold jn;omega)
   cases d2:(t.binds==0)
   case true=>
    have hstp:stp c.bl.length c.gl.length n x (l.drop (j+1)) t = .error 27:=by
     rw[stp,if_neg (by rw[hf'];simp),href]
     show mb x (l.drop (j+1)) t.S t=_
     rw[hex,if_pos (.inr ⟨h,eq_of_beq d2⟩)]
    rw[hstp]at k5
    simp only at k5
    rw[if_neg hne0,<- k5]
    simp only[↓fm,wall,simprocAttr,wH,e0',e1',e9,e10,e5,e6,e7,e8,hdec,x4,iq,gj,wj,hj1,hsu,cf,hf,hm,w1,w42,hlast,hx2,f0,f1,f3,f5,f6,f9,f10,ce,d1,d2]
    exact⟨_,rfl⟩
   have d2':=ne_of_beq_false d2
   have wA:IntKind.i64.wrap (t.env-1)=t.env-1:=gw (by unfold jn;omega)
   have wB:IntKind.i64.wrap (t.binds-1)=t.binds-1:=gw (by unfold jn;omega)
   cases hlx:(l.drop (j+1)).isEmpty
   case true=>
    rw[hlx]at hlast
    have hstp:stp c.bl.length c.gl.length n x (l.drop (j+1)) t = .error 3:=by
     rw[stp,if_neg (by rw[hf'];simp),href]
     show mb x (l.drop (j+1)) t.S t=_
     rw[hex,if_neg (λhh=>hh.elim d1' λhh=>d2' hh.2),if_pos (by rw[f3,hlx];rfl)]
    rw[hstp]at k5
    simp only at k5
    rw[if_neg hne0,<- k5]
    simp only[↓fm,wall,simprocAttr,wH,e0',e1',e9,e10,e5,e6,e7,e8,hdec,x4,iq,gj,wj,hj1,hsu,cf,hf,hm,w1,w42,hlast,hx2,f0,f1,f3,f5,f6,f9,f10,ce,d1,wP,wZ,d2,wA,wB,f01,f10b]
    exact⟨_,rfl⟩
   rw[hlx]at hlast
   have hstp:stp c.bl.length c.gl.length n x (l.drop (j+1)) t = .ok ⟨t.S,t.env-1,t.stack-po+pu,t.binds-1,max 0 (t.br-1)⟩:=by
    rw[stp,if_neg (by rw[hf'];simp),href]
    show mb x (l.drop (j+1)) t.S t=_
    rw[hex,if_neg (λhh=>hh.elim d1' λhh=>d2' hh.2),if_neg (by rw[f3,hlx];decide),if_neg (λhh=>by have:=hh.1;omega),show jr x t.env=t.env-1 from by rw[jr,if_neg (by omega),if_pos h],show jr x t.binds=t.binds-1 from by rw[jr,if_neg (by omega),if_pos h],show brI x t.br=max 0 (t.br-1)from by rw[brI,if_neg (by omega)]]
   have kB:=k3.step (by omega) he0 hstp
   rw[hstp]at k5
   simp only at k5
   simp only[↓fm,wall,simprocAttr,wH,e0',e1',e9,e10,e5,e6,e7,e8,hdec,x4,iq,gj,wj,hj1,hsu,cf,hf,hm,w1,w42,hlast,hx2,f0,f1,f3,f5,f6,f9,f10,ce,d1,wP,wZ,d2,wA,wB,f01,f10b]
   exact jg ⟨j+1,by omega,by omega,rfl,e0',e1',e9,rfl,⟨t.S,t.env-1,t.stack-po+pu,t.binds-1,max 0 (t.br-1)⟩,by first|rfl|exact e5,rfl,by first|rfl|exact e7,rfl,kR,hl1.trans k2,kB,k5⟩
  ·have href:pd n x t = .ok t.S:=by rw[pd,if_neg (ne_of_beq_false f1),if_neg (ne_of_beq_false f6),if_neg (λhh=>ne_of_beq_false f0 hh.1)]
   have kR:=kG
   have hl1:t.S.length=t.S.length:=rfl
   have hex:=hexe t.S
   cases d1:decide (t.stack<po)
   case true=>
    have hstp:stp c.bl.length c.gl.length n x (l.drop (j+1)) t = .error 27:=by
     rw[stp,if_neg (by rw[hf'];simp),href]
     show mb x (l.drop (j+1)) t.S t=_
     rw[hex,if_pos (.inl (by simpa using d1))]
    rw[hstp]at k5
    simp only at k5
    rw[if_neg hne0,<- k5]
    simp only[↓fm,wall,simprocAttr,wH,e0',e1',e9,e10,e5,e6,e7,e8,hdec,x4,iq,gj,wj,hj1,hsu,cf,hf,hm,w1,w42,hlast,hx2,f0,f1,f3,f5,f6,f9,f10,ce,d1]
    exact⟨_,rfl⟩
   have d1':¬t.stack<po:=by simpa using d1
   have wP:IntKind.i64.wrap (t.stack-po)=t.stack-po:=gw (by unfold jn;omega)
   have wZ:IntKind.i64.wrap (t.stack-po+pu)=t.stack-po+pu:=gw (by unfold jn;omega)
   cases hlx:(l.drop (j+1)).isEmpty
   case true=>
    rw[hlx]at hlast
    have hstp:stp c.bl.length c.gl.length n x (l.drop (j+1)) t = .error 3:=by
     rw[stp,if_neg (by rw[hf'];simp),href]
     show mb x (l.drop (j+1)) t.S t=_
     rw[hex,if_neg (λhh=>hh.elim d1' λhh=>ne_of_beq_false f10 hh.1),if_pos (by rw[f3,hlx];rfl)]
    rw[hstp]at k5
    simp only at k5
    rw[if_neg hne0,<- k5]
    simp only[↓fm,wall,simprocAttr,wH,e0',e1',e9,e10,e5,e6,e7,e8,hdec,x4,iq,gj,wj,hj1,hsu,cf,hf,hm,w1,w42,hlast,hx2,f0,f1,f3,f5,f6,f9,f10,ce,d1,wP,wZ,f01,f10b]
    exact⟨_,rfl⟩
   rw[hlx]at hlast
   have hstp:stp c.bl.length c.gl.length n x (l.drop (j+1)) t = .ok ⟨t.S,t.env,t.stack-po+pu,t.binds,max 0 (t.br-1)⟩:=by
    rw[stp,if_neg (by rw[hf'];simp),href]
    show mb x (l.drop (j+1)) t.S t=_
    rw[hex,if_neg (λhh=>hh.elim d1' λhh=>ne_of_beq_false f10 hh.1),if_neg (by rw[f3,hlx];decide),if_neg (λhh=>ne_of_beq_false f3 hh.1),show jr x t.env=t.env from by rw[jr,if_neg (ne_of_beq_false f9),if_neg (ne_of_beq_false f10)],show jr x t.binds=t.binds from by rw[jr,if_neg (ne_of_beq_false f9),if_neg (ne_of_beq_false f10)],show brI x t.br=max 0 (t.br-1)from by rw[brI,if_neg (ne_of_beq_false f5)]]
   have kB:=k3.step (by omega) he0 hstp
   rw[hstp]at k5
   simp only at k5
   simp only[↓fm,wall,simprocAttr,wH,e0',e1',e9,e10,e5,e6,e7,e8,hdec,x4,iq,gj,wj,hj1,hsu,cf,hf,hm,w1,w42,hlast,hx2,f0,f1,f3,f5,f6,f9,f10,ce,d1,wP,wZ,f01,f10b]
   exact jg ⟨j+1,by omega,by omega,rfl,e0',e1',e9,rfl,⟨t.S,t.env,t.stack-po+pu,t.binds,max 0 (t.br-1)⟩,by first|rfl|exact e5,rfl,by first|rfl|exact e7,rfl,kR,hl1.trans k2,kB,k5⟩
 ·have hdec:decide ((j:Int)<l.length)=false:=by simpa using hge
  rw[bt (by omega),s9]at k5
  cases d2:(((l.length:Nat):Int)==0)
  ·have d2':=ne_of_beq_false d2
   rw[if_neg (λe=>d2' (by rw[e];rfl)),<- k5]
   simp only[↓fm,wall,simprocAttr,wH,e0',e1',e9,e10,hdec,gj,d2]
   exact⟨_,rfl,k1,k2⟩
  ·have:l=[]:=by have:=eq_of_beq d2;exact List.length_eq_zero_iff.1 (by omega)
   rw[if_pos this]
   simp only[↓fm,wall,simprocAttr,wH,e0',e1',e9,e10,hdec,gj,d2]
   exact⟨_,rfl⟩
end
end Go.Proofs.Eng
namespace Go.Proofs.Eng
open Go Go.Proofs Go.RowKit
set_option maxRecDepth 100000
theorem tf {B:Nat} {w w':World} (hB:Below B w w') {b o:Nat} {v:Value} (h:w.cell? ⟨b,o,none⟩=some v) (hb:b<B):w'.cell? ⟨b,o,none⟩=some v:=by
 rw[<- h];exact World.cell?_of_block (w:=w) (a:=⟨b,o,none⟩) (hB.block b hb)
theorem Iy {P:Program} {md:FuncId->Md} {pfs:FuncId->Option PF} (hS:Sound P (run md pfs)) {f:FuncId} {args:List AV} {PR:AV->Prop} (h:Out md pfs f args PR λ_=>False) (ha:gi args=true) {g:Gh} {s:ASt} {w:World} {vs:List Value} (hI:Inv g s w) (hr:ga g s w args vs) :
  Calls P f vs.toArray w λe w'=>∃v u,PR v/\e = .returned u/\Below w.heap.size w w'/\Rep g s w' v u:=by
 obtain⟨out,s1,out',h1,h2,h3⟩:=h
 have hInv0:Inv (Gh.empty λb o=>g.wr s b o) ⟨[],[]⟩ w:=Inv.empty hI.known λb o h=>hI.Cf h
 have hle:mh s s:=mh.refl s
 have hok:∀b o,¬g.wr s b o -> ¬(Gh.empty λb o=>g.wr s b o).wr ⟨[],[]⟩ b o:=by
  rintro b o hn (⟨i,l,h1,_⟩|⟨id,q,h1,_⟩|h1)
  ·simp[Gh.empty]at h1
  ·simp[Gh.empty]at h1
  ·exact hn h1
 have hfz:∀i b o,g.mu i=some b->mw s i -> ¬(Gh.empty λb o=>g.wr s b o).wr ⟨[],[]⟩ b o:=by
  rintro i b o hb hf (⟨i,l,h1,_⟩|⟨id,q,h1,_⟩|h1)
  ·simp[Gh.empty]at h1
  ·simp[Gh.empty]at h1
  ·exact yg hle hI i b o hb hf h1
 have hfold:args.foldl (frz 20) s=s:=D7 s ha
 have hr0:=xr (ok:=mw s) (wg 20) (ou hI hok (mw s) hfz 20 λh=>absurd h (by decide)) (wb s ha) hr (mh.refl s) (λi hi=>by rw[hfold]at hi;exact hi)
 obtain⟨_,hcalls⟩:=hS f args _ out s1 h1
 refine(hcalls _ w vs hInv0 hr0).mono ?_
 rintro e w' ⟨g1,hI1,hE1,hO1⟩
 have hblk:∀b,b<w.heap.size->w'.heap[b]? = w.heap[b]? := λb hb=>(hE1.obj b hb (by rintro(⟨i,h1⟩|⟨id,q,h1,_⟩)<;>simp[Gh.empty]at h1)).1
 have hbel:Below w.heap.size w w':=⟨hE1.os,hE1.tape,hE1.output.1,hE1.size,hblk⟩
 have hok1:∀b o,¬g1.wr s1 b o -> ¬g.wr s b o:=λb o hn hw=>hn (.inr (.inr (by rw[hE1.fb];exact hw)))
 have hfz1:∀i b o,g1.mu i=some b->True -> ¬g.wr s b o:=λi b o hb _ hw=>hI1.vg i b o hb (by rw[hE1.fb];exact hw)
 have pr:∀v v' u,gr 1020 s1 v=some v'->Rep g1 s1 w' v u->Rep g s w' v' u:=λv v' u hp hr=>ou hI1 hok1 (λ_=>True) hfz1 1020 (λ_ id q o h hw=>hI1.u9 id q o h (by rw[hE1.fb];exact hw)) v v' u s1 hp hr (mh.refl _) λ_ _=>trivial
 cases out with
 | ret v=>
  obtain⟨v',hv',rfl⟩:=fp h2
  cases e with
  | returned u=>exact⟨v',u,h3,rfl,hbel,pr v v' u hv' hO1⟩
  | panicked _=>exact hO1.elim
  | outgrown=>exact hO1.elim
 | pan v=>
  obtain⟨v',hv',rfl⟩:=fp h2
  exact h3.elim
end Go.Proofs.Eng
