/- The checker: the form of an instruction, the blocks it refers to. No conditions beyond those in the theorems. -/
import Derived.Test.YtflfmkkcnphdcaaGreatY8
set_option linter.all false
set_option linter.deprecated false
set_option linter.unnecessarySimpa false
set_option linter.unusedVariables false
set_option linter.unusedSimpArgs false
set_option linter.defProp false
namespace Go.Proofs.Eng
open Go Go.Proofs
set_option maxRecDepth 100000
set_option maxHeartbeats 16000000
theorem N2 {b:Nat}:∀{l:List Nat},b ∈ l->b<=l.sum
 | x::l,h=>by
  rcases List.mem_cons.1 h with rfl|h
  ·simp
  ·have:=N2 h;simp;omega
theorem xe {H:List fq} {k j:Nat} {o x:fq} (h:H[k]? = some o) (n:j ≠ k):(H.set j x)[k]? = some o:=by rw[b9,if_neg n];exact h
theorem Cx.mem {P:Ex->Int->Prop}:∀{l:List Ex} {zs:List Int},Cx P l zs -> ∀{x},x ∈ l -> ∃z,P x z
 | [],[],_,x,hx=>by cases hx
 | y::l,z::zs,h,x,hx=>by
  rcases List.mem_cons.1 hx with rfl|hx
  ·exact⟨z,h.1⟩
  ·exact Cx.mem h.2 hx
 | [],_::_,h,_,_=>h.elim
 | _::_,[],h,_,_=>h.elim
end Go.Proofs.Eng
namespace Go.Proofs.Eng
open Go Go.Proofs
set_option maxRecDepth 100000
theorem Bc {es:Nat} {al:List AV} {t:Tl} (ht:t.pure=true) {n:Nat} (hn:n<=al.length):∃t',t'.pure=true/\nh es al t 0 n none=some (.sl (al.take n) t'):=by
 unfold nh
 rw[if_pos ⟨dk _,hn⟩]
 simp only[List.drop_zero]
 split
 ·rename_i h
  exact⟨t,ht,by rw[h.2,List.take_length]⟩
 ·cases t with
  | tl _ _=>simp[Tl.pure]at ht
  | tls _ _ _=>simp[Tl.pure]at ht
  | _=>exact⟨_,rfl,rfl⟩
theorem G7 {es:Nat} {al:List AV} {t:Tl} (ht:t.pure=true) {n m:Nat} (hn:n<=m) (hm:m=al.length):∃t',t'.pure=true/\nh es al t n m none=some (.sl (al.drop n) t'):=by
 subst hm
 unfold nh
 rw[if_pos ⟨hn,di _⟩]
 simp only[List.take_length]
 split
 ·rename_i h
  exact⟨t,ht,by rw[h.1,List.drop_zero]⟩
 ·cases t with
  | tl _ _=>simp[Tl.pure]at ht
  | tls _ _ _=>simp[Tl.pure]at ht
  | _=>exact⟨_,rfl,rfl⟩
theorem or_some {p:Prop} {_:Decidable p} {c d:Bool} (h:(decide p||c)=d):∃b:Bool,(b=true ↔ p)/\(b||c)=d:=⟨_,decide_eq_true_iff,h⟩
theorem yt {l:List Int} {j:Nat} (h:j<l.length):∃x,l[j]? = some x/\(ints l)[j]? = some (.int x):=by
 obtain⟨x,a,_,c⟩:=S3 h;exact⟨x,a,c⟩
theorem C1 {l:List ByteArray} {j:Nat} (h:j<l.length):∃x,l[j]? = some x/\(nmA l)[j]? = some (.str x):=by
 have:=aa h
 exact⟨_,this,by rw[nmA,bh,this];rfl⟩
theorem D0 {l:List Ins} {j:Nat} (h:j<l.length):∃x,l[j]? = some x/\(jf l)[j]? = some (.agg [.int x.op,.int x.a,.int x.b,.str x.n]):=by
 have:=aa h
 exact⟨_,this,by rw[jf,bh,this];rfl⟩
theorem Rf (f:FuncId) (caps:List AV) (hf:md f = .pure) (hcaps:gi caps=true) (p:Int->Bool) {l:List Int} {t:Tl} (hl:l.length<=jj) (hg:∀x ∈ l,Out md pfs f (.int x::caps) (· = .bool (p x)) λ_=>False) :
  Out md pfs 161 [.sl (ints l) t,.fn f caps] (λv=>∃r:Int,v = .int r/\((r = -1/\l.any p=false) \/ ∃(j:Nat) (x:Int),r=j/\l[j]? = some x/\p x=true/\(l.take j).any p=false)) λ_=>False:=by
 refine jt pf161_is (dh rfl) ?_
 simp only[pf161,↓fm,wall,simprocAttr]
 refine j7 (λj=>l.length-j) (λj E H T=>E 0 = .sl (ints l) t/\E 1 = .fn f caps/\E 7 = .int l.length/\E 8 = .int j/\j<=l.length/\(l.take j).any p=false) ?_ 0 ?_
 ·rintro j E H T ⟨e0,e1,e7,e8,hj,hn⟩
  rcases dj j l.length with hlt|hge
  ·obtain⟨x,d0,d4⟩:=yt hlt
   have hdec:decide ((j:Int)<l.length)=true:=by simpa using hlt
   obtain⟨v,rfl,hc⟩:=(hg x (aq d0)).call hf (by simp[gp,gz,oj,hcaps])
   cases hp:p x
   ·simp only[↓fm,wall,simprocAttr,e0,e1,e7,e8,hdec,d4,mn,ig,hc,hp]
    exact jg ⟨j+1,by omega,e0,e1,e7,ij (by omega),by omega,by rw[bj,d0];simp[List.any_append,hn,hp]⟩
   ·simp only[↓fm,wall,simprocAttr,e0,e1,e7,e8,hdec,d4,mn,ig,hc,hp]
    exact⟨_,rfl,.inr ⟨j,x,rfl,d0,hp,hn⟩⟩
  ·have hdec:decide ((j:Int)<l.length)=false:=by simpa using hge
   simp only[↓fm,wall,simprocAttr,e0,e1,e7,e8,hdec,ig]
   rw[au (by omega)]at hn
   exact⟨_,rfl,.inl ⟨rfl,hn⟩⟩
 ·exact⟨rfl,rfl,by rw[<- ig l];rfl,rfl,dk _,rfl⟩
theorem Rn {p:Int->Bool} (f:FuncId) (caps:List AV) (hf:md f = .pure) (hcaps:gi caps=true) {l:List Int} {t:Tl} (ht:t.pure=true) (hl:l.length<=jj) (hg:∀x ∈ l,Out md pfs f (.int x::caps) (· = .bool (p x)) λ_=>False):Out md pfs 132 [.sl (ints l) t,.fn f caps] (· = .bool (l.any p)) λ_=>False:=by
 refine jt pf132_is (dh rfl) ?_
 obtain⟨v,⟨r,rfl,hr⟩,hc⟩:=(Rf f caps hf hcaps p (t:=t) hl hg).call rfl (by simp[gp,gz,kl,Aq,ht,mv,hcaps])
 have hd:decide (r>=0)=l.any p:=by
  rcases hr with⟨rfl,h2⟩|⟨j,x,rfl,h2,h3,_⟩
  ·rw[h2];rfl
  ·have:l.any p=true:=List.any_eq_true.2 ⟨x,aq h2,h3⟩
   rw[this];simp
 simp only[pf132,↓fm,wall,simprocAttr,hc,hd]
theorem S6 (f:FuncId) (caps:List AV) (hf:md f = .pure) (hcaps:gi caps=true) (p:ByteArray->Bool) {l:List ByteArray} {t:Tl} (hl:l.length<=jj) (hg:∀x ∈ l,Out md pfs f (.str x::caps) (· = .bool (p x)) λ_=>False) :
  Out md pfs 163 [.sl (nmA l) t,.fn f caps] (λv=>∃r:Int,v = .int r/\((r = -1/\l.any p=false) \/ ∃(j:Nat) (x:ByteArray),r=j/\l[j]? = some x/\p x=true/\(l.take j).any p=false)) λ_=>False:=by
 refine jt pf163_is (dh rfl) ?_
 simp only[pf163,↓fm,wall,simprocAttr]
 refine j7 (λj=>l.length-j) (λj E H T=>E 0 = .sl (nmA l) t/\E 1 = .fn f caps/\E 7 = .int l.length/\E 8 = .int j/\j<=l.length/\(l.take j).any p=false) ?_ 0 ?_
 ·rintro j E H T ⟨e0,e1,e7,e8,hj,hn⟩
  rcases dj j l.length with hlt|hge
  ·obtain⟨x,d0,d4⟩:=C1 hlt
   have hdec:decide ((j:Int)<l.length)=true:=by simpa using hlt
   obtain⟨v,rfl,hc⟩:=(hg x (aq d0)).call hf (by simp[gp,gz,oj,hcaps])
   cases hp:p x
   ·simp only[↓fm,wall,simprocAttr,e0,e1,e7,e8,hdec,d4,r9,ja,hc,hp]
    exact jg ⟨j+1,by omega,e0,e1,e7,ij (by omega),by omega,by rw[bj,d0];simp[List.any_append,hn,hp]⟩
   ·simp only[↓fm,wall,simprocAttr,e0,e1,e7,e8,hdec,d4,r9,ja,hc,hp]
    exact⟨_,rfl,.inr ⟨j,x,rfl,d0,hp,hn⟩⟩
  ·have hdec:decide ((j:Int)<l.length)=false:=by simpa using hge
   simp only[↓fm,wall,simprocAttr,e0,e1,e7,e8,hdec,ja]
   rw[au (by omega)]at hn
   exact⟨_,rfl,.inl ⟨rfl,hn⟩⟩
 ·exact⟨rfl,rfl,by rw[<- ja l];rfl,rfl,dk _,rfl⟩
theorem Vt {p:ByteArray->Bool} (f:FuncId) (caps:List AV) (hf:md f = .pure) (hcaps:gi caps=true) {l:List ByteArray} {t:Tl} (ht:t.pure=true) (hl:l.length<=jj) (hg:∀x ∈ l,Out md pfs f (.str x::caps) (· = .bool (p x)) λ_=>False):Out md pfs 135 [.sl (nmA l) t,.fn f caps] (· = .bool (l.any p)) λ_=>False:=by
 refine jt pf135_is (dh rfl) ?_
 obtain⟨v,⟨r,rfl,hr⟩,hc⟩:=(S6 f caps hf hcaps p (t:=t) hl hg).call rfl (by simp[gp,gz,kl,Aq,ht,xf,hcaps])
 have hd:decide (r>=0)=l.any p:=by
  rcases hr with⟨rfl,h2⟩|⟨j,x,rfl,h2,h3,_⟩
  ·rw[h2];rfl
  ·have:l.any p=true:=List.any_eq_true.2 ⟨x,aq h2,h3⟩
   rw[this];simp
 simp only[pf135,↓fm,wall,simprocAttr,hc,hd]
theorem Qw (f:FuncId) (caps:List AV) (hf:md f = .pure) (hcaps:gi caps=true) (p:Ins->Bool) {l:List Ins} {t:Tl} (hl:l.length<=jj) (hg:∀x ∈ l,Out md pfs f (.agg [.int x.op,.int x.a,.int x.b,.str x.n]::caps) (· = .bool (p x)) λ_=>False) :
  Out md pfs 185 [.sl (jf l) t,.fn f caps] (λv=>∃r:Int,v = .int r/\((r = -1/\l.any p=false) \/ ∃(j:Nat) (x:Ins),r=j/\l[j]? = some x/\p x=true/\(l.take j).any p=false)) λ_=>False:=by
 refine jt pf185_is (dh rfl) ?_
 simp only[pf185,↓fm,wall,simprocAttr]
 refine j7 (λj=>l.length-j) (λj E H T=>E 0 = .sl (jf l) t/\E 1 = .fn f caps/\E 7 = .int l.length/\E 8 = .int j/\j<=l.length/\(l.take j).any p=false) ?_ 0 ?_
 ·rintro j E H T ⟨e0,e1,e7,e8,hj,hn⟩
  rcases dj j l.length with hlt|hge
  ·obtain⟨x,d0,d4⟩:=D0 hlt
   have hdec:decide ((j:Int)<l.length)=true:=by simpa using hlt
   obtain⟨v,rfl,hc⟩:=(hg x (aq d0)).call hf (by simp[gp,gz,n6,oj,hcaps])
   cases hp:p x
   ·simp only[↓fm,wall,simprocAttr,e0,e1,e7,e8,hdec,d4,iq,gj,hc,hp]
    exact jg ⟨j+1,by omega,e0,e1,e7,ij (by omega),by omega,by rw[bj,d0];simp[List.any_append,hn,hp]⟩
   ·simp only[↓fm,wall,simprocAttr,e0,e1,e7,e8,hdec,d4,iq,gj,hc,hp]
    exact⟨_,rfl,.inr ⟨j,x,rfl,d0,hp,hn⟩⟩
  ·have hdec:decide ((j:Int)<l.length)=false:=by simpa using hge
   simp only[↓fm,wall,simprocAttr,e0,e1,e7,e8,hdec,gj]
   rw[au (by omega)]at hn
   exact⟨_,rfl,.inl ⟨rfl,hn⟩⟩
 ·exact⟨rfl,rfl,by rw[<- gj l];rfl,rfl,dk _,rfl⟩
theorem S5 {p:Ins->Bool} (f:FuncId) (caps:List AV) (hf:md f = .pure) (hcaps:gi caps=true) {l:List Ins} {t:Tl} (ht:t.pure=true) (hl:l.length<=jj) (hg:∀x ∈ l,Out md pfs f (.agg [.int x.op,.int x.a,.int x.b,.str x.n]::caps) (· = .bool (p x)) λ_=>False):Out md pfs 182 [.sl (jf l) t,.fn f caps] (· = .bool (l.any p)) λ_=>False:=by
 refine jt pf182_is (dh rfl) ?_
 obtain⟨v,⟨r,rfl,hr⟩,hc⟩:=(Qw f caps hf hcaps p (t:=t) hl hg).call rfl (by simp[gp,gz,kl,Aq,ht,yh,hcaps])
 have hd:decide (r>=0)=l.any p:=by
  rcases hr with⟨rfl,h2⟩|⟨j,x,rfl,h2,h3,_⟩
  ·rw[h2];rfl
  ·have:l.any p=true:=List.any_eq_true.2 ⟨x,aq h2,h3⟩
   rw[this];simp
 simp only[pf182,↓fm,wall,simprocAttr,hc,hd]
theorem Pg {l:List Int} {t:Tl} (x:Int) (hl:l.length<=jj) :
  Out md pfs 179 [.sl (ints l) t,.int x] (λv=>∃r:Int,v = .int r/\((r = -1/\x ∉ l) \/ ∃j:Nat,r=j/\l[j]? = some x/\x ∉ l.take j)) λ_=>False:=by
 refine jt pf179_is (dh rfl) ?_
 simp only[pf179,↓fm,wall,simprocAttr]
 refine j7 (λj=>l.length-j) (λj E H T=>E 0 = .sl (ints l) t/\E 1 = .int x/\E 7 = .int l.length/\E 8 = .int j/\j<=l.length/\x ∉ l.take j) ?_ 0 ?_
 ·rintro j E H T ⟨e0,e1,e7,e8,hj,hn⟩
  rcases dj j l.length with hlt|hge
  ·obtain⟨y,d0,d4⟩:=yt hlt
   have hdec:decide ((j:Int)<l.length)=true:=by simpa using hlt
   by_cases hxy:x=y
   ·subst hxy
    simp only[↓fm,wall,simprocAttr,e0,e1,e7,e8,hdec,d4,mn,ig,j9,ir,decide_true,beq_self_eq_true]
    exact⟨_,rfl,.inr ⟨j,rfl,d0,hn⟩⟩
   ·have hb:(x==y)=false:=beq_false_of_ne hxy
    have hd:decide (x=y)=false:=decide_eq_false hxy
    simp only[↓fm,wall,simprocAttr,e0,e1,e7,e8,hdec,d4,mn,ig,j9,ir,hb,hd]
    exact jg ⟨j+1,by omega,e0,e1,e7,ij (by omega),by omega,by rw[bj,d0];simp[hn,hxy]⟩
  ·have hdec:decide ((j:Int)<l.length)=false:=by simpa using hge
   simp only[↓fm,wall,simprocAttr,e0,e1,e7,e8,hdec,ig]
   rw[au (by omega)]at hn
   exact⟨_,rfl,.inl ⟨rfl,hn⟩⟩
 ·exact⟨rfl,rfl,by rw[<- ig l];rfl,rfl,dk _,by simp⟩
theorem P8 {l:List Int} {t:Tl} (x:Int) (ht:t.pure=true) (hl:l.length<=jj) {b:Bool} (hbx:b=true ↔ x ∈ l):Out md pfs 162 [.sl (ints l) t,.int x] (· = .bool b) λ_=>False:=by
 refine jt pf162_is (dh rfl) ?_
 obtain⟨v,⟨r,rfl,hr⟩,hc⟩:=(Pg (l:=l) (t:=t) x hl).call rfl (by simp[gp,gz,kl,oj,ht,mv])
 have hd:decide (r>=0)=b:=by
  rcases hr with⟨rfl,h2⟩|⟨j,rfl,h2,_⟩
  ·cases b with
   | false=>rfl
   | true=>exact absurd (hbx.1 rfl) h2
  ·rw[hbx.2 (aq h2)];simp
 simp only[pf162,↓fm,wall,simprocAttr,hc,hd]
theorem Uz {l:List Int} {t:Tl} (ht:t.pure=true) (hl:l.length<=jj):Out md pfs 134 [.sl (ints l) t] (· = .bool (lj [] l)) λ_=>False:=by
 refine jt pf134_is (dh rfl) ?_
 simp only[pf134,↓fm,wall,simprocAttr]
 refine j7 (λj=>l.length-j) (λj E H T=>E 0 = .sl (ints l) t/\E 5 = .sl (ints l) t/\E 6 = .int l.length/\E 7 = .int j/\j<=l.length/\lj (l.take j) (l.drop j)=lj [] l) ?_ 0 ⟨rfl,rfl,by rw[<- ig l];rfl,rfl,dk _,rfl⟩
 rintro j E H T ⟨e0,e5,e6,e7,hj,hn⟩
 rcases dj j l.length with hlt|hge
 ·obtain⟨y,d0,d4⟩:=yt hlt
  have hdec:decide ((j:Int)<l.length)=true:=by simpa using hlt
  have hdr:l.drop j=y::l.drop (j+1):=by
   obtain⟨h,rfl⟩:=List.getElem?_eq_some_iff.1 d0
   exact bz h
  have htk:l.take (j+1)=l.take j++[y]:=by rw[bj,d0];rfl
  rw[hdr,lj,<- htk]at hn
  have htl:(l.take j).length=j:=by rw[b7];omega
  have hsl:(ints l).take j=ints (l.take j):=by simp[ints]
  have hj2:(j:Int)<=(l.length:Nat):=by omega
  obtain⟨t',ht',hs⟩:=Bc (es:=1) (al:=ints l) ht (n:=j) (by rw[ig];exact hj)
  rw[hsl]at hs
  obtain⟨b,hb,hn⟩:=or_some hn
  obtain⟨_,rfl,hc⟩:=(P8 (l:=l.take j) (t:=t') y ht' (by omega) (b:=b) hb).call rfl (by simp[gp,gz,kl,oj,mv,ht'])
  cases b
  ·simp only[↓fm,wall,simprocAttr,e0,e5,e6,e7,hdec,d4,mn,ig,hj2,hs,hc]
   exact jg ⟨j+1,by omega,e0,e5,e6,ij (by omega),by omega,by simpa using hn⟩
  ·simp only[↓fm,wall,simprocAttr,e0,e5,e6,e7,hdec,d4,mn,ig,hj2,hs,hc]
   rw[<- hn];rfl
 ·have hdec:decide ((j:Int)<l.length)=false:=by simpa using hge
  simp only[↓fm,wall,simprocAttr,e0,e5,e6,e7,hdec]
  rw[bt (by omega),lj]at hn
  rw[<- hn]
theorem Qm {l:List ByteArray} {t:Tl} (x:ByteArray) (hl:l.length<=jj) :
  Out md pfs 180 [.sl (nmA l) t,.str x] (λv=>∃r:Int,v = .int r/\((r = -1/\x ∉ l) \/ ∃j:Nat,r=j/\l[j]? = some x/\x ∉ l.take j)) λ_=>False:=by
 refine jt pf180_is (dh rfl) ?_
 simp only[pf180,↓fm,wall,simprocAttr]
 refine j7 (λj=>l.length-j) (λj E H T=>E 0 = .sl (nmA l) t/\E 1 = .str x/\E 7 = .int l.length/\E 8 = .int j/\j<=l.length/\x ∉ l.take j) ?_ 0 ?_
 ·rintro j E H T ⟨e0,e1,e7,e8,hj,hn⟩
  rcases dj j l.length with hlt|hge
  ·obtain⟨y,d0,d4⟩:=C1 hlt
   have hdec:decide ((j:Int)<l.length)=true:=by simpa using hlt
   by_cases hxy:x=y
   ·subst hxy
    simp only[↓fm,wall,simprocAttr,e0,e1,e7,e8,hdec,d4,r9,ja,j9,ir,decide_true,beq_self_eq_true]
    exact⟨_,rfl,.inr ⟨j,rfl,d0,hn⟩⟩
   ·have hd:decide (x=y)=false:=decide_eq_false hxy
    simp only[↓fm,wall,simprocAttr,e0,e1,e7,e8,hdec,d4,r9,ja,j9,ir,hd]
    exact jg ⟨j+1,by omega,e0,e1,e7,ij (by omega),by omega,by rw[bj,d0];simp[hn,hxy]⟩
  ·have hdec:decide ((j:Int)<l.length)=false:=by simpa using hge
   simp only[↓fm,wall,simprocAttr,e0,e1,e7,e8,hdec,ja]
   rw[au (by omega)]at hn
   exact⟨_,rfl,.inl ⟨rfl,hn⟩⟩
 ·exact⟨rfl,rfl,by rw[<- ja l];rfl,rfl,dk _,by simp⟩
theorem Pf {l:List ByteArray} {t:Tl} (x:ByteArray) (ht:t.pure=true) (hl:l.length<=jj) {b:Bool} (hbx:b=true ↔ x ∈ l):Out md pfs 164 [.sl (nmA l) t,.str x] (· = .bool b) λ_=>False:=by
 refine jt pf164_is (dh rfl) ?_
 obtain⟨v,⟨r,rfl,hr⟩,hc⟩:=(Qm (l:=l) (t:=t) x hl).call rfl (by simp[gp,gz,kl,oj,ht,xf])
 have hd:decide (r>=0)=b:=by
  rcases hr with⟨rfl,h2⟩|⟨j,rfl,h2,_⟩
  ·cases b with
   | false=>rfl
   | true=>exact absurd (hbx.1 rfl) h2
  ·rw[hbx.2 (aq h2)];simp
 simp only[pf164,↓fm,wall,simprocAttr,hc,hd]
theorem Ss {l:List ByteArray} {t:Tl} (ht:t.pure=true) (hl:l.length<=jj):Out md pfs 137 [.sl (nmA l) t] (· = .bool (lj [] l)) λ_=>False:=by
 refine jt pf137_is (dh rfl) ?_
 simp only[pf137,↓fm,wall,simprocAttr]
 refine j7 (λj=>l.length-j) (λj E H T=>E 0 = .sl (nmA l) t/\E 5 = .sl (nmA l) t/\E 6 = .int l.length/\E 7 = .int j/\j<=l.length/\lj (l.take j) (l.drop j)=lj [] l) ?_ 0 ⟨rfl,rfl,by rw[<- ja l];rfl,rfl,dk _,rfl⟩
 rintro j E H T ⟨e0,e5,e6,e7,hj,hn⟩
 rcases dj j l.length with hlt|hge
 ·obtain⟨y,d0,d4⟩:=C1 hlt
  have hdec:decide ((j:Int)<l.length)=true:=by simpa using hlt
  have hdr:l.drop j=y::l.drop (j+1):=by
   obtain⟨h,rfl⟩:=List.getElem?_eq_some_iff.1 d0
   exact bz h
  have htk:l.take (j+1)=l.take j++[y]:=by rw[bj,d0];rfl
  rw[hdr,lj,<- htk]at hn
  have htl:(l.take j).length=j:=by rw[b7];omega
  have hsl:(nmA l).take j=nmA (l.take j):=by simp[nmA]
  have hj2:(j:Int)<=(l.length:Nat):=by omega
  obtain⟨t',ht',hs⟩:=Bc (es:=1) (al:=nmA l) ht (n:=j) (by rw[ja];exact hj)
  rw[hsl]at hs
  obtain⟨b,hb,hn⟩:=or_some hn
  obtain⟨_,rfl,hc⟩:=(Pf (l:=l.take j) (t:=t') y ht' (by omega) (b:=b) hb).call rfl (by simp[gp,gz,kl,oj,xf,ht'])
  cases b
  ·simp only[↓fm,wall,simprocAttr,e0,e5,e6,e7,hdec,d4,r9,ja,hj2,hs,hc]
   exact jg ⟨j+1,by omega,e0,e5,e6,ij (by omega),by omega,by simpa using hn⟩
  ·simp only[↓fm,wall,simprocAttr,e0,e5,e6,e7,hdec,d4,r9,ja,hj2,hs,hc]
   rw[<- hn];rfl
 ·have hdec:decide ((j:Int)<l.length)=false:=by simpa using hge
  simp only[↓fm,wall,simprocAttr,e0,e5,e6,e7,hdec]
  rw[bt (by omega),lj]at hn
  rw[<- hn]
end Go.Proofs.Eng
namespace Go.Proofs.Eng
open Go Go.Proofs
set_option maxRecDepth 100000
set_option maxHeartbeats 16000000
theorem Ia (op:Int):Out md pfs 181 [.int op] (· = .tup [.bool (pw op),.bool (pq op),.bool (qm op)]) λ_=>False:=by
 refine jt pf181_is (dh rfl) ?_
 have h:op=0\/op=1\/op=5\/op=7\/op=6\/op=4\/((op==0)=false/\(op==1)=false/\(op==5)=false/\(op==7)=false/\(op==6)=false/\(op==4)=false):=by
  simp only[beq_eq_false_iff_ne];omega
 rcases h with rfl|rfl|rfl|rfl|rfl|rfl|⟨h0,h1,h5,h7,h6,h4⟩
 all_goals first
  | (simp only[pf181,↓fm,wall,simprocAttr,pw,pq,qm];done)
  | (simp only[pf181,↓fm,wall,simprocAttr,pw,pq,qm];rfl)
  | (simp only[pf181,↓fm,wall,simprocAttr,pw,pq,qm,h0,h1,h5,h7,h6,h4];first|done|rfl)
theorem Lp (x:Ins) (h0:0<=x.op) (h1:x.op<=14):Out md pfs 169 [x.av] (· = .tup [.int (lk x),.int (jq x)]) λ_=>False:=by
 obtain⟨op,a,b,n⟩:=x
 simp only at h0 h1
 refine jt pf169_is (dh rfl) ?_
 have h:op=0\/op=1\/op=2\/op=3\/op=4\/op=5\/op=6\/op=7\/op=8\/op=9\/op=10\/op=11\/op=12\/op=13\/op=14:=by omega
 rcases h with rfl|rfl|rfl|rfl|rfl|rfl|rfl|rfl|rfl|rfl|rfl|rfl|rfl|rfl|rfl
 all_goals
  simp only[pf169,↓fm,wall,simprocAttr,Ins.av,lk,jq]
  first|done|rfl|simp
theorem Mr (x:Ins):Out md pfs 183 [.agg [.int x.op,.int x.a,.int x.b,.str x.n]] (· = .bool (x.op != 6)) λ_=>False:=by
 refine jt pf183_is (dh rfl) ?_
 simp only[pf183,↓fm,wall,simprocAttr]
theorem Fs (s:ByteArray):(s.size==0)=decide (s=⟨#[]⟩):=by
 obtain⟨⟨l⟩⟩:=s
 cases l<;>simp[ByteArray.size]
theorem Q4 (x:Ins) {rest:List Ins} {t:Tl} (br:Int) (ht:t.pure=true) (hl:rest.length<=jj):Out md pfs 167 [x.av,.sl (jf rest) t,.int br] (· = .bool (qu x rest br)) λ_=>False:=by
 obtain⟨op,a,b,n⟩:=x
 refine jt pf167_is (dh rfl) ?_
 obtain⟨_,rfl,co⟩:=(Ia op).call rfl (by simp[gp,gz,oj])
 cases c1:decide (op<0)<;>cases c2:decide (op>=15)<;>cases c3:decide (a<0)<;>cases c4:decide (b<0)
 case false.false.false.false=>
  generalize hA:pw op=uA at co
  generalize hB:pq op=uB at co
  generalize hN:qm op=uN at co
  have tri:∀(u c:Bool),(u=true)\/(u=false/\c=true)\/(u=false/\c=false):=λu c=>by cases u<;>cases c<;>simp
  simp only[decide_eq_true_eq,decide_eq_false_iff_not]at c1 c2 c3 c4
  have k1:decide (0<=op)=true:=decide_eq_true (by omega)
  have k2:decide (op<=14)=true:=decide_eq_true (by omega)
  have k3:decide (0<=a)=true:=decide_eq_true (by omega)
  have k4:decide (0<=b)=true:=decide_eq_true (by omega)
  have k5:decide (op<0)=false:=decide_eq_false (by omega)
  have k6:decide (op>=15)=false:=decide_eq_false (by omega)
  have k7:decide (a<0)=false:=decide_eq_false (by omega)
  have k8:decide (b<0)=false:=decide_eq_false (by omega)
  have e0:qu ⟨op,a,b,n⟩ rest br=((uA||a==0)&&(uB||b==0)&&(uN||n.size==0)&&((op==6)==decide (0<br))&&(op != 5||xp ⟨op,a,b,n⟩ rest)):=by
   simp only[qu,hA,hB,hN,k1,k2,k3,k4,Bool.true_and]
  obtain⟨R,hR⟩:∃R,R=qu ⟨op,a,b,n⟩ rest br:=⟨_,rfl⟩
  rw[<- hR]
  rw[e0]at hR
  clear e0
  have tA:(uA=true/\uA=true/\(uA||a==0)=true)\/(uA=false/\(a != 0)=true/\(uA||a==0)=false)\/(uA=false/\(a != 0)=false/\(uA||a==0)=true):=by
   cases uA<;>cases h:(a==0)<;>simp[bne,h]
  have tB:(uB=true/\uB=true/\(uB||b==0)=true)\/(uB=false/\(b != 0)=true/\(uB||b==0)=false)\/(uB=false/\(b != 0)=false/\(uB||b==0)=true):=by
   cases uB<;>cases h:(b==0)<;>simp[bne,h]
  have tN:(uN=true/\uN=true/\(uN||n.size==0)=true)\/(uN=false/\(!decide (n=⟨#[]⟩))=true/\(uN||n.size==0)=false)\/(uN=false/\(!decide (n=⟨#[]⟩))=false/\(uN||n.size==0)=true):=by
   rw[Fs];cases uN<;>cases h:decide (n=⟨#[]⟩)<;>simp
  have tC:((op==6)=decide (br>0)/\(op==6)=decide (br>0)/\((op==6)==decide (0<br))=true)\/((op==6)=true/\decide (br>0)=false/\((op==6)==decide (0<br))=false)\/((op==6)=false/\decide (br>0)=true/\((op==6)==decide (0<br))=false):=by
   cases (op==6)<;>cases h:decide (0<br)<;>simp_all
  rcases tA with⟨a1,a2,a3⟩|⟨a1,a2,a3⟩|⟨a1,a2,a3⟩
  rotate_left
  ·
   subst a1
   simp only[a3,ej]at hR
   simp only[pf167,↓fm,wall,simprocAttr,Ins.av,k5,k6,k7,k8,co,a2,hR]
  all_goals
   rcases tB with⟨b1,b2,b3⟩|⟨b1,b2,b3⟩|⟨b1,b2,b3⟩
   rotate_left
   ·
    simp only[b3,ej,er]at hR
    simp only[pf167,↓fm,wall,simprocAttr,Ins.av,k5,k6,k7,k8,co,a1,a2,b1,b2,hR]
   all_goals
    rcases tN with⟨n1,n2,n3⟩|⟨n1,n2,n3⟩|⟨n1,n2,n3⟩
    rotate_left
    ·
     simp only[n3,ej,er]at hR
     simp only[pf167,↓fm,wall,simprocAttr,Ins.av,j9,k5,k6,k7,k8,co,a1,a2,b1,b2,n1,n2,hR]
    all_goals
     rcases tC with⟨d1,d2,d3⟩|⟨d1,d2,d3⟩|⟨d1,d2,d3⟩
     rotate_left
     ·
      simp only[d3,ej,er]at hR
      simp only[pf167,↓fm,wall,simprocAttr,Ins.av,j9,k5,k6,k7,k8,co,a1,a2,b1,b2,n1,n2,d1,d2,hR,show ((true:Bool)==false)=false from rfl,show ((false:Bool)==true)=false from rfl,ee,ed]
     ·
      simp only[d3,ej,er]at hR
      simp only[pf167,↓fm,wall,simprocAttr,Ins.av,j9,k5,k6,k7,k8,co,a1,a2,b1,b2,n1,n2,d1,d2,hR,show ((true:Bool)==false)=false from rfl,show ((false:Bool)==true)=false from rfl,ee,ed]
     cases h5:(op != 5)
     ·simp only[a3,b3,n3,d3,h5,Bool.true_and,Bool.false_or]at hR
      have ho5:op=5:=by simpa[bne]using h5
      obtain⟨m,rfl⟩:∃m:Nat,a=m:=⟨a.toNat,by omega⟩
      rw[xp]at hR
      simp only[ew]at hR
      cases g1:decide ((m:Int)<=32)
      ·rw[g1]at hR
       simp only[ej]at hR
       simp only[pf167,↓fm,wall,simprocAttr,Ins.av,j9,gj,k5,k6,k7,k8,co,a1,a2,b1,b2,n1,n2,d1,d2,h5,g1,hR,beq_self_eq_true,ed,ee]
      cases g2:decide ((m:Int)<=rest.length)
      ·rw[g1,g2]at hR
       simp only[ej,er]at hR
       simp only[pf167,↓fm,wall,simprocAttr,Ins.av,j9,gj,k5,k6,k7,k8,co,a1,a2,b1,b2,n1,n2,d1,d2,h5,g1,g2,hR,beq_self_eq_true,ed,ee]
      rw[g1,g2]at hR
      simp only[Bool.true_and]at hR
      have g3:m<=rest.length:=by have:=of_decide_eq_true g2;omega
      have g4:(m:Int)<=rest.length:=by omega
      obtain⟨t',ht',hs⟩:=Bc (es:=4) (al:=jf rest) ht (n:=m) (by rw[gj];exact g3)
      have hsl:(jf rest).take m=jf (rest.take m):=by simp[jf]
      rw[hsl]at hs
      obtain⟨_,rfl,hc⟩:=(S5 183 [] rfl rfl (t:=t') (l:=rest.take m) ht' (by rw[b7];omega) (λx _=>Mr x)).call rfl (by simp[gp,gz,kl,Aq,yh,ht'])
      have hall:((rest.take m).all λy=>y.op==6) = !((rest.take m).any λx=>x.op != 6):=by
       rw[List.all_eq_not_any_not];rfl
      rw[hall]at hR
      simp only[pf167,↓fm,wall,simprocAttr,Ins.av,j9,gj,k5,k6,k7,k8,co,a1,a2,b1,b2,n1,n2,d1,d2,h5,g1,g2,g4,hs,hc,hR,iq,beq_self_eq_true,ed,ee]
     ·simp only[a3,b3,n3,d3,h5,Bool.true_and,Bool.true_or]at hR
      simp only[pf167,↓fm,wall,simprocAttr,Ins.av,j9,k5,k6,k7,k8,co,a1,a2,b1,b2,n1,n2,d1,d2,h5,hR,beq_self_eq_true,ed,ee]
 all_goals
  simp only[pf167,↓fm,wall,simprocAttr,Ins.av,c1,c2,c3,c4]
  simp only[decide_eq_true_eq,decide_eq_false_iff_not]at c1 c2 c3 c4
  refine(tw ?_)
  simp[qu]
  omega
end Go.Proofs.Eng
namespace Go.Proofs.Eng
open Go Go.Proofs
set_option maxRecDepth 100000
set_option maxHeartbeats 16000000
theorem T3 {Bs:List AV} {t1:Tl} {x y:AV} (hp:gi [.sl Bs t1,x,y]=true) (n:Int):Out md pfs 133 [.int n,.ip [.sl Bs t1,x,y] 0] (· = .bool (decide (n<1)||decide (n>=(Bs.length:Nat)))) λ_=>False:=by
 refine jt pf133_is (dh rfl) ?_
 cases h1:decide (n<1)<;>cases h2:decide (n>=(Bs.length:Nat))
 all_goals simp only[pf133,↓fm,wall,simprocAttr,h1,h2,Bool.or_true,Bool.or_false,Bool.true_or,Bool.false_or]
theorem Ra (s:ByteArray) (hs:s.size<=jj):Out md pfs 136 [.str s] (· = .bool (!isName s)) λ_=>False:=by
 refine jt pf136_is (dh rfl) ?_
 obtain⟨_,rfl,hc⟩:=(Kp s hs).call rfl (by simp[gp,gz,oj])
 simp only[pf136,↓fm,wall,simprocAttr,hc]
theorem Nn:∀{l:List (List Ins)} {al:List AV},LIs Em l al->gi al=true
 | [],[],_=>rfl
 | [],_::_,h=>h.elim
 | _::_,[],h=>h.elim
 | b::l,a::al,h=>by
  obtain⟨⟨t,rfl,ht,_⟩,h⟩:=h
  rw[gp,Nn h];simp[kl,ht,yh]
theorem Ca {c:Cd} {a:AV} (h:c.Is a):im a=true:=by
 obtain⟨Bs,t1,t2,t3,rfl,g1,g2,g3,g4,_⟩:=h
 simp[n6,gp,gz,kl,Nn g1,g2,g3,g4,xf,mv]
theorem K8 {c:Cd} {a:AV} (h:c.Is a) (hn:∀g ∈ c.gl,g.size<=jj):Out md pfs 87 [a] (· = .int c.ua) λ_=>False:=by
 obtain⟨Bs,t1,t2,t3,rfl,g1,g2,g3,g4,g5,g6,g7⟩:=id h
 have hp:gi [.sl Bs t1,.sl (nmA c.gl) t2,.sl (ints c.st) t3]=true:=by have:=Ca h;rwa [n6]at this
 have hBl:=g1.len
 refine jt pf87_is (dh rfl) ?_
 obtain⟨_,rfl,c1⟩:=(Rn (p:=λn=>decide (n<1)||decide (n>=(Bs.length:Nat))) 133 [.ip [.sl Bs t1,.sl (nmA c.gl) t2,.sl (ints c.st) t3] 0] rfl (by simp[gp,gz,a18]at hp ⊢;simp[hp]) (t:=t3) g4 g7 (λx _=>T3 hp x)).a5v rfl (s:=⟨[.cells false [.sl Bs t1,.sl (nmA c.gl) t2,.sl (ints c.st) t3]],[]⟩) (args:=[.sl (ints c.st) t3,.fn 133 [.ptr 0 0]]) (by
  rw[il,jh (by simp[kl,g4,mv]),il,Xv rfl hp,il])
 have hfz:(([.sl (ints c.st) t3,.fn 133 [.ptr 0 0]]:List AV).foldl (frz 20) ⟨[.cells false [.sl Bs t1,.sl (nmA c.gl) t2,.sl (ints c.st) t3]],[]⟩)=⟨[.cells true [.sl Bs t1,.sl (nmA c.gl) t2,.sl (ints c.st) t3]],[]⟩:=by
  rw[dc,Hr (by simp[kl,g4,mv]),dc,Y0 rfl hp,List.foldl_nil];rfl
 rw[hfz]at c1
 obtain⟨_,rfl,c2⟩:=(Uz g4 g7).call rfl (by simp[gp,gz,kl,g4,mv])
 obtain⟨_,rfl,c3⟩:=(Vt (p:=λs => !isName s) 136 [] rfl rfl (t:=t2) g3 g6 (λx hx=>Ra x (hn x hx))).call rfl (by simp[gp,gz,kl,Aq,g3,xf])
 obtain⟨_,rfl,c4⟩:=(Ss g3 g6).call rfl (by simp[gp,gz,kl,g3,xf])
 generalize hA:(c.st.any λn=>decide (n<1)||decide (n>=(Bs.length:Nat)))=bA at c1
 generalize hB:lj [] c.st=bB at c2
 generalize hC:(c.gl.any λs => !isName s)=bC at c3
 generalize hD:lj [] c.gl=bD at c4
 have hA':(c.st.any λs=>decide (s<1)||decide ((c.bl.length:Int)<=s))=bA:=by rw[<- hA,hBl]
 have hR:c.ua=if c.bl=[]\/c.st.length ≠ c.gl.length\/bA=true\/bB=true then 3 else if bC=true then 29 else if bD=true then 8 else 0:=by
  rw[Cd.ua,hA',hB,hC,hD]
 have hbl:c.bl=[] ↔ Bs.length=0:=by rw[hBl];exact⟨λh=>by rw[h];rfl,λh=>List.length_eq_zero_iff.1 h⟩
 rw[hR]
 cases q1:(((Bs.length:Nat):Int)==0)
 ·have q1':¬c.bl=[]:=by rw[hbl];have:=ne_of_beq_false q1;omega
  cases q2:(((c.st.length:Nat):Int) != ((c.gl.length:Nat):Int))
  ·have q2':c.st.length=c.gl.length:=by simp only[bne_eq_false_iff_eq]at q2;omega
   have q3:(bA=true\/bB=true) ↔ (c.bl=[]\/c.st.length ≠ c.gl.length\/bA=true\/bB=true):=by simp[q1',q2']
   have hR2:∀(x y:Int),(if c.bl=[]\/c.st.length ≠ c.gl.length\/bA=true\/bB=true then x else y)=if bA=true\/bB=true then x else y:=λx y=>by
    by_cases h:bA=true\/bB=true
    ·rw[if_pos h,if_pos (q3.1 h)]
    ·rw[if_neg h,if_neg λh'=>h (q3.2 h')]
   rw[hR2]
   cases bA
   ·cases bB
    ·cases bC
     ·cases bD
      all_goals simp only[pf87,↓fm,wall,simprocAttr,wH,ig,ja,q1,q2,c1,c2,c3,c4,dz,or_self,if_false,if_true]
     ·simp only[pf87,↓fm,wall,simprocAttr,wH,ig,ja,q1,q2,c1,c2,c3,c4,dz,or_self,if_false,if_true]
    ·simp only[pf87,↓fm,wall,simprocAttr,wH,ig,ja,q1,q2,c1,c2,c3,c4,dz,false_or,if_true]
   ·simp only[pf87,↓fm,wall,simprocAttr,wH,ig,ja,q1,q2,c1,c2,c3,c4,true_or,if_true]
  ·have q2':c.st.length ≠ c.gl.length:=by simp only[bne_iff_ne,ne_eq]at q2;omega
   rw[if_pos (.inr (.inl q2'))]
   simp only[pf87,↓fm,wall,simprocAttr,wH,ig,ja,q1,q2]
 ·have q1':c.bl=[]:=by rw[hbl];have:=eq_of_beq q1;omega
  rw[if_pos (.inl q1')]
  simp only[pf87,↓fm,wall,simprocAttr,wH,ig,ja,q1]
end Go.Proofs.Eng
namespace Go.Proofs.Eng
open Go Go.Proofs
set_option maxRecDepth 100000
set_option maxHeartbeats 16000000
structure KS (ki si:Nat) (Bs:List AV) (t1 t2 t3:Tl) (c:Cd) (S:List Int) (H:List fq):Prop where
 k:H[ki]? = some (.cells false [.sl Bs t1,.sl (nmA c.gl) t2,.sl (ints c.st) t3,.bs si 0 c.bl.length 1 false])
 s:H[si]? = some (.cells false (ints S))
 sl:S.length=c.bl.length
 ne:ki ≠ si
 bl:LIs Em c.bl Bs
 p1:t1.pure=true
 gl:c.gl.length<=jj
theorem KS.app {ki si:Nat} {Bs:List AV} {t1 t2 t3:Tl} {c:Cd} {S:List Int} {H:List fq} (h:KS ki si Bs t1 t2 t3 c S H) (G:List fq):KS ki si Bs t1 t2 t3 c S (H++G):=
 ⟨jc h.k G,jc h.s G,h.sl,h.ne,h.bl,h.p1,h.gl⟩
section
variable {ki si:Nat} {Bs:List AV} {t1 t2 t3:Tl} {c:Cd} {S:List Int} {H:List fq} {V:List Nat}
theorem Wy (h:KS ki si Bs t1 t2 t3 c S H) (x:Ins) {rest:List Ins} {t:Tl} (br:Int) (ht:t.pure=true) (hl:rest.length<=jj) (hn:x.n.size<=jj) :
  Sh md pfs 139 [.ptr ki 0,x.av,.sl (jf rest) t,.int br] ⟨H,V⟩ (λv s=>v = .int (lq c.bl.length c.gl.length x rest br) /\ ∃G,s=⟨H++G,V⟩) λ_ _=>False:=by
 obtain⟨op,a,b,n⟩:=x
 simp only at hn
 have hBl:=h.bl.len
 have hk:=jc h.k [fq.cells false [.int op,.int a,.int b,.str n]]
 obtain⟨_,rfl,cp⟩:=(Q4 ⟨op,a,b,n⟩ (rest:=rest) (t:=t) br ht hl).call rfl (by simp[gp,gz,kl,oj,yh,ht,Ins.av,n6])
 obtain⟨_,rfl,cn⟩:=(Kp n hn).call rfl (by simp[gp,gz,oj])
 simp only[Ins.av]at cp
 have go:∀r,lq c.bl.length c.gl.length ⟨op,a,b,n⟩ rest br=r->(Sh md pfs 139 [.ptr ki 0,.agg [.int op,.int a,.int b,.str n],.sl (jf rest) t,.int br] ⟨H,V⟩ (λv s=>v = .int r /\ ∃G,s=⟨H++G,V⟩) λ_ _=>False)->Sh md pfs 139 [.ptr ki 0,Ins.av ⟨op,a,b,n⟩,.sl (jf rest) t,.int br] ⟨H,V⟩ (λv s=>v = .int (lq c.bl.length c.gl.length ⟨op,a,b,n⟩ rest br) /\ ∃G,s=⟨H++G,V⟩) λ_ _=>False:=by
  rintro r rfl h;exact h
 cases hi:qu ⟨op,a,b,n⟩ rest br
 ·refine go 3 (by rw[lq,if_pos hi]) ?_
  rw[hi]at cp
  refine j8 pf139_is (dh rfl) ?_
  simp only[pf139,↓fm,wall,simprocAttr,wH,cp]
  exact⟨_,rfl⟩
 rw[hi]at cp
 have hf:lq c.bl.length c.gl.length ⟨op,a,b,n⟩ rest br=if op=4/\isName n=false then 29 else if ld c.bl.length c.gl.length ⟨op,a,b,n⟩=true then 2 else 0:=by rw[lq,if_neg (by rw[hi];simp)]
 have hop:op=4\/op=1\/op=6\/op=7\/((op==4)=false/\(op==1)=false/\(op==6)=false/\(op==7)=false):=by
  simp only[beq_eq_false_iff_ne];omega
 rcases hop with rfl|rfl|rfl|rfl|⟨o4,o1,o6,o7⟩
 ·cases hnm:isName n
  ·refine go 29 (by rw[hf,if_pos ⟨rfl,hnm⟩]) ?_
   rw[hnm]at cn
   refine j8 pf139_is (dh rfl) ?_
   simp only[pf139,↓fm,wall,simprocAttr,wH,cp,cn]
   exact⟨_,rfl⟩
  ·rw[hnm]at cn
   cases h32:decide (a>=32)
   ·refine go 0 (by rw[hf,if_neg (by simp[hnm]),if_neg (by simp[ld];simpa using h32)]) ?_
    refine j8 pf139_is (dh rfl) ?_
    simp only[pf139,↓fm,wall,simprocAttr,wH,cp,cn,h32]
    exact⟨_,rfl⟩
   ·refine go 2 (by rw[hf,if_neg (by simp[hnm]),if_pos (by simp[ld];simpa using h32)]) ?_
    refine j8 pf139_is (dh rfl) ?_
    simp only[pf139,↓fm,wall,simprocAttr,wH,cp,cn,h32]
    exact⟨_,rfl⟩
 ·cases h1:decide (a>=((Bs.length:Nat):Int))
  ·refine go 0 (by rw[hf,if_neg (by simp),if_neg (by simp[ld];simp at h1;omega)]) ?_
   refine j8 pf139_is (dh rfl) ?_
   simp only[pf139,↓fm,wall,simprocAttr,wH,cp,hk,h1]
   exact⟨_,rfl⟩
  ·refine go 2 (by rw[hf,if_neg (by simp),if_pos (by simp[ld];simp at h1;omega)]) ?_
   refine j8 pf139_is (dh rfl) ?_
   simp only[pf139,↓fm,wall,simprocAttr,wH,cp,hk,h1]
   exact⟨_,rfl⟩
 ·cases h1:decide (a>=((Bs.length:Nat):Int))
  ·cases h64:decide (b>64)
   ·refine go 0 (by rw[hf,if_neg (by simp),if_neg (by simp[ld];simp at h1 h64;omega)]) ?_
    refine j8 pf139_is (dh rfl) ?_
    simp only[pf139,↓fm,wall,simprocAttr,wH,cp,hk,h1,h64]
    exact⟨_,rfl⟩
   ·refine go 2 (by rw[hf,if_neg (by simp),if_pos (by simp[ld];simp at h1 h64;omega)]) ?_
    refine j8 pf139_is (dh rfl) ?_
    simp only[pf139,↓fm,wall,simprocAttr,wH,cp,hk,h1,h64]
    exact⟨_,rfl⟩
  ·refine go 2 (by rw[hf,if_neg (by simp),if_pos (by simp[ld];simp at h1;omega)]) ?_
   refine j8 pf139_is (dh rfl) ?_
   simp only[pf139,↓fm,wall,simprocAttr,wH,cp,hk,h1]
   exact⟨_,rfl⟩
 ·cases h1:decide (a>=((c.gl.length:Nat):Int))
  ·refine go 0 (by rw[hf,if_neg (by simp),if_neg (by simp[ld];simp at h1;omega)]) ?_
   refine j8 pf139_is (dh rfl) ?_
   simp only[pf139,↓fm,wall,simprocAttr,wH,cp,hk,ja,h1]
   exact⟨_,rfl⟩
  ·refine go 2 (by rw[hf,if_neg (by simp),if_pos (by simp[ld];simp at h1;omega)]) ?_
   refine j8 pf139_is (dh rfl) ?_
   simp only[pf139,↓fm,wall,simprocAttr,wH,cp,hk,ja,h1]
   exact⟨_,rfl⟩
 ·have n4:op ≠ 4:=ne_of_beq_false o4
  refine go 0 (by rw[hf,if_neg (by simp[n4]),if_neg (by simp[ld,o4,o1,o6,o7])]) ?_
  refine j8 pf139_is (dh rfl) ?_
  simp only[pf139,↓fm,wall,simprocAttr,wH,cp,o4,o1,o6,o7]
  exact⟨_,rfl⟩
end
end Go.Proofs.Eng
