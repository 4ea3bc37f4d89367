/- The machine's operations: apply. No conditions beyond those in the theorems. -/
import Derived.Test.YtflfmkkcnphdcaaGreatKN
set_option linter.all false
set_option linter.deprecated false
set_option linter.unnecessarySimpa false
set_option linter.unusedVariables false
set_option linter.unusedSimpArgs false
set_option linter.defProp false
namespace Go.Proofs.Eng
open Go Go.Proofs
set_option maxRecDepth 100000
set_option maxHeartbeats 16000000
inductive Vl where
 | box
 | clo (n:Int) (e:List Vl)
 | ctor (n:Int) (nm:ByteArray) (p:List Vl)
 | pair (a b:Vl)
abbrev Fz:=Nat->Option (List AV)
def PA (F:Fz) (l:List AV) (pa:AV):Prop:=(∃t,pa = .sl l t) \/ ∃b,pa = .bs b 0 l.length 1 false/\F b=some l
mutual
def VR (F:Fz):Vl->AV->Prop
 | .box,a=>∃k,a = .ptr k 0/\F k=some [.int 0,.int 0,.str ⟨#[]⟩,.v (.pointer none),.sl [] .nil]
 | .clo n e,a=>∃k ea,a = .ptr k 0/\F k=some [.int 1,.int n,.str ⟨#[]⟩,ea,.sl [] .nil]/\ER F e ea
 | .ctor n nm p,a=>∃k pa l,a = .ptr k 0/\F k=some [.int 2,.int n,.str nm,.v (.pointer none),pa]/\PA F l pa/\VRs F p l
 | .pair x y,a=>∃k ax ay t,a = .ptr k 0/\F k=some [.int 3,.int 0,.str ⟨#[]⟩,.v (.pointer none),.sl [ax,ay] t]/\VR F x ax/\VR F y ay
def ER (F:Fz):List Vl->AV->Prop
 | [],a=>a = .v (.pointer none)
 | v::e,a=>∃k av ea,a = .ptr k 0/\F k=some [av,ea]/\VR F v av/\ER F e ea
def VRs (F:Fz):List Vl->List AV->Prop
 | [],l=>l=[]
 | v::p,l=>∃a l',l=a::l'/\VR F v a/\VRs F p l'
end
def FLe (F F':Fz):Prop:=∀k c,F k=some c->F' k=some c
theorem FLe.trans {F F1 F2:Fz} (h:FLe F F1) (k:FLe F1 F2):FLe F F2:=λi c e=>k i c (h i c e)
theorem PA.mono {F F':Fz} (h:FLe F F') {l:List AV} {pa:AV} (k:PA F l pa):PA F' l pa:=by
 rcases k with k|⟨b,h1,h2⟩
 ·exact .inl k
 ·exact .inr ⟨b,h1,h _ _ h2⟩
mutual
theorem VR.mono {F F':Fz} (h:FLe F F'):∀(v:Vl) (a:AV),VR F v a->VR F' v a
 | .box,a,k=>by
  rw[VR]at k ⊢
  obtain⟨b,h1,h2⟩:=k
  exact⟨b,h1,h _ _ h2⟩
 | .clo n e,a,k=>by
  rw[VR]at k ⊢
  obtain⟨b,ea,h1,h2,h3⟩:=k
  exact⟨b,ea,h1,h _ _ h2,ER.mono h e ea h3⟩
 | .ctor n nm p,a,k=>by
  rw[VR]at k ⊢
  obtain⟨b,pa,l,h1,h2,h3,h4⟩:=k
  exact⟨b,pa,l,h1,h _ _ h2,h3.mono h,VRs.mono h p l h4⟩
 | .pair x y,a,k=>by
  rw[VR]at k ⊢
  obtain⟨b,ax,ay,t,h1,h2,h3,h4⟩:=k
  exact⟨b,ax,ay,t,h1,h _ _ h2,VR.mono h x ax h3,VR.mono h y ay h4⟩
theorem ER.mono {F F':Fz} (h:FLe F F'):∀(e:List Vl) (a:AV),ER F e a->ER F' e a
 | [],a,k=>by rw[ER]at k ⊢;exact k
 | v::e,a,k=>by
  rw[ER]at k ⊢
  obtain⟨b,av,ea,h1,h2,h3,h4⟩:=k
  exact⟨b,av,ea,h1,h _ _ h2,VR.mono h v av h3,ER.mono h e ea h4⟩
theorem VRs.mono {F F':Fz} (h:FLe F F'):∀(p:List Vl) (l:List AV),VRs F p l->VRs F' p l
 | [],l,k=>by rw[VRs]at k ⊢;exact k
 | v::p,l,k=>by
  rw[VRs]at k ⊢
  obtain⟨a,l',h1,h2,h3⟩:=k
  exact⟨a,l',h1,VR.mono h v a h2,VRs.mono h p l' h3⟩
end
theorem VRs.len {F:Fz}:∀{p:List Vl} {l:List AV},VRs F p l->l.length=p.length
 | [],l,k=>by rw[VRs]at k;rw[k];rfl
 | v::p,l,k=>by
  rw[VRs]at k
  obtain⟨a,l',rfl,_,h⟩:=k
  rw[ak,ak,VRs.len h]
theorem VRs.app {F:Fz}:∀{p q:List Vl} {l m:List AV},VRs F p l->VRs F q m->VRs F (p++q) (l++m)
 | [],q,l,m,h,k=>by rw[VRs]at h;subst h;exact k
 | v::p,q,l,m,h,k=>by
  rw[VRs]at h
  obtain⟨a,l',rfl,h1,h2⟩:=h
  rw[bn,bn,VRs]
  exact⟨a,l'++m,rfl,h1,VRs.app h2 k⟩
theorem VRs.one {F:Fz} {v:Vl} {a:AV} (h:VR F v a):VRs F [v] [a]:=by
 rw[VRs];exact⟨a,[],rfl,h,by rw[VRs]⟩
theorem VRs.split {F:Fz}:∀{p q:List Vl} {l:List AV},VRs F (p++q) l->VRs F p (l.take p.length)/\VRs F q (l.drop p.length)
 | [],q,l,h=>⟨by rw[VRs];rfl,h⟩
 | v::p,q,l,h=>by
  rw[bn,VRs]at h
  obtain⟨a,l',rfl,h1,h2⟩:=h
  obtain⟨h3,h4⟩:=VRs.split h2
  rw[VRs]
  exact⟨⟨a,_,rfl,h1,h3⟩,h4⟩
theorem VRs.at {F:Fz}:∀{p:List Vl} {l:List AV} {i:Nat} {v:Vl},VRs F p l->p[i]? = some v -> ∃a,l[i]? = some a/\VR F v a
 | [],_,_,_,_,h=>by simp at h
 | v::p,l,0,_,h,e=>by
  rw[VRs]at h
  obtain⟨a,l',rfl,h1,_⟩:=h
  simp at e;subst e;exact⟨a,rfl,h1⟩
 | v::p,l,i+1,_,h,e=>by
  rw[VRs]at h
  obtain⟨a,l',rfl,_,h2⟩:=h
  obtain⟨b,h3,h4⟩:=VRs.at h2 (by simpa using e)
  exact⟨b,by simpa using h3,h4⟩
structure Fr where
 bk:Nat
 at':Nat
 env:List Vl
structure Ms where
 now:Fr
 stack:List Vl
 gq:List Fr
 steps:Nat
 halted:Bool
 err:Int
def FAs (F:Fz):List Fr->List AV->Prop
 | [],l=>l=[]
 | f::fs,l=>∃ea l',l = .int (f.bk:Nat) :: .int (f.at':Nat)::ea::l'/\ER F f.env ea/\FAs F fs l'
theorem FAs.mono {F F':Fz} (h:FLe F F'):∀{fs:List Fr} {l:List AV},FAs F fs l->FAs F' fs l
 | [],_,k=>k
 | _::_,_,⟨ea,l',h1,h2,h3⟩=>⟨ea,l',h1,ER.mono h _ _ h2,FAs.mono h h3⟩
theorem FAs.len {F:Fz}:∀{p:List Fr} {l:List AV},FAs F p l->l.length=3*p.length
 | [],l,k=>by rw[FAs]at k;rw[k];rfl
 | v::p,l,⟨ea,l',h1,_,h⟩=>by
  have:=FAs.len h
  subst h1
  simp only[ak];omega
theorem FAs.app {F:Fz}:∀{p q:List Fr} {l m:List AV},FAs F p l->FAs F q m->FAs F (p++q) (l++m)
 | [],q,l,m,h,k=>by rw[FAs]at h;subst h;exact k
 | v::p,q,l,m,⟨ea,l',h1,h2,h3⟩,k=>by subst h1;exact⟨ea,l'++m,rfl,h2,FAs.app h3 k⟩
theorem FAs.split {F:Fz}:∀{p q:List Fr} {l:List AV},FAs F (p++q) l->FAs F p (l.take (3*p.length))/\FAs F q (l.drop (3*p.length))
 | [],q,l,h=>⟨rfl,h⟩
 | v::p,q,l,⟨ea,l',h1,h2,h3⟩=>by
  subst h1
  obtain⟨h4,h5⟩:=FAs.split h3
  rw[ak,show 3*(p.length+1)=3*p.length+1+1+1 from by omega]
  exact⟨⟨ea,_,rfl,h2,h4⟩,h5⟩
def ql:AV->Option Nat
 | .bs i _ _ _ _=>some i
 | _=>none
def Own (m:Nat) (sa fa:AV) (k:Nat):Prop:=k=m\/ql sa=some k\/ql fa=some k
def SR (F:Fz) (H:List fq) (st:List Vl) (a:AV):Prop:=(a = .sl [] .nil/\st=[]) \/ ∃b c,a = .bs b 0 st.length 1 false/\H[b]? = some (.cells false c)/\st.length<=c.length/\VRs F st.reverse (c.take st.length)
def FR (F:Fz) (H:List fq) (fs:List Fr) (a:AV):Prop:=(a = .sl [] .nil/\fs=[]) \/ ∃b c,a = .bs b 0 fs.length 3 true/\H[b]? = some (.cells false c)/\3*fs.length<=c.length/\FAs F fs.reverse (c.take (3*fs.length))
structure MR (F:Fz) (H:List fq) (m:Nat) (sa fa:AV) (c:Cd) (s:Ms):Prop where
 m6:∃Bl tb t2 t3 ea,H[m]? = some (.cells false (mcs Bl tb t2 t3 c (s.now.bk:Nat) (s.now.at':Nat) ea sa fa (s.steps:Nat) s.halted s.err m))/\LIs blX c.bl Bl/\ER F s.now.env ea
 st:SR F H s.stack sa
 fr:FR F H s.gq fa
 fz:∀k,Own m sa fa k->F k=none
 d1:∀k,ql sa=some k->k ≠ m/\ql fa ≠ some k
 d2:∀k,ql fa=some k->k ≠ m
def Fro (F:Fz) (H:List fq):Prop:=∀k c,F k=some c->H[k]? = some (.cells false c)
structure Nx (F:Fz) (H:List fq) (U:Nat->Prop) (F':Fz) (H':List fq) (U':Nat->Prop):Prop where
 le:FLe F F'
 jb:∀k:Nat,k<H.length -> ¬U k->H'[k]? = H[k]?
 len:H.length<=H'.length
 own:∀k:Nat,U' k->U k\/H.length<=k
 new:∀k:Nat,F' k ≠ none->F k ≠ none\/H.length<=k
theorem Nx.refl (F:Fz) (H:List fq) (U:Nat->Prop):Nx F H U F H U:=⟨λ_ _ h=>h,λ_ _ _=>rfl,di _,λ_ h=>.inl h,λ_ h=>.inl h⟩
theorem Nx.trans {F F' F'':Fz} {H H' H'':List fq} {U U' U'':Nat->Prop} (h:Nx F H U F' H' U') (k:Nx F' H' U' F'' H'' U''):Nx F H U F'' H'' U'' where
 le i c e:=k.le i c (h.le i c e)
 jb i hi hu:=by
  rw[k.jb i (dq hi h.len) (λh'=>by rcases h.own i h' with h1|h1;exact hu h1;omega)]
  exact h.jb i hi hu
 len:=dt h.len k.len
 own i hi:=by
  rcases k.own i hi with h1|h1
  ·exact h.own i h1
  ·exact .inr (dt h.len h1)
 new i hi:=by
  rcases k.new i hi with h1|h1
  ·exact h.new i h1
  ·exact .inr (dt h.len h1)
def MQ (F:Fz) (H:List fq) (m:Nat) (sa fa:AV) (c:Cd) (P:AV->Fz->Ms->Prop) (v:AV) (s1:ASt):Prop:=
 ∃F' sa' fa' s',P v F' s'/\MR F' s1.H m sa' fa' c s'/\Fro F' s1.H/\Nx F H (Own m sa fa) F' s1.H (Own m sa' fa')
def Mw (f:FuncId) (args:List AV) (F:Fz) (H:List fq) (V:List Nat) (m:Nat) (sa fa:AV) (c:Cd) (P:AV->Fz->Ms->Prop):Prop:=
 Rw f args ⟨H,V⟩ (MQ F H m sa fa c P)
end Go.Proofs.Eng
namespace Go.Proofs.Eng
open Go Go.Proofs
set_option maxRecDepth 100000
set_option maxHeartbeats 16000000
theorem VR.ptr {F:Fz} {v:Vl} {a:AV} (h:VR F v a):∃k,a = .ptr k 0:=by
 cases v<;>rw[VR]at h<;>obtain⟨k,h⟩:=h
 ·exact⟨k,h.1⟩
 ·obtain⟨_,h,_⟩:=h;exact⟨k,h⟩
 ·obtain⟨_,_,h,_⟩:=h;exact⟨k,h⟩
 ·obtain⟨_,_,_,h,_⟩:=h;exact⟨k,h⟩
theorem SR.jb {F:Fz} {H H':List fq} {st:List Vl} {a:AV} (h:SR F H st a) (k:∀b,ql a=some b->H'[b]? = H[b]?):SR F H' st a:=by
 rcases h with h|⟨b,c,e,h1,h2⟩
 ·exact .inl h
 ·exact .inr ⟨b,c,e,by rw[k b (by rw[e];rfl)];exact h1,h2⟩
theorem FR.jb {F:Fz} {H H':List fq} {st:List Fr} {a:AV} (h:FR F H st a) (k:∀b,ql a=some b->H'[b]? = H[b]?):FR F H' st a:=by
 rcases h with h|⟨b,c,e,h1,h2⟩
 ·exact .inl h
 ·exact .inr ⟨b,c,e,by rw[k b (by rw[e];rfl)];exact h1,h2⟩
theorem SR.mono {F F':Fz} (hl:FLe F F') {H:List fq} {st:List Vl} {a:AV} (h:SR F H st a):SR F' H st a:=by
 rcases h with h|⟨b,c,e,h1,h2,h3⟩
 ·exact .inl h
 ·exact .inr ⟨b,c,e,h1,h2,VRs.mono hl _ _ h3⟩
theorem FR.mono {F F':Fz} (hl:FLe F F') {H:List fq} {st:List Fr} {a:AV} (h:FR F H st a):FR F' H st a:=by
 rcases h with h|⟨b,c,e,h1,h2,h3⟩
 ·exact .inl h
 ·exact .inr ⟨b,c,e,h1,h2,h3.mono hl⟩
theorem SR.lt {F:Fz} {H:List fq} {st:List Vl} {a:AV} (h:SR F H st a) {b:Nat} (e:ql a=some b):b<H.length:=by
 rcases h with⟨h,_⟩|⟨b',c,h,h1,_⟩
 ·rw[h]at e;cases e
 ·rw[h]at e;cases e;exact fu h1
theorem FR.lt {F:Fz} {H:List fq} {st:List Fr} {a:AV} (h:FR F H st a) {b:Nat} (e:ql a=some b):b<H.length:=by
 rcases h with⟨h,_⟩|⟨b',c,h,h1,_⟩
 ·rw[h]at e;cases e
 ·rw[h]at e;cases e;exact fu h1
section
variable {F:Fz} {H:List fq} {m:Nat} {sa fa:AV} {c:Cd} {s:Ms}
theorem MR.lt (h:MR F H m sa fa c s) {k:Nat} (hk:Own m sa fa k):k<H.length:=by
 obtain⟨Bl,tb,t2,t3,ea,b1,_⟩:=h.m6
 rcases hk with rfl|hk|hk
 ·exact fu b1
 ·exact h.st.lt hk
 ·exact h.fr.lt hk
theorem MR.upd (hM:MR F H m sa fa c s) (hF:Fro F H) {H':List fq} {sa' fa':AV} {s':Ms}
  (hmach:∃Bl tb t2 t3 ea,H'[m]? = some (.cells false (mcs Bl tb t2 t3 c (s'.now.bk:Nat) (s'.now.at':Nat) ea sa' fa' (s'.steps:Nat) s'.halted s'.err m))/\LIs blX c.bl Bl/\ER F s'.now.env ea)
  (hst:SR F H' s'.stack sa') (hfr:FR F H' s'.gq fa') (jb:∀k:Nat,k<H.length -> ¬Own m sa fa k->H'[k]? = H[k]?) (len:H.length<=H'.length) (own:∀k:Nat,Own m sa' fa' k->Own m sa fa k\/H.length<=k)
  (d1:∀k,ql sa'=some k->k ≠ m/\ql fa' ≠ some k) (d2:∀k,ql fa'=some k->k ≠ m):MR F H' m sa' fa' c s'/\Fro F H'/\Nx F H (Own m sa fa) F H' (Own m sa' fa'):=by
 refine⟨⟨hmach,hst,hfr,λk hk => ?_,d1,d2⟩,λk l hk => ?_,⟨λ_ _ h=>h,jb,len,own,λ_ h=>.inl h⟩⟩
 ·rcases own k hk with h|h
  ·exact hM.fz k h
  ·cases hk:F k with
   | none=>rfl
   | some l=>have:=fu (hF k l hk);omega
 ·have h1:=hF k l hk
  rw[jb k (fu h1) λh=>by rw[hM.fz k h]at hk;cases hk];exact h1
theorem MR.more (hM:MR F H m sa fa c s) (hF:Fro F H) (G:List fq):MR F (H++G) m sa fa c s/\Fro F (H++G)/\Nx F H (Own m sa fa) F (H++G) (Own m sa fa):=by
 have hk:∀k:Nat,k<H.length->(H++G)[k]? = H[k]? := λk h=>ae h
 obtain⟨Bl,tb,t2,t3,ea,b1,b2,b3⟩:=hM.m6
 exact hM.upd hF ⟨Bl,tb,t2,t3,ea,jc b1 _,b2,b3⟩ (hM.st.jb λb e=>hk b (hM.st.lt e)) (hM.fr.jb λb e=>hk b (hM.fr.lt e)) (λk h _=>hk k h) (by simp) (λk h=>.inl h) hM.d1 hM.d2
def Fz.add (F:Fz) (k:Nat) (l:List AV):Fz:=λi=>if i=k then some l else F i
theorem MR.alloc (hM:MR F H m sa fa c s) (hF:Fro F H) (l:List AV):MR (F.add H.length l) (H++[.cells false l]) m sa fa c s/\Fro (F.add H.length l) (H++[.cells false l])/\Nx F H (Own m sa fa) (F.add H.length l) (H++[.cells false l]) (Own m sa fa)/\F.add H.length l H.length=some l:=by
 obtain⟨h1,h2,h3⟩:=hM.more hF [.cells false l]
 have hn:F H.length=none:=by
  cases hk:F H.length with
  | none=>rfl
  | some l=>have:=fu (hF _ l hk);omega
 have hle:FLe F (F.add H.length l):=λk x hk=>by
  unfold Fz.add
  split
  ·rename_i e;rw[e,hn]at hk;cases hk
  ·exact hk
 obtain⟨Bl,tb,t2,t3,ea,b1,b2,b3⟩:=h1.m6
 refine⟨⟨⟨Bl,tb,t2,t3,ea,b1,b2,ER.mono hle _ _ b3⟩,h1.st.mono hle,h1.fr.mono hle,λk hk => ?_,h1.d1,h1.d2⟩,λk x hk => ?_,⟨hle,h3.jb,h3.len,h3.own,λk hk => ?_⟩,by simp[Fz.add]⟩
 ·have:=hM.lt hk
  rw[Fz.add,if_neg (by omega)];exact hM.fz k hk
 ·unfold Fz.add at hk
  split at hk
  ·rename_i e;subst e;cases hk;simp
  ·exact h2 k x hk
 ·unfold Fz.add at hk
  split at hk
  ·rename_i e;exact .inr (by omega)
  ·exact .inl hk
end
theorem gsn {H:List fq} {b k:Nat} {x:fq} (h:k ≠ b):(H.set b x)[k]? = H[k]? := by rw[b9,if_neg (λe=>h e.symm)]
theorem gse {H:List fq} {b:Nat} {x:fq} (h:b<H.length):(H.set b x)[b]? = some x:=by rw[b9,if_pos rfl,if_pos h]
theorem gal {H G:List fq} {k:Nat} (h:k<H.length):(H++G)[k]? = H[k]? := ae h
theorem gae {H:List fq} {x:fq}:(H++[x])[H.length]? = some x:=by rw[af (di _),Nat.sub_self];rfl
theorem a3w {H:List fq} {b:Nat} {x y:fq}:(H.set b x++[y])[H.length]? = some y:=by rw[af (by simp),List.length_set,Nat.sub_self];rfl
theorem Zb {H:List fq} {V:List Nat} (a:AV) {l:List AV} (e:a.cells=l) (h:(l.length==1&&l.all ic)=true):tr ⟨H,V⟩ 1 (some false) [] .nil [a]=some (.bs H.length 0 1 1 false,⟨H++[.cells false l],V⟩):=by
 subst e
 simp only[dy]at h
 rw[tr,if_pos ⟨.inl (by simp),rfl,by simp only[cz,List.all_nil,Bool.and_true,dy];exact h⟩]
 simp[flat]
theorem Ir {H:List fq} {V:List Nat} (a:AV) {l:List AV} (e:a.cells=l) (h:(l.length==3&&l.all ic)=true):tr ⟨H,V⟩ 3 (some true) [] .nil [a]=some (.bs H.length 0 1 3 true,⟨H++[.cells false l],V⟩):=by
 subst e
 simp only[dy]at h
 rw[tr,if_pos ⟨.inl (by simp),rfl,by simp only[cz,List.all_nil,Bool.and_true,dy];exact h⟩]
 simp[flat]
theorem Ln {H:List fq} {V:List Nat} {b n k:Nat} {cs:List AV} {es:Nat} {ag:Bool} (hb:H[b]? = some (.cells false cs)) (hk:n*es=k) (hn:k<=cs.length) (hl:n<=1000000) (a:AV) {l:List AV} (e:a.cells=l) (h:(l.length==es&&l.all ic)=true) :
  Ps ⟨H,V⟩ es b 0 n es ag [a]=some (.bs H.length 0 (n+1) es ag,⟨H.set b .dead++[.cells false (cs.take k++l)],V⟩):=by
 subst e
 subst hk
 simp only[Ps,hb]
 rw[if_pos ⟨trivial,trivial,hn,by simp,by simp;omega,by simp only[cz,List.all_nil,Bool.and_true];exact h⟩]
 simp[flat]
theorem nn {F:Fz} {H:List fq} {V:List Nat} {m:Nat} {sa fa:AV} {c:Cd} {s:Ms} {v:Vl} {a:AV} (hM:MR F H m sa fa c s) (hF:Fro F H) (hv:VR F v a) (hb:s.stack.length<=1000000) :
  Mw 90 [.ptr m 0,a] F H V m sa fa c λr F' s'=>r = .int 0/\F'=F/\s' = {s with stack:=v::s.stack}:=by
 obtain⟨Bl,tb,t2,t3,ea,b1,b2,b3⟩:=hM.m6
 obtain⟨ka,rfl⟩:=hv.ptr
 have hml:=fu b1
 simp only[mcs]at b1
 refine ju pf90_is (dh rfl) ?_
 rcases hM.st with⟨rfl,hs⟩|⟨b,cs,rfl,h1,h2,h3⟩
 ·have hA:=Zb (H:=H) (V:=V) (.ptr ka 0) rfl rfl
  have b1':(H++[fq.cells false [AV.ptr ka 0]])[m]? = _:=(gal hml).trans b1
  simp only[pf90,↓fm,wall,simprocAttr,wH,fw,fj,b1,hA,b1']
  refine⟨F,.bs H.length 0 1 1 false,fa,{s with stack:=v::s.stack},⟨rfl,rfl,rfl⟩,hM.upd hF ⟨Bl,tb,t2,t3,ea,gse (by simp;omega),b2,b3⟩ (.inr ⟨H.length,[.ptr ka 0],by simp[hs],(gsn (by omega)).trans gae,by simp[hs], ?_⟩)
   (hM.fr.jb λk e => ?_) (λk hk hn => ?_) (by simp) (λk hk => ?_) (λk e => ?_) hM.d2⟩
  ·rw[hs];exact .one hv
  ·rw[gsn (hM.d2 k e),gal (hM.fr.lt e)]
  ·rw[gsn λe=>hn (.inl e),gal hk]
  ·rcases hk with hk|hk|hk
   ·exact .inl (.inl hk)
   ·cases hk;exact .inr (di _)
   ·exact .inl (.inr (.inr hk))
  ·cases e;exact⟨by omega,λe=>by have:=hM.fr.lt e;omega⟩
 ·have hA:=Ln (V:=V) (es:=1) (ag:=false) h1 (Nat.mul_one _) h2 hb (.ptr ka 0) rfl rfl
  obtain⟨d1,d2⟩:=hM.d1 b rfl
  have hbl:=fu h1
  have b1':(H.set b .dead++[fq.cells false (cs.take s.stack.length++[AV.ptr ka 0])])[m]? = _:=(gal (by simpa using hml)).trans ((gsn λe=>d1 e.symm).trans b1)
  simp only[pf90,↓fm,wall,simprocAttr,wH,fw,fj,b1,hA,b1']
  have hlt:(cs.take s.stack.length++[AV.ptr ka 0]).length=s.stack.length+1:=by simp;omega
  refine⟨F,.bs H.length 0 (s.stack.length+1) 1 false,fa,{s with stack:=v::s.stack},⟨rfl,rfl,rfl⟩,hM.upd hF ⟨Bl,tb,t2,t3,ea,gse (by simp;omega),b2,b3⟩ (.inr ⟨H.length,_,rfl,(gsn (by omega)).trans a3w,by rw[hlt];exact di _, ?_⟩)
   (hM.fr.jb λk e => ?_) (λk hk hn => ?_) (by simp) (λk hk => ?_) (λk e => ?_) hM.d2⟩
  ·rw[au (by rw[hlt];exact di _)]
   exact(by rw[List.reverse_cons];exact h3.app (.one hv))
  ·rw[gsn (hM.d2 k e),gal (by simpa using hM.fr.lt e),gsn λh=>d2 (by rw[<- h];exact e)]
  ·rw[gsn λe=>hn (.inl e),gal (by simpa using hk),gsn λe=>hn (.inr (.inl (by rw[e];rfl)))]
  ·rcases hk with hk|hk|hk
   ·exact .inl (.inl hk)
   ·cases hk;exact .inr (di _)
   ·exact .inl (.inr (.inr hk))
  ·cases e;exact⟨by omega,λe=>by have:=hM.fr.lt e;omega⟩
end Go.Proofs.Eng
namespace Go.Proofs.Eng
open Go Go.Proofs
set_option maxRecDepth 100000
set_option maxHeartbeats 16000000
theorem VRs.Zt {F:Fz}:∀{p:List Vl} {l:List AV},VRs F p l->(l.all λx=>x.cells.length==1)=true
 | [],l,h=>by rw[VRs]at h;subst h;rfl
 | v::p,l,h=>by
  rw[VRs]at h
  obtain⟨a,l',rfl,h1,h2⟩:=h
  obtain⟨k,rfl⟩:=h1.ptr
  rw[cz,VRs.Zt h2];rfl
theorem vw {F:Fz} {H:List fq} {V:List Nat} {m:Nat} {sa fa:AV} {c:Cd} {s:Ms} {v:Vl} {st:List Vl} (hM:MR F H m sa fa c s) (hF:Fro F H) (hs:s.stack=v::st) (hb:s.stack.length<=1000000) :
  Mw 91 [.ptr m 0] F H V m sa fa c λr F' s'=>VR F v r/\F'=F/\s' = {s with stack:=st}:=by
 obtain⟨Bl,tb,t2,t3,ea,b1,b2,b3⟩:=hM.m6
 have hml:=fu b1
 simp only[mcs]at b1
 refine ju pf91_is (dh rfl) ?_
 rcases hM.st with⟨rfl,hn⟩|⟨b,cs,rfl,h1,h2,h3⟩
 ·rw[hs]at hn;cases hn
 obtain⟨d1,d2⟩:=hM.d1 b rfl
 have hbl:=fu h1
 have hl:s.stack.length=st.length+1:=by rw[hs];rfl
 rw[hl]at b1 h2 h3 hb
 rw[hs,List.reverse_cons]at h3
 obtain⟨k1,k2⟩:=VRs.split h3
 rw[List.length_reverse]at k1 k2
 rw[VRs]at k2
 obtain⟨a,l',e,k2,k3⟩:=k2
 rw[VRs]at k3;subst k3
 obtain⟨ka,rfl⟩:=k2.ptr
 rw[List.take_take,Nat.min_eq_left (by omega)]at k1
 have hget:cs[st.length]? = some (.ptr ka 0):=by
  have:=congrArg (λl=>l[0]?) e
  simp only[ba,bc,Nat.add_zero,bw]at this
  rw[if_pos (by omega)]at this;exact this
 have hw:IntKind.i64.wrap (((st.length+1:Nat):Int)-1)=(st.length:Nat):=(gw (by unfold jn;omega)).trans (by omega)
 have hlt1:((st.length:Nat):Int)<(st.length+1:Nat):=by omega
 have hle1:((st.length:Nat):Int)<=(st.length+1:Nat):=by omega
 have hhd:(cs.drop (st.length*1)).head? = some (.ptr ka 0):=by rw[Nat.mul_one,List.head?_drop];exact hget
 have hcut:xd b 0 (st.length+1) 1 1 false 0 st.length true none=some (.bs b 0 st.length 1 false):=by simp[xd]
 simp only[pf91,↓fm,wall,simprocAttr,wH,fw,fj,b1,hl,h1,hhd,hw,hlt1,hle1,Option.map_none,hcut]
 refine⟨F,.bs b 0 st.length 1 false,fa,{s with stack:=st},⟨k2,rfl,rfl⟩,hM.upd hF ⟨Bl,tb,t2,t3,ea,gse hml,b2,b3⟩ (.inr ⟨b,cs,rfl,(gsn d1).trans h1,by show st.length<=_;omega,k1⟩)
  (hM.fr.jb λk e=>gsn (hM.d2 k e)) (λk hk hn=>gsn λe=>hn (.inl e)) (by simp) (λk hk => ?_) (λk e => ?_) hM.d2⟩
 ·rcases hk with hk|hk|hk
  ·exact .inl (.inl hk)
  ·exact .inl (.inr (.inl hk))
  ·exact .inl (.inr (.inr hk))
 ·cases e;exact⟨d1,d2⟩
theorem pn {F:Fz} {e:List Vl} {a:AV} (h:ER F e a):ic a=true:=by
 cases e with
 | nil=>rw[ER]at h;subst h;rfl
 | cons v e=>rw[ER]at h;obtain⟨k,_,_,rfl,_⟩:=h;rfl
theorem mr {F:Fz} {e:List Vl} {a:AV} (h:ER F e a):a.known=true:=by
 cases e with
 | nil=>rw[ER]at h;subst h;rfl
 | cons v e=>rw[ER]at h;obtain⟨k,_,_,rfl,_⟩:=h;rfl
theorem m7 {F:Fz} {e:List Vl} {a:AV} (h:ER F e a):a.cells=[a]:=by
 cases e with
 | nil=>rw[ER]at h;subst h;rfl
 | cons v e=>rw[ER]at h;obtain⟨k,_,_,rfl,_⟩:=h;rfl
theorem Bp {F:Fz} {H:List fq} {V:List Nat} {m:Nat} {sa fa:AV} {c:Cd} {s:Ms} {e:List Vl} {a:AV} (b:Nat) (hM:MR F H m sa fa c s) (hF:Fro F H) (he:ER F e a) (hb:s.gq.length<=1000000) :
  Mw 92 [.ptr m 0,.int (b:Nat),a] F H V m sa fa c λr F' s'=>F'=F/\((65536<=s.gq.length/\r = .int 7/\s'=s)\/(s.gq.length<65536/\r = .int 0/\s' = {s with now:=⟨b,0,e⟩,gq:=s.now::s.gq})):=by
 obtain⟨Bl,tb,t2,t3,ea,b1,b2,b3⟩:=hM.m6
 have hml:=fu b1
 have ec:=m7 he
 have ec':=m7 b3
 have eo:=pn he
 have eo':=pn b3
 have ek:=mr he
 have hone:(([.int (s.now.bk:Nat),.int (s.now.at':Nat),ea]:List AV).length==3&&([.int (s.now.bk:Nat),.int (s.now.at':Nat),ea]:List AV).all ic)=true:=by
  simp only[cz,List.all_nil,eo'];rfl
 simp only[mcs]at b1
 refine ju pf92_is (dh rfl) ?_
 rcases hM.fr with⟨rfl,hn⟩|⟨b',cs,rfl,h1,h2,h3⟩
 ·have hd:decide ((0:Int)>=65536)=false:=rfl
  have hA:=Ir (H:=H) (V:=V) (.agg [.int (s.now.bk:Nat),.int (s.now.at':Nat),ea]) rfl hone
  have b1':(H++[fq.cells false [.int (s.now.bk:Nat),.int (s.now.at':Nat),ea]])[m]? = _:=(gal hml).trans b1
  have hmA:m<(H++[fq.cells false [.int (s.now.bk:Nat),.int (s.now.at':Nat),ea]]).length:=by simp;omega
  simp only[pf92,↓fm,wall,simprocAttr,wH,fw,fj,b1,hA,hd,ec,ec',b1',eo,ek,gse hmA,List.set_set]
  refine⟨F,sa,.bs H.length 0 1 3 true,{s with now:=⟨b,0,e⟩,gq:=s.now::s.gq},⟨rfl,.inr ⟨by rw[hn];decide,rfl,rfl⟩⟩,hM.upd hF ⟨Bl,tb,t2,t3,a,gse hmA,b2,he⟩ (hM.st.jb λk e => ?_)
   (.inr ⟨H.length,[.int (s.now.bk:Nat),.int (s.now.at':Nat),ea],by simp[hn],(gsn (by omega)).trans gae,by simp[hn], ?_⟩) (λk hk hn => ?_) (by simp) (λk hk => ?_) (λk e => ?_) (λk e => ?_)⟩
  ·rw[gsn (hM.d1 k e).1,gal (hM.st.lt e)]
  ·rw[hn];exact⟨ea,[],rfl,b3,rfl⟩
  ·rw[gsn λe=>hn (.inl e),gal hk]
  ·rcases hk with hk|hk|hk
   ·exact .inl (.inl hk)
   ·exact .inl (.inr (.inl hk))
   ·cases hk;exact .inr (di _)
  ·exact⟨(hM.d1 k e).1,λh=>by cases h;have:=hM.st.lt e;omega⟩
  ·cases e;omega
 ·obtain⟨d2,d1⟩:b' ≠ m/\ql sa ≠ some b':=⟨hM.d2 b' rfl,λe=>(hM.d1 b' e).2 rfl⟩
  rcases dj s.gq.length 65536 with hlt|hge
  ·have hd:decide (((s.gq.length:Nat):Int)>=65536)=false:=by simp;omega
   have hA:=Ln (V:=V) (es:=3) (ag:=true) h1 (Nat.mul_comm _ _) h2 hb (.agg [.int (s.now.bk:Nat),.int (s.now.at':Nat),ea]) rfl hone
   have b1':(H.set b' .dead++[fq.cells false (cs.take (3*s.gq.length)++[.int (s.now.bk:Nat),.int (s.now.at':Nat),ea])])[m]? = _:=(gal (by simpa using hml)).trans ((gsn λe=>d2 e.symm).trans b1)
   have hmA:m<(H.set b' .dead++[fq.cells false (cs.take (3*s.gq.length)++[.int (s.now.bk:Nat),.int (s.now.at':Nat),ea])]).length:=by simp;omega
   simp only[pf92,↓fm,wall,simprocAttr,wH,fw,fj,b1,hA,hd,ec,ec',b1',eo,ek,gse hmA,List.set_set]
   have hle:(cs.take (3*s.gq.length)++[.int (s.now.bk:Nat),.int (s.now.at':Nat),ea]:List AV).length=3*(s.gq.length+1):=by simp;omega
   refine⟨F,sa,.bs H.length 0 (s.gq.length+1) 3 true,{s with now:=⟨b,0,e⟩,gq:=s.now::s.gq},⟨rfl,.inr ⟨hlt,rfl,rfl⟩⟩,hM.upd hF ⟨Bl,tb,t2,t3,a,gse hmA,b2,he⟩ (hM.st.jb λk e => ?_)
    (.inr ⟨H.length,_,rfl,(gsn (by omega)).trans a3w,by rw[hle];exact di _, ?_⟩) (λk hk hn => ?_) (by simp) (λk hk => ?_) (λk e => ?_) (λk e => ?_)⟩
   ·rw[gsn (hM.d1 k e).1,gal (by simpa using hM.st.lt e),gsn λh=>d1 (by rw[<- h];exact e)]
   ·rw[au (by rw[hle];exact di _)]
    exact(by rw[List.reverse_cons];exact h3.app ⟨ea,[],rfl,b3,rfl⟩)
   ·rw[gsn λe=>hn (.inl e),gal (by simpa using hk),gsn λe=>hn (.inr (.inr (by rw[e];rfl)))]
   ·rcases hk with hk|hk|hk
    ·exact .inl (.inl hk)
    ·exact .inl (.inr (.inl hk))
    ·cases hk;exact .inr (di _)
   ·exact⟨(hM.d1 k e).1,λh=>by cases h;have:=hM.st.lt e;omega⟩
   ·cases e;omega
  ·have hd:decide (((s.gq.length:Nat):Int)>=65536)=true:=by simp;omega
   simp only[pf92,↓fm,wall,simprocAttr,wH,fw,fj,b1,hd]
   exact⟨F,sa,_,s,⟨rfl,.inl ⟨hge,rfl,rfl⟩⟩,hM,hF,.refl _ _ _⟩
end Go.Proofs.Eng
namespace Go.Proofs.Eng
open Go Go.Proofs
set_option maxRecDepth 100000
set_option maxHeartbeats 16000000
theorem Ew {F:Fz} {H:List fq} {V:List Nat} {m:Nat} {sa fa:AV} {c:Cd} {s:Ms} {e vs:List Vl} {l:List AV} {a x:AV} (hM:MR F H m sa fa c s) (hF:Fro F H) (he:ER F e a) (hx:PA F l x) (hv:VRs F vs l) (hl:l.length<=1000000) :
  Mw 93 [a,x] F H V m sa fa c λr F' s'=>s'=s/\ER F' (vs.reverse++e) r:=by
 refine ju pf93_is (dh rfl) ?_
 have hone:=hv.Zt
 have hlb:jj=9223372036854775807:=rfl
 have hlen:=hv.len
 have fin:∀{F' H' V' r},MR F' H' m sa fa c s->Fro F' H'->Nx F H (Own m sa fa) F' H' (Own m sa fa)->ER F' (vs.reverse++e) r->MQ F H m sa fa c (λr F' s'=>s'=s/\ER F' (vs.reverse++e) r) r ⟨H',V'⟩:=λh1 h2 h3 h4=>⟨_,sa,fa,s,⟨rfl,h4⟩,h1,h2,h3⟩
 have main:∀{x:AV},PA F l x -> ∀(j:Nat) (F':Fz) (H':List fq),j<l.length->Fro F' H'->FLe F F' -> ∃a v,vs[j]? = some v/\l[j]? = some a/\VR F' v a/\(∀b,x = .bs b 0 l.length 1 false->H'[b]? = some (.cells false l)):=by
  intro x hx j F' H' hj hF' hle
  have hjv:j<vs.length:=by omega
  obtain⟨a,h1,h2⟩:=hv.at (i:=j) (aa hjv)
  refine⟨a,vs[j],aa hjv,h1,VR.mono hle _ _ h2,λb e => ?_⟩
  rcases hx with⟨t,rfl⟩|⟨b',rfl,hb⟩
  ·cases e
  ·cases e;exact hF' _ _ (hle _ _ hb)
 rcases id hx with⟨t,rfl⟩|⟨b,rfl,hb⟩
 ·simp only[pf93,↓fm,wall,simprocAttr,wH,fw,fj]
  refine j7 (λj=>l.length-j) (λj E H' V'=>∃F' a,j<=l.length/\E 0=a/\E 7 = .sl l t/\E 8 = .int l.length/\E 9 = .int (j:Nat)/\MR F' H' m sa fa c s/\Fro F' H'/\Nx F H (Own m sa fa) F' H' (Own m sa fa)/\ER F' ((vs.take j).reverse++e) a) ?_ 0
   ⟨F,a,dk _,rfl,rfl,rfl,rfl,hM,hF,.refl _ _ _,he⟩
  rintro j E H' V' ⟨F',a,hj,e0,e7,e8,e9,hM',hF',hN,he⟩
  rcases dj j l.length with hlt|hge
  ·have hdec:decide ((j:Int)<l.length)=true:=by simpa using hlt
   obtain⟨x,v,g1,g2,g3,g4⟩:=main hx j F' H' hlt hF' hN.le
   obtain⟨kx,rfl⟩:=g3.ptr
   simp only[↓fm,wall,simprocAttr,wH,e0,e7,e8,e9,hdec,g2,hone,mr he,pn he,m7 he]
   obtain⟨n1,n2,n3,n4⟩:=hM'.alloc hF' [.ptr kx 0,a]
   refine jg ⟨j+1,by omega,_,_,by omega,rfl,e7,e8,ij (by omega),n1,n2,hN.trans n3, ?_⟩
   rw[bj,g1,List.reverse_append,Option.toList,List.reverse_singleton,aj,bn,bo,ER]
   exact⟨H'.length,.ptr kx 0,a,rfl,n4,VR.mono n3.le _ _ g3,ER.mono n3.le _ _ he⟩
  ·have hdec:decide ((j:Int)<l.length)=false:=by simpa using hge
   simp only[↓fm,wall,simprocAttr,wH,e0,e7,e8,e9,hdec,fw,fj]
   rw[au (by omega)]at he
   exact fin hM' hF' hN he
 ·simp only[pf93,↓fm,wall,simprocAttr,wH,fw,fj]
  refine j7 (λj=>l.length-j) (λj E H' V'=>∃F' a,j<=l.length/\E 0=a/\E 7 = .bs b 0 l.length 1 false/\E 8 = .int l.length/\E 9 = .int (j:Nat)/\MR F' H' m sa fa c s/\Fro F' H'/\Nx F H (Own m sa fa) F' H' (Own m sa fa)/\ER F' ((vs.take j).reverse++e) a) ?_ 0
   ⟨F,a,dk _,rfl,rfl,rfl,rfl,hM,hF,.refl _ _ _,he⟩
  rintro j E H' V' ⟨F',a,hj,e0,e7,e8,e9,hM',hF',hN,he⟩
  rcases dj j l.length with hlt|hge
  ·have hdec:decide ((j:Int)<l.length)=true:=by simpa using hlt
   obtain⟨x,v,g1,g2,g3,g4⟩:=main hx j F' H' hlt hF' hN.le
   obtain⟨kx,rfl⟩:=g3.ptr
   have g5:=g4 b rfl
   have hlt1:((j:Nat):Int)<(l.length:Nat):=by omega
   have hhd:(l.drop (j*1)).head? = some (.ptr kx 0):=by rw[Nat.mul_one,List.head?_drop];exact g2
   simp only[↓fm,wall,simprocAttr,wH,e0,e7,e8,e9,hdec,g2,hone,mr he,pn he,m7 he,g5,hlt1,hhd]
   obtain⟨n1,n2,n3,n4⟩:=hM'.alloc hF' [.ptr kx 0,a]
   refine jg ⟨j+1,by omega,_,_,by omega,rfl,e7,e8,ij (by omega),n1,n2,hN.trans n3, ?_⟩
   rw[bj,g1,List.reverse_append,Option.toList,List.reverse_singleton,aj,bn,bo,ER]
   exact⟨H'.length,.ptr kx 0,a,rfl,n4,VR.mono n3.le _ _ g3,ER.mono n3.le _ _ he⟩
  ·have hdec:decide ((j:Int)<l.length)=false:=by simpa using hge
   simp only[↓fm,wall,simprocAttr,wH,e0,e7,e8,e9,hdec,fw,fj]
   rw[au (by omega)]at he
   exact fin hM' hF' hN he
end Go.Proofs.Eng
namespace Go.Proofs.Eng
open Go Go.Proofs
set_option maxRecDepth 100000
set_option maxHeartbeats 16000000
def a5u:=And.intro @List.getLast?_cons_cons.{0} (And.intro @List.getLast?_singleton.{0} (And.intro @List.dropLast_cons_cons.{0} (And.intro @List.dropLast_singleton.{0} (And.intro @a3c (And.intro @a4v (And.intro @Yr (And.intro @Vg (And.intro @a61 (@a64)))))))))
def Ms.push (s:Ms) (v:Vl):Ms:={s with stack:=v::s.stack}
def Ms.enter (s:Ms) (b:Nat) (e:List Vl):Ms × Int:=if 65536<=s.gq.length then(s,7)else({s with now:=⟨b,0,e⟩,gq:=s.now::s.gq},0)
def Cd.blk (c:Cd) (n:Nat):List Ins:=c.bl.getD n []
def Cd.brs (c:Cd) (f:Fr) (n:Nat):List Ins:=((c.blk f.bk).drop f.at').take n
def Ms.apply (s:Ms):Ms × Int:=match s.stack with
 | _ :: .box::st=>({s with stack:=.box::st},0)
 | a :: .clo n e::st=>Ms.enter {s with stack:=st} n.toNat (a::e)
 | _::_::st=>({s with stack:=st},10)
 | _=>(s,0)
def Ms.leave (s:Ms):Ms × Int:=match s.gq with
 | []=>({s with halted:=true},0)
 | f::fs=>({s with now:=f,gq:=fs},0)
def Ms.choose (c:Cd) (n:Nat) (s:Ms):Ms × Int:=match s.stack with
 | .ctor k _ p::st=>(match (c.brs s.now n)[k.toNat]? with
  | some y=>if y.b=(p.length:Nat)then Ms.enter {s with stack:=st,now:={s.now with at':=s.now.at'+n}} y.a.toNat (p.reverse++s.now.env)else({s with stack:=st},10)
  | none=>({s with stack:=st},10))
 | _::st=>({s with stack:=st},10)
 | []=>(s,0)
def Ms.part (b:Bool) (s:Ms):Ms × Int:=match s.stack with
 | .box::_=>(s,0)
 | .pair x y::st=>({s with stack:=(if b then y else x)::st},0)
 | _::st=>({s with stack:=st},10)
 | []=>(s,0)
def Ms.bind (s:Ms):Ms × Int:=match s.stack with
 | v::st=>({s with stack:=st,now:={s.now with env:=v::s.now.env}},0)
 | []=>(s,0)
def Ms.pair (s:Ms):Ms × Int:=match s.stack with
 | b::a::st=>({s with stack:=.pair a b::st},0)
 | _=>(s,0)
def Ms.variable (n:Nat) (s:Ms):Ms × Int:=match s.now.env[n]? with
 | some v=>(s.push v,0)
 | none=>(s,0)
def Ms.exec (c:Cd) (x:Ins) (s:Ms):Ms × Int:=
 if x.op=0 then s.variable x.a.toNat else if x.op=1 then(s.push (.clo x.a s.now.env),0)else if x.op=2 then s.apply else if x.op=3 then s.leave
 else if x.op=4 then({s with stack:=.ctor x.a x.n (s.stack.take x.b.toNat).reverse::s.stack.drop x.b.toNat},0)else if x.op=5 then s.choose c x.a.toNat
 else if x.op=7 then s.enter (c.st.getD x.a.toNat 0).toNat []else if x.op=8 then(s.push .box,0)else if x.op=9 then s.bind else if x.op=10 then({s with now:={s.now with env:=s.now.env.tail}},0)
 else if x.op=11 then s.pair else if x.op=12 then s.part false else if x.op=13 then s.part true else if x.op=14 then(s,30)else(s,27)
def Op (f:FuncId) (x:Ins) (s:Ms) (r:Ms × Int) (F:Fz) (H:List fq) (V:List Nat) (m:Nat) (sa fa:AV) (c:Cd):Prop:=
 MR F H m sa fa c s->Fro F H->Mw f [.ptr m 0,x.av] F H V m sa fa c λv _ s'=>s'=r.1/\v = .int r.2
section
variable {F:Fz} {H:List fq} {V:List Nat} {m:Nat} {sa fa:AV} {c:Cd} {s:Ms} {x:Ins}
theorem MR.F7 (hM:MR F H m sa fa c s) (hF:Fro F H) (g:fq) (l:List AV):∃F',MR F' (H++[g,.cells false l]) m sa fa c s/\Fro F' (H++[g,.cells false l])/\Nx F H (Own m sa fa) F' (H++[g,.cells false l]) (Own m sa fa)/\F' (H.length+1)=some l:=by
 obtain⟨h1,h2,h3⟩:=hM.more hF [g]
 obtain⟨k1,k2,k3,k4⟩:=h1.alloc h2 l
 rw[aj]at k1 k2 k3
 exact⟨_,k1,k2,h3.trans k3,by rw[show H.length+1=(H++[g]).length from by simp];exact k4⟩
theorem MR.Tm (hM:MR F H m sa fa c s) (hF:Fro F H) (l:List AV):∃F',MR F' (H++[.cells false l]) m sa fa c s/\Fro F' (H++[.cells false l])/\Nx F H (Own m sa fa) F' (H++[.cells false l]) (Own m sa fa)/\F' H.length=some l:=by
 obtain⟨h1,h2,h3,h4⟩:=hM.alloc hF l
 exact⟨_,h1,h2,h3,h4⟩
theorem Mv (hb:s.stack.length<=1000000):Op 43 x s (s.push (.clo x.a s.now.env),0) F H V m sa fa c:=by
 intro hM hF
 obtain⟨Bl,tb,t2,t3,ea,b1,b2,b3⟩:=hM.m6
 have hml:=fu b1
 obtain⟨F1,n1,n2,n3,n4⟩:=hM.F7 hF (.cells false [.int x.op,.int x.a,.int x.b,.str x.n]) [.int 1,.int x.a,.str ⟨#[]⟩,ea,.sl [] .nil]
 have hv:VR F1 (.clo x.a s.now.env) (.ptr (H.length+1) 0):=by rw[VR];exact⟨_,ea,rfl,n4,ER.mono n3.le _ _ b3⟩
 obtain⟨r,⟨H',V'⟩,⟨F',sa',fa',s',⟨rfl,rfl,rfl⟩,q1,q2,q3⟩,cp⟩:=(nn (V:=V) n1 n2 hv hb).call rfl
 simp only[mcs]at b1
 refine ju pf43_is (dh rfl) ?_
 simp only[pf43,↓fm,wall,simprocAttr,wH,fw,fj,Ins.av,b1,(gal hml).trans b1,cp,a5u,mr b3,pn b3,m7 b3]
 exact⟨_,_,_,_,⟨rfl,rfl⟩,q1,q2,n3.trans q3⟩
theorem Ut:Op 56 x s (s,30) F H V m sa fa c:=by
 intro hM hF
 obtain⟨n1,n2,n3⟩:=hM.more hF [.cells false [.int x.op,.int x.a,.int x.b,.str x.n]]
 refine ju pf56_is (dh rfl) ?_
 simp only[pf56,↓fm,wall,simprocAttr,wH,fw,fj,Ins.av]
 exact⟨_,_,_,_,⟨rfl,rfl⟩,n1,n2,n3⟩
theorem a3q (hb:s.stack.length<=1000000):Op 50 x s (s.push .box,0) F H V m sa fa c:=by
 intro hM hF
 obtain⟨F1,n1,n2,n3,n4⟩:=hM.F7 hF (.cells false [.int x.op,.int x.a,.int x.b,.str x.n]) [.int 0,.int 0,.str ⟨#[]⟩,.v (.pointer none),.sl [] .nil]
 have hv:VR F1 .box (.ptr (H.length+1) 0):=by rw[VR];exact⟨_,rfl,n4⟩
 obtain⟨r,⟨H',V'⟩,⟨F',sa',fa',s',⟨rfl,rfl,rfl⟩,q1,q2,q3⟩,cp⟩:=(nn (V:=V) n1 n2 hv hb).call rfl
 refine ju pf50_is (dh rfl) ?_
 simp only[pf50,↓fm,wall,simprocAttr,wH,fw,fj,Ins.av,cp]
 exact⟨_,_,_,_,⟨rfl,rfl⟩,q1,q2,n3.trans q3⟩
theorem Pc {n b:Nat} (ha:x.a=(n:Nat)) (hs:c.st[n]? = some ((b:Nat):Int)) (hb:s.gq.length<=1000000):Op 49 x s (s.enter b []) F H V m sa fa c:=by
 intro hM hF
 obtain⟨Bl,tb,t2,t3,ea,b1,b2,b3⟩:=hM.m6
 have hml:=fu b1
 obtain⟨n1,n2,n3⟩:=hM.more hF [.cells false [.int x.op,.int x.a,.int x.b,.str x.n]]
 obtain⟨r,⟨H',V'⟩,⟨F',sa',fa',s',⟨rfl,hr⟩,q1,q2,q3⟩,cp⟩:=(Bp (V:=V) (a:=.v (.pointer none)) (e:=[]) b n1 n2 (by rw[ER]) hb).call rfl
 have hnl:n<(ints c.st).length:=by rw[ig];exact(List.getElem?_eq_some_iff.1 hs).1
 have hlt1:((n:Nat):Int)<((ints c.st).length:Nat):=by omega
 have hget:(ints c.st)[n]? = some (.int (b:Nat)):=by rw[ints,bh,hs];rfl
 have hone:((ints c.st).all λx=>x.cells.length==1)=true:=by rw[aw];intro y hy;obtain⟨_,_,rfl⟩:=List.mem_map.1 hy;rfl
 simp only[mcs]at b1
 rw[ha]at cp
 refine ju pf49_is (dh rfl) ?_
 simp only[pf49,↓fm,wall,simprocAttr,wH,fw,fj,Ins.av,ha,(gal hml).trans b1,cp,hget,hlt1,hone]
 refine⟨_,_,_,_, ?_,q1,q2,n3.trans q3⟩
 rcases hr with⟨h1,rfl,rfl⟩|⟨h1,rfl,rfl⟩
 ·rw[Ms.enter,if_pos h1];exact⟨rfl,rfl⟩
 ·rw[Ms.enter,if_neg (by omega)];exact⟨rfl,rfl⟩
theorem Qi {v:Vl} {e:List Vl} (he:s.now.env=v::e):Op 52 x s ({s with now:={s.now with env:=e}},0) F H V m sa fa c:=by
 intro hM hF
 obtain⟨n1,n2,n3⟩:=hM.more hF [.cells false [.int x.op,.int x.a,.int x.b,.str x.n]]
 obtain⟨Bl,tb,t2,t3,ea,b1,b2,b3⟩:=n1.m6
 have hml:=fu b1
 rw[he,ER]at b3
 obtain⟨k,av,ea',rfl,e2,e3,e4⟩:=b3
 have e5:=n2 _ _ e2
 simp only[mcs]at b1
 refine ju pf52_is (dh rfl) ?_
 simp only[pf52,↓fm,wall,simprocAttr,wH,fw,fj,Ins.av,b1,e5,mr e4,pn e4,m7 e4]
 obtain⟨k1,k2,k3⟩:=n1.upd n2 (s':={s with now:={s.now with env:=e}}) ⟨Bl,tb,t2,t3,ea',gse hml,b2,e4⟩ (n1.st.jb λb e=>gsn (n1.d1 b e).1) (n1.fr.jb λb e=>gsn (n1.d2 b e)) (λk _ hn=>gsn λe=>hn (.inl e)) (by simp) (λk h=>.inl h) n1.d1 n1.d2
 exact⟨_,_,_,_,⟨rfl,rfl⟩,k1,k2,n3.trans k3⟩
end
end Go.Proofs.Eng
namespace Go.Proofs.Eng
open Go Go.Proofs
set_option maxRecDepth 100000
set_option maxHeartbeats 16000000
section
variable {F:Fz} {H:List fq} {V:List Nat} {m:Nat} {sa fa:AV} {c:Cd} {s:Ms} {x:Ins}
theorem Zy {b a:Vl} {st:List Vl} (hs:s.stack=b::a::st) (hb:s.stack.length<=1000000):Op 53 x s s.pair F H V m sa fa c:=by
 intro hM hF
 obtain⟨n1,n2,n3⟩:=hM.more hF [.cells false [.int x.op,.int x.a,.int x.b,.str x.n]]
 obtain⟨vb,⟨H1,V1⟩,⟨F1,sa1,fa1,s1,⟨hvb,rfl,rfl⟩,p1,p2,p3⟩,cp⟩:=(vw (V:=V) n1 n2 hs hb).call rfl
 obtain⟨kb,rfl⟩:=hvb.ptr
 rw[hs]at hb
 simp only[ak]at hb
 obtain⟨va,⟨H2,V2⟩,⟨F2,sa2,fa2,s2,⟨hva,rfl,rfl⟩,q1,q2,q3⟩,cq⟩:=(vw (V:=V1) p1 p2 (v:=a) (st:=st) rfl (by simp only[ak];omega)).call rfl
 obtain⟨ka,rfl⟩:=hva.ptr
 obtain⟨F9,o1,o2,o3,o4⟩:=q1.Tm q2 [.int 3,.int 0,.str ⟨#[]⟩,.v (.pointer none),.sl [.ptr ka 0,.ptr kb 0] (.cap 2)]
 have hv:VR F9 (.pair a b) (.ptr H2.length 0):=by rw[VR];exact⟨_,_,_,_,rfl,o4,VR.mono o3.le _ _ hva,VR.mono o3.le _ _ hvb⟩
 obtain⟨r,⟨H3,V3⟩,⟨F3,sa3,fa3,s3,⟨rfl,rfl,rfl⟩,u1,u2,u3⟩,cu⟩:=(nn (V:=V2) o1 o2 hv (by show st.length<=_;omega)).call rfl
 refine ju pf53_is (dh rfl) ?_
 simp only[pf53,↓fm,wall,simprocAttr,wH,fw,fj,Ins.av,cp,cq,cu]
 exact⟨_,_,_,_,⟨by rw[Ms.pair,hs],by rw[Ms.pair,hs]⟩,u1,u2,n3.trans (p3.trans (q3.trans (o3.trans u3)))⟩
theorem VR.cells {v:Vl} {k:Nat} (hF:Fro F H) (h:VR F v (.ptr k 0)):match v with
  | .box=>H[k]? = some (.cells false [.int 0,.int 0,.str ⟨#[]⟩,.v (.pointer none),.sl [] .nil])
  | .clo n e=>∃ea,H[k]? = some (.cells false [.int 1,.int n,.str ⟨#[]⟩,ea,.sl [] .nil])/\ER F e ea
  | .ctor n nm p=>∃pa l,H[k]? = some (.cells false [.int 2,.int n,.str nm,.v (.pointer none),pa])/\PA F l pa/\VRs F p l
  | .pair x y=>∃ax ay t,H[k]? = some (.cells false [.int 3,.int 0,.str ⟨#[]⟩,.v (.pointer none),.sl [ax,ay] t])/\VR F x ax/\VR F y ay:=by
 cases v<;>rw[VR]at h<;>obtain⟨k',h⟩:=h
 ·obtain⟨e,h⟩:=h;cases e;exact hF _ _ h
 ·obtain⟨ea,e,h,h2⟩:=h;cases e;exact⟨ea,hF _ _ h,h2⟩
 ·obtain⟨pa,l,e,h,h2⟩:=h;cases e;exact⟨pa,l,hF _ _ h,h2⟩
 ·obtain⟨ax,ay,t,e,h,h2⟩:=h;cases e;exact⟨ax,ay,t,hF _ _ h,h2⟩
theorem Iz {v:Vl} {st:List Vl} (b:Bool) (hM:MR F H m sa fa c s) (hF:Fro F H) (hs:s.stack=v::st) (hb:s.stack.length<=1000000):Mw 95 [.ptr m 0,.int (if b then 1 else 0)] F H V m sa fa c λr _ s'=>s'=(s.part b).1/\r = .int (s.part b).2:=by
 obtain⟨a,⟨H1,V1⟩,⟨F1,sa1,fa1,s1,⟨hv,rfl,rfl⟩,p1,p2,p3⟩,cp⟩:=(vw (V:=V) hM hF hs hb).call rfl
 obtain⟨ka,rfl⟩:=hv.ptr
 have hc:=VR.cells p2 hv
 rw[hs]at hb
 simp only[ak]at hb
 refine ju pf95_is (dh rfl) ?_
 cases v with
 | box=>
  simp only at hc
  obtain⟨r,⟨H3,V3⟩,⟨F3,sa3,fa3,s3,⟨rfl,rfl,rfl⟩,u1,u2,u3⟩,cu⟩:=(nn (V:=V1) p1 p2 hv (by show st.length<=_;omega)).call rfl
  simp only[pf95,↓fm,wall,simprocAttr,wH,fw,fj,cp,hc,cu]
  refine⟨_,_,_,_,⟨?_,by rw[Ms.part,hs]⟩,u1,u2,p3.trans u3⟩
  rw[Ms.part,hs]
  cases s;simp only at hs;subst hs;rfl
 | clo n e=>
  obtain⟨ea,hc,_⟩:=hc
  simp only[pf95,↓fm,wall,simprocAttr,wH,fw,fj,cp,hc]
  exact⟨_,_,_,_,⟨by rw[Ms.part,hs],by rw[Ms.part,hs]⟩,p1,p2,p3⟩
 | ctor n nm p=>
  obtain⟨pa,l,hc,_⟩:=hc
  simp only[pf95,↓fm,wall,simprocAttr,wH,fw,fj,cp,hc]
  exact⟨_,_,_,_,⟨by rw[Ms.part,hs],by rw[Ms.part,hs]⟩,p1,p2,p3⟩
 | pair x y=>
  obtain⟨ax,ay,t,hc,h1,h2⟩:=hc
  obtain⟨kx,rfl⟩:=h1.ptr
  obtain⟨ky,rfl⟩:=h2.ptr
  cases b
  ·obtain⟨r,⟨H3,V3⟩,⟨F3,sa3,fa3,s3,⟨rfl,rfl,rfl⟩,u1,u2,u3⟩,cu⟩:=(nn (V:=V1) p1 p2 h1 (by show st.length<=_;omega)).call rfl
   simp only[pf95,↓fm,wall,simprocAttr,wH,fw,fj,cp,hc,cu]
   exact⟨_,_,_,_,⟨by rw[Ms.part,hs];rfl,by rw[Ms.part,hs]⟩,u1,u2,p3.trans u3⟩
  ·obtain⟨r,⟨H3,V3⟩,⟨F3,sa3,fa3,s3,⟨rfl,rfl,rfl⟩,u1,u2,u3⟩,cu⟩:=(nn (V:=V1) p1 p2 h2 (by show st.length<=_;omega)).call rfl
   simp only[pf95,↓fm,wall,simprocAttr,wH,fw,fj,cp,hc,cu]
   exact⟨_,_,_,_,⟨by rw[Ms.part,hs];rfl,by rw[Ms.part,hs]⟩,u1,u2,p3.trans u3⟩
end
end Go.Proofs.Eng
namespace Go.Proofs.Eng
open Go Go.Proofs
set_option maxRecDepth 100000
set_option maxHeartbeats 16000000
theorem MQ.of {F F' F1:Fz} {H H1:List fq} {m:Nat} {sa fa sa1 fa1 sa' fa':AV} {c:Cd} {P:AV->Fz->Ms->Prop} {v:AV} {s1:ASt} {s':Ms} (hp:P v F' s') (hn:Nx F H (Own m sa fa) F1 H1 (Own m sa1 fa1))
  (h:MR F' s1.H m sa' fa' c s'/\Fro F' s1.H/\Nx F1 H1 (Own m sa1 fa1) F' s1.H (Own m sa' fa')):MQ F H m sa fa c P v s1:=⟨F',sa',fa',s',hp,h.1,h.2.1,hn.trans h.2.2⟩
section
variable {F:Fz} {H:List fq} {V:List Nat} {m:Nat} {sa fa:AV} {c:Cd} {s:Ms} {x:Ins}
theorem Tz {v:Vl} {st:List Vl} (hs:s.stack=v::st) (hb:s.stack.length<=1000000):Op 54 x s (s.part false) F H V m sa fa c:=by
 intro hM hF
 obtain⟨n1,n2,n3⟩:=hM.more hF [.cells false [.int x.op,.int x.a,.int x.b,.str x.n]]
 obtain⟨r,⟨H1,V1⟩,⟨F1,sa1,fa1,s1,⟨rfl,rfl⟩,p1,p2,p3⟩,cp⟩:=(Iz (V:=V) false n1 n2 hs hb).call rfl
 simp only[dz,if_false]at cp
 refine ju pf54_is (dh rfl) ?_
 simp only[pf54,↓fm,wall,simprocAttr,wH,fw,fj,Ins.av,cp]
 exact⟨_,_,_,_,⟨rfl,rfl⟩,p1,p2,n3.trans p3⟩
theorem Ot {v:Vl} {st:List Vl} (hs:s.stack=v::st) (hb:s.stack.length<=1000000):Op 55 x s (s.part true) F H V m sa fa c:=by
 intro hM hF
 obtain⟨n1,n2,n3⟩:=hM.more hF [.cells false [.int x.op,.int x.a,.int x.b,.str x.n]]
 obtain⟨r,⟨H1,V1⟩,⟨F1,sa1,fa1,s1,⟨rfl,rfl⟩,p1,p2,p3⟩,cp⟩:=(Iz (V:=V) true n1 n2 hs hb).call rfl
 simp only[if_true]at cp
 refine ju pf55_is (dh rfl) ?_
 simp only[pf55,↓fm,wall,simprocAttr,wH,fw,fj,Ins.av,cp]
 exact⟨_,_,_,_,⟨rfl,rfl⟩,p1,p2,n3.trans p3⟩
theorem Js {n:Nat} {v:Vl} (ha:x.a=(n:Nat)) (hn:s.now.env[n]? = some v) (hb:s.stack.length<=1000000) (hn1:n<=1000000):Op 42 x s (s.push v,0) F H V m sa fa c:=by
 intro hM hF
 obtain⟨n1,n2,n3⟩:=hM.more hF [.cells false [.int x.op,.int x.a,.int x.b,.str x.n]]
 obtain⟨Bl,tb,t2,t3,ea,b1,b2,b3⟩:=n1.m6
 have hml:=fu b1
 have hlb:jj=9223372036854775807:=rfl
 have hx:(H++[fq.cells false [.int x.op,.int (n:Nat),.int x.b,.str x.n]])[H.length]? = some (.cells false [.int x.op,.int (n:Nat),.int x.b,.str x.n]):=gae
 have hnl:=(List.getElem?_eq_some_iff.1 hn).1
 simp only[mcs]at b1
 rw[ha]at b1 n1 n2 n3
 refine ju pf42_is (dh rfl) ?_
 simp only[pf42,↓fm,wall,simprocAttr,wH,fw,fj,Ins.av,ha,b1]
 refine j7 (λj=>n-j) (λj E H' V'=>∃a,j<=n/\E 0 = .ptr m 0/\E 5=a/\E 12 = .int (n:Nat)/\E 13 = .int (j:Nat)/\H'=H++[.cells false [.int x.op,.int (n:Nat),.int x.b,.str x.n]]/\V'=V/\ER F (s.now.env.drop j) a) ?_ 0
  ⟨ea,dk _,rfl,rfl,rfl,rfl,rfl,rfl,b3⟩
 rintro j E H' V' ⟨a,hj,e0,e5,e12,e13,rfl,rfl,he⟩
 have hjl:j<s.now.env.length:=by omega
 rw[bz hjl,ER]at he
 obtain⟨k,av,ea',rfl,g2,g3,g4⟩:=he
 have g5:=n2 _ _ g2
 rcases dj j n with hlt|hge
 ·have hdec:decide ((j:Int)<(n:Nat))=true:=by simpa using hlt
  simp only[↓fm,wall,simprocAttr,wH,e0,e5,e12,e13,hdec,g5,mr g4,pn g4,m7 g4]
  exact jg ⟨j+1,by omega,_,by omega,e0,rfl,e12,ij (by omega),rfl,rfl,g4⟩
 ·have hdec:decide ((j:Int)<(n:Nat))=false:=by simpa using hge
  obtain rfl:j=n:=by omega
  rw[aa hjl]at hn
  cases hn
  obtain⟨ka,rfl⟩:=g3.ptr
  obtain⟨r,⟨H1,V1⟩,⟨F1,sa1,fa1,s1,⟨rfl,rfl,rfl⟩,p1,p2,p3⟩,cp⟩:=(nn (V:=V') n1 n2 g3 hb).call rfl
  simp only[↓fm,wall,simprocAttr,wH,e0,e5,e12,e13,hdec,g5,cp,fw,fj]
  exact⟨_,_,_,_,⟨rfl,rfl⟩,p1,p2,n3.trans p3⟩
theorem Tx (hb:s.gq.length<=1000000):Op 45 x s s.leave F H V m sa fa c:=by
 intro hM hF
 obtain⟨n1,n2,n3⟩:=hM.more hF [.cells false [.int x.op,.int x.a,.int x.b,.str x.n]]
 obtain⟨Bl,tb,t2,t3,ea,b1,b2,b3⟩:=n1.m6
 have hml:=fu b1
 simp only[mcs]at b1
 refine ju pf45_is (dh rfl) ?_
 have done:∀{V':List Nat},s.gq=[]->MQ F H m sa fa c (λv _ s'=>s'=s.leave.1/\v = .int s.leave.2) (.int 0) ⟨(H++[fq.cells false [AV.int x.op,AV.int x.a,AV.int x.b,AV.str x.n]]).set m (.cells false (mcs Bl tb t2 t3 c (s.now.bk:Nat) (s.now.at':Nat) ea sa fa (s.steps:Nat) true s.err m)),V'⟩:=by
  intro V' h0
  obtain⟨k1,k2,k3⟩:=n1.upd n2 (s':={s with halted:=true}) ⟨Bl,tb,t2,t3,ea,gse hml,b2,b3⟩ (n1.st.jb λb e=>gsn (n1.d1 b e).1) (n1.fr.jb λb e=>gsn (n1.d2 b e)) (λk _ hn=>gsn λe=>hn (.inl e)) (by simp) (λk h=>.inl h) n1.d1 n1.d2
  exact⟨_,_,_,_,⟨by rw[Ms.leave,h0],by rw[Ms.leave,h0]⟩,k1,k2,n3.trans k3⟩
 simp only[mcs]at done
 have hw1:IntKind.i64.wrap (-1) = -1:=rfl
 rcases n1.fr with⟨rfl,hn⟩|⟨b,cs,rfl,h1,h2,h3⟩
 ·have hd:decide ((-1:Int)<0)=true:=rfl
  simp only[pf45,↓fm,wall,simprocAttr,wH,fw,fj,Ins.av,b1,hw1,hd]
  exact done hn
 cases hf:s.gq with
 | nil=>
  rw[hf]at b1
  have hd:decide ((-1:Int)<0)=true:=rfl
  have hw2:IntKind.i64.wrap ((([]:List Fr).length:Int)-1) = -1:=rfl
  simp only[pf45,↓fm,wall,simprocAttr,wH,fw,fj,Ins.av,b1,hw1,hw2,hd]
  rw[hf]at done
  exact done rfl
 | cons f fs=>
  have hl:s.gq.length=fs.length+1:=by rw[hf];rfl
  obtain⟨d2,d1⟩:b ≠ m/\ql sa ≠ some b:=⟨n1.d2 b rfl,λe=>(n1.d1 b e).2 rfl⟩
  rw[hl]at b1 h2 h3 hb
  rw[hf,List.reverse_cons]at h3
  obtain⟨k1,k2⟩:=FAs.split h3
  rw[List.length_reverse]at k1 k2
  obtain⟨ef,l',e,k3,k4⟩:=k2
  rw[FAs]at k4;subst k4
  rw[List.take_take,Nat.min_eq_left (by omega)]at k1
  have hdt:(cs.drop (fs.length*3)).take 3=[.int (f.bk:Nat),.int (f.at':Nat),ef]:=by
   rw[List.drop_take]at e
   rw[<- e,Nat.mul_comm];congr 1;omega
  have hl3:3<=(cs.drop (fs.length*3)).length:=by rw[b8];omega
  have gm:=λ(L:List fq) (y:fq)=>gsn (H:=L) (x:=y) d2
  have gb:=λ(L:List fq) (y:fq)=>gsn (H:=L) (x:=y) (λe=>d2 e.symm:m ≠ b)
  have hw:IntKind.i64.wrap (((fs.length+1:Nat):Int)-1)=(fs.length:Nat):=(gw (by unfold jn;omega)).trans (by omega)
  have hd:decide (((fs.length:Nat):Int)<0)=false:=by simp
  have hlt1:((fs.length:Nat):Int)<(fs.length+1:Nat):=by omega
  have hl33:fs.length*3+3<=cs.length:=by omega
  have hle1:((fs.length:Nat):Int)<=(fs.length+1:Nat):=by omega
  have hcut:xd b 0 (fs.length+1) 3 3 true 0 fs.length true (some (some (.cp b 0 3)))=some (.bs b 0 fs.length 3 true):=by simp[xd]
  simp only[pf45,↓fm,wall,simprocAttr,wH,fw,fj,Ins.av,b1,hw,hd,hlt1,hl33,hle1,hcut,fh,h1,hdt,hl3,gse hml,gm,gb,mr k3,pn k3,m7 k3]
  refine MQ.of (fa':=.bs b 0 fs.length 3 true) (s':={s with now:=f,gq:=fs}) ⟨by rw[Ms.leave,hf],by rw[Ms.leave,hf]⟩ n3 (n1.upd n2 ⟨Bl,tb,t2,t3,ef,gse (by simpa using hml),b2,k3⟩ (n1.st.jb λk e => ?_) (.inr ⟨b,_,rfl,(gsn d2).trans (gse (by simpa using fu h1)), ?_, ?_⟩) (λk hk hn => ?_) (by simp) (λk hk => ?_) (λk e => ?_) (λk e => ?_))
  ·have h:=(n1.d1 k e).1
   have h':k ≠ b:=λh=>d1 (by rw[<- h];exact e)
   rw[gsn h,gsn h',gsn h]
  ·simp only[ah,b7,ak,b8];omega
  ·rw[Nat.mul_comm 3 fs.length,List.take_append_of_le_length (by rw[b7];omega),List.take_take,Nat.min_self,Nat.mul_comm]
   exact k1
  ·have h:k ≠ m:=λe=>hn (.inl e)
   have h':k ≠ b:=λe=>hn (.inr (.inr (by rw[e];rfl)))
   rw[gsn h,gsn h',gsn h]
  ·rcases hk with hk|hk|hk
   ·exact .inl (.inl hk)
   ·exact .inl (.inr (.inl hk))
   ·cases hk;exact .inl (.inr (.inr rfl))
  ·exact⟨(n1.d1 k e).1,λh=>by cases h;exact d1 e⟩
  ·cases e;exact d2
end
end Go.Proofs.Eng
namespace Go.Proofs.Eng
open Go Go.Proofs
set_option maxRecDepth 100000
set_option maxHeartbeats 16000000
section
variable {F:Fz} {H:List fq} {V:List Nat} {m:Nat} {sa fa:AV} {c:Cd} {s:Ms} {x:Ins}
theorem S8 {a f:Vl} {st:List Vl} (hs:s.stack=a::f::st) (hb:s.stack.length<=1000000) (hfr:s.gq.length<=1000000) (hcl:∀n e,f = .clo n e->0<=n):Op 44 x s s.apply F H V m sa fa c:=by
 intro hM hF
 obtain⟨n1,n2,n3⟩:=hM.more hF [.cells false [.int x.op,.int x.a,.int x.b,.str x.n]]
 obtain⟨va,⟨H1,V1⟩,⟨F1,sa1,fa1,s1,⟨hva,rfl,rfl⟩,p1,p2,p3⟩,cp⟩:=(vw (V:=V) n1 n2 hs hb).call rfl
 obtain⟨ka,rfl⟩:=hva.ptr
 rw[hs]at hb
 simp only[ak]at hb
 obtain⟨vf,⟨H2,V2⟩,⟨F2,sa2,fa2,s2,⟨hvf,rfl,rfl⟩,q1,q2,q3⟩,cq⟩:=(vw (V:=V1) p1 p2 (v:=f) (st:=st) rfl (by simp only[ak];omega)).call rfl
 obtain⟨kf,rfl⟩:=hvf.ptr
 have hc:=VR.cells q2 hvf
 have hN:=n3.trans (p3.trans q3)
 refine ju pf44_is (dh rfl) ?_
 cases f with
 | box=>
  simp only at hc
  obtain⟨r,⟨H3,V3⟩,⟨F3,sa3,fa3,s3,⟨rfl,rfl,rfl⟩,u1,u2,u3⟩,cu⟩:=(nn (V:=V2) q1 q2 hvf (by show st.length<=_;omega)).call rfl
  simp only[pf44,↓fm,wall,simprocAttr,wH,fw,fj,Ins.av,cp,cq,hc,cu]
  exact MQ.of ⟨by rw[Ms.apply,hs],by rw[Ms.apply,hs]⟩ hN ⟨u1,u2,u3⟩
 | clo n e=>
  obtain⟨ea,hc,he⟩:=hc
  obtain⟨k,rfl⟩:∃k:Nat,n=(k:Nat):=⟨n.toNat,by have:=hcl n e rfl;omega⟩
  obtain⟨r,⟨H3,V3⟩,⟨F3,sa3,fa3,s3,⟨rfl,hr⟩,u1,u2,u3⟩,cu⟩:=(Ew (V:=V2) (x:=.sl [.ptr ka 0] (.cap 1)) q1 q2 he (.inl ⟨_,rfl⟩) (VRs.one hva) (by simp)).call rfl
  obtain⟨r2,⟨H4,V4⟩,⟨F4,sa4,fa4,s4,⟨rfl,h4⟩,y1,y2,y3⟩,cy⟩:=(Bp (V:=V3) k u1 u2 hr hfr).call rfl
  simp only[pf44,↓fm,wall,simprocAttr,wH,fw,fj,Ins.av,cp,cq,hc,cu,cy,mr he,pn he,m7 he]
  obtain⟨ea3,hc3,_⟩:=VR.cells u2 (VR.mono u3.le _ _ hvf)
  refine⟨⟨.int (k:Nat),by simp only at hc3;rw[hc3];rfl,by simp[ml,eqV]⟩,MQ.of ?_ (hN.trans u3) ⟨y1,y2,y3⟩⟩
  rw[Ms.apply,hs]
  simp only[ew]
  rcases h4 with⟨h1,rfl,rfl⟩|⟨h1,rfl,rfl⟩
  ·rw[Ms.enter,if_pos h1];exact⟨rfl,rfl⟩
  ·rw[Ms.enter,if_neg (by show ¬ 65536<=s.gq.length;exact Nat.not_le.2 h1)];exact⟨rfl,rfl⟩
 | ctor n nm p=>
  obtain⟨pa,l,hc,_⟩:=hc
  simp only[pf44,↓fm,wall,simprocAttr,wH,fw,fj,Ins.av,cp,cq,hc]
  exact MQ.of ⟨by rw[Ms.apply,hs],by rw[Ms.apply,hs]⟩ hN ⟨q1,q2,.refl _ _ _⟩
 | pair x y=>
  obtain⟨ax,ay,t,hc,h1,h2⟩:=hc
  simp only[pf44,↓fm,wall,simprocAttr,wH,fw,fj,Ins.av,cp,cq,hc]
  exact MQ.of ⟨by rw[Ms.apply,hs],by rw[Ms.apply,hs]⟩ hN ⟨q1,q2,.refl _ _ _⟩
end
end Go.Proofs.Eng
