/- The engine's calculus, ninth part: what holds behind code, computed from the code's end. No conditions. -/
import Derived.Test.YtflfmkkcnphdcaaGreatG4
import Derived.IntWalk
set_option linter.all false
set_option linter.deprecated false
set_option linter.unnecessarySimpa false
set_option linter.unusedVariables false
set_option linter.unusedSimpArgs false
set_option linter.defProp false
namespace Go.Proofs.Eng
abbrev Env:=Nat->AV
def Jz (e:Env) (d:Nat) (v:AV):Env:=λn=>if n=d then v else e n
def tmE (nt:Nat) (e:Env):List AV:=(List.range nt).map e
def v8 (l:List AV):Env:=λn=>l.getD n .undef
theorem D3 {nt n:Nat} {e:Env} (h:n<nt):(tmE nt e)[n]? = some (e n):=by simp[tmE,h]
theorem a63 {nt n:Nat} {e:Env} (h:n<nt):evX (tmE nt e) (.t n)=some (e n):=D3 h
theorem a66 {tm:List AV} {v:AV}:evX tm (.c v)=some v:=by rw[evX]
theorem a32 {tm:List AV} {s:ASt} {x:X}:opA tm s (.mov x)=((evX tm x).map (.val · s)):=Eq.trans rfl rfl
theorem Zx {tm:List AV} {s:ASt} {c:X} {a:X} {b:X}:opA tm s (.pick c a b)=(
  match evX tm c,evX tm a,evX tm b with
  | some (.v (.bool c)),some a,some b=>some (.val (if c then a else b) s)
  | _,_,_=>none):=Eq.trans rfl rfl
theorem Wd {tm:List AV} {s:ASt} {l:List AV}:opA tm s (.alloc l)=(some (.val (.ptr s.H.length 0) {s with H:=s.H++[.cells false l]})):=Eq.trans rfl rfl
theorem a58 {tm:List AV} {s:ASt} {x:X}:opA tm s (.box x)=((evX tm x).bind λa=>if a.known then some (.val (.ptr s.H.length 0) {s with H:=s.H++[.cells false a.cells]})else none):=Eq.trans rfl rfl
theorem Vz {tm:List AV} {s:ASt} {z:List AV} {ps:List (Nat × Nat × X)}:opA tm s (.build z ps)=((ui tm z ps).map λl=>.val (.agg l) s):=Eq.trans rfl rfl
theorem a45 {tm:List AV} {s:ASt} {z:AV} {n:Nat} {ps:List (Nat × Nat × X)}:opA tm s (.bsl z n ps)=((wz tm z.cells.length (List.replicate n z) ps).map λl=>.val (.sl l (.cap n)) s):=Eq.trans rfl rfl
theorem Xu {tm:List AV} {s:ASt} {ag:Bool} {n:Nat} {a:X}:opA tm s (.load ag n a)=(((evX tm a).bind (sf s ag n)).map (.val · s)):=Eq.trans rfl rfl
theorem Uh {tm:List AV} {s:ASt} {n:Nat} {a:X} {x:X}:opA tm s (.store n a x)=(
  match evX tm a,evX tm x with
  | some a,some x=>(uo s n x a).map (.val .undef ·)
  | _,_=>none):=Eq.trans rfl rfl
theorem Vq {tm:List AV} {s:ASt} {x:X}:opA tm s (.gy x)=(
  match evX tm x with
  | some (.ptr i o)=>some (.val (.ptr i o) s)
  | some (.ip l o)=>some (.val (.ip l o) s)
  | some (.fn f l)=>some (.val (.fn f l) s)
  | some (.bm f l)=>some (.val (.bm f l) s)
  | _=>none):=Eq.trans rfl rfl
theorem a4k {tm:List AV} {s:ASt} {op:BinOp} {x:X} {y:X}:opA tm s (.bin op x y)=(
  match evX tm x,evX tm y with
  | some a,some b=>(Fc op a b).map (.val · s)
  | _,_=>none):=Eq.trans rfl rfl
theorem a50 {tm:List AV} {s:ASt} {neg:Bool} {x:X} {y:X}:opA tm s (.eqb neg x y)=(
  match evX tm x,evX tm y with
  | some (.v (.bool a)),some (.v (.bool b))=>some (.val (.bool (neg ^^ (a==b))) s)
  | _,_=>none):=Eq.trans rfl rfl
theorem a4y {tm:List AV} {s:ASt} {neg:Bool} {x:X} {y:X}:opA tm s (.eqi neg x y)=(
  match evX tm x,evX tm y with
  | some a,some b=>(Km y.isC a b).map λr=>.val (.bool (neg ^^ r)) s
  | _,_=>none):=Eq.trans rfl rfl
theorem a4b {tm:List AV} {s:ASt} {neg:Bool} {x:X} {y:X}:opA tm s (.eqs neg x y)=(
  match evX tm x,evX tm y with
  | some a,some b=>(Kq a b).map λr=>.val (.bool (neg ^^ r)) s
  | _,_=>none):=Eq.trans rfl rfl
theorem Wp {tm:List AV} {s:ASt} {es:Nat} {x y n v d:X}:opA tm s (.Po es x y n v d)=(
  match evX tm x,(evX tm y).bind (zk s),evX tm n,evX tm v,evX tm d with
  | some (.sl l t),some [z],some (.v (.int _ k)),some q,some _=>
   if k=l.length/\z.cells.length=es/\z.cells.all ic=true then(Pt s es l t [q]).map λ(a,s)=>.val a s else none
  | _,_,_,_,_=>none):=Eq.trans rfl rfl
theorem a65 {tm:List AV} {s:ASt} {op:UnOp} {x:X}:opA tm s (.un op x)=(((evX tm x).bind (unA op)).map (.val · s)):=Eq.trans rfl rfl
theorem a04 {tm:List AV} {s:ASt} {k:IntKind} {x:X}:opA tm s (.conv k x)=(
  match evX tm x with
  | some (.v (.int _ n))=>some (.val (.v (.int k (k.wrap n))) s)
  | _=>none):=Eq.trans rfl rfl
theorem a0l {tm:List AV} {s:ASt} {t:TypeId} {x:X}:opA tm s (.L9 t x)=((evX tm x).map λa=>.val (.iface t a) s):=Eq.trans rfl rfl
theorem Zj {tm:List AV} {s:ASt} {f:FuncId} {caps:List X}:opA tm s (.Hv f caps)=((il (evX tm) caps).map λl=>.val (.fn f l) s):=Eq.trans rfl rfl
theorem a0k {tm:List AV} {s:ASt} {f:FuncId} {caps:List X}:opA tm s (.tn f caps)=((il (evX tm) caps).map λl=>.val (.bm f l) s):=Eq.trans rfl rfl
theorem Tj {tm:List AV} {s:ASt}  : opA tm s (.sm)=(some (.val (.mp s.H.length) {s with H:=s.H++[.map []]})):=Eq.trans rfl rfl
theorem Vn {tm:List AV} {s:ASt} {es:Nat} {x:X} {lo:Option X} {hi:Option X} {mx:Option X}:opA tm s (.slice es x lo hi mx)=(
  match evX tm x with
  | some (.sl l t)=>
   if l.all λx=>x.cells.length==es then
   match jd l.length 0 lo tm,jd l.length l.length hi tm with
   | some a,some b=>
    match mx with
    | none=>(nh es l t a b none).map (.val · s)
    | some m=>if hi.isSome then(jd l.length 0 (some m) tm).bind λm=>(nh es l t a b (some m)).map (.val · s)else none
   | _,_=>none
   else none
  | some (.bs i off len es' ag)=>
   match jd len 0 lo tm,jd len len hi tm with
   | some a,some b=>(xd i off len es es' ag a b hi.isSome (mx.map (evX tm))).map (.val · s)
   | _,_=>none
  | _=>none):=Eq.trans rfl rfl
theorem Rp {tm:List AV} {s:ASt} {d:Nat} {x:X}:opA tm s (.fy d x)=(
  match evX tm x with
  | some (.ptr i o)=>some (.val (.ptr i (o+d)) s)
  | some (.ip l o)=>if o+d<=l.length then some (.val (.ip l (o+d)) s)else none
  | _=>none):=Eq.trans rfl rfl
theorem Ry {tm:List AV} {s:ASt} {es:Nat} {x:X} {ix:X}:opA tm s (.j6 es x ix)=(
  match evX tm x,evX tm ix with
  | some (.sl l _),some (.v (.int _ n))=>
   if 0<=n/\(l.all λx=>x.cells.length==es)then(l[n.toNat]?).map λe=>.val (.ip e.cells 0) s else none
  | some (.bs i off len es' _),some (.v (.int _ n))=>
   if 0<=n/\n<len/\es=es' then some (.val (.ptr i (off+n.toNat*es)) s)else none
  | _,_=>none):=Eq.trans rfl rfl
theorem Pz {tm:List AV} {s:ASt} {len:Nat} {es:Nat} {x:X} {ix:X}:opA tm s (.y9 len es x ix)=(
  match evX tm x,evX tm ix with
  | some (.ptr i o),some (.v (.int _ n))=>if 0<=n/\n<len then some (.val (.ptr i (o+n.toNat*es)) s)else none
  | some (.ip l o),some (.v (.int _ n))=>if 0<=n/\n<len/\o+n.toNat*es<=l.length then some (.val (.ip l (o+n.toNat*es)) s)else none
  | _,_=>none):=Eq.trans rfl rfl
theorem Ws {tm:List AV} {s:ASt} {len:Nat} {es:Nat} {ag:Bool} {x:X} {ix:X}:opA tm s (.Mb len es ag x ix)=(
  match evX tm x,evX tm ix with
  | some (.agg l),some (.v (.int _ n))=>if 0<=n/\n<len then(x8 ag es (l.drop (n.toNat*es))).map (.val · s)else none
  | _,_=>none):=Eq.trans rfl rfl
theorem a00 {tm:List AV} {s:ASt} {x:X} {ix:X}:opA tm s (.Ho x ix)=(
  match evX tm x,evX tm ix with
  | some (.v (.string b)),some (.v (.int _ n))=>if 0<=n then(b.toList[n.toNat]?).map λc=>.val (.v (.int .u8 c.toNat)) s else none
  | _,_=>none):=Eq.trans rfl rfl
theorem X1 {tm:List AV} {s:ASt} {z:AV} {ok:Bool} {st:KK} {m:X} {k:X}:opA tm s (.look z ok st m k)=(
  match evX tm m,evX tm k with
  | some (.mp i),some k=>
   if tk st k then
   match s.H[i]? with
   | some (.map es)=>
    if ri s.H st k es then
    match n9 st k es with
    | some (some x)=>some (.val (if ok then .tup [x,.bool true]else x) s)
    | some none=>some (.val (if ok then .tup [z,.bool false]else z) s)
    | none=>none
    else none
   | _=>none
   else none
  | _,_=>none):=Eq.trans rfl rfl
theorem Uy {tm:List AV} {s:ASt} {st:KK} {m:X} {k:X} {x:X}:opA tm s (.sk st m k x)=(
  match evX tm m,evX tm k,evX tm x with
  | some (.mp i),some k,some x=>
   if tk st k then
   match s.H[i]? with
   | some (.map es)=>if ri s.H st k es then(upA st k x es).map λes=>.val .undef {s with H:=s.H.set i (.map es)} else none
   | _=>none
   else none
  | _,_,_=>none):=Eq.trans rfl rfl
theorem a3f {tm:List AV} {s:ASt} {x:X} {i:Nat}:opA tm s (.ext x i)=(
  match evX tm x with
  | some (.tup l)=>(l[i]?).map (.val · s)
  | _=>none):=Eq.trans rfl rfl
theorem Y6 {tm:List AV} {s:ASt} {t:TypeId} {ok:Bool} {z:AV} {x:X}:opA tm s (.Ym t ok z x)=(
  match evX tm x with
  | some (.iface u a)=>
   if u=t then some (.val (if ok then .tup [a,.bool true]else a) s)
   else if ok then some (.val (.tup [z,.bool false]) s)else none
  | some (.v .nilIface)=>if ok then some (.val (.tup [z,.bool false]) s)else none
  | _=>none):=Eq.trans rfl rfl
theorem Zw {tm:List AV} {s:ASt} {f:X} {args:List X}:opA tm s (.call f args)=(
  match evX tm f,il (evX tm) args with
  | some (.fn g caps),some l=>some (.call g (l++caps))
  | some (.bm g fs),some l=>some (.call g (fs++l))
  | _,_=>none):=Eq.trans rfl rfl
theorem a1v {tm:List AV} {s:ASt} {es:Nat} {bs:Option Bool} {x:X} {y:X}:opA tm s (.app es bs x y)=(
  match evX tm x,(evX tm y).bind (zk s)with
  | some (.sl l t),some xs=>(tr s es bs l t xs).map λ(a,s)=>.val a s
  | some (.bs i off len es' ag),some xs=>if bs.isSome then(Ps s es i off len es' ag xs).map λ(a,s)=>.val a s else none
  | _,_=>none):=Eq.trans rfl rfl
def Yz (s:ASt) (es:Nat) (ag tl:Bool) (a:AV):List AV->Option OpR
 | []=>some (.val (.sl [] (sj a)) s)
 | x::l=>if (x::l).length<=1073741824/\((x::l).all λx=>x.cells.length==es&&x.cells.all ic)then(match tl with
  | true=>some (.val (.sl (x::l) (.tl s.T.length 0)) {s with T:=s.T++[0]})
  | false=>some (.val (.bs s.H.length 0 (x::l).length es ag) {s with H:=s.H++[.cells false (flat (x::l))]}))else none
theorem Im {s:ASt} {es:Nat} {ag tl:Bool} {a:AV}:Yz s es ag tl a []=some (.val (.sl [] (sj a)) s):=Eq.trans rfl rfl
theorem Gf {s:ASt} {es:Nat} {ag:Bool} {a x:AV} {l:List AV}:Yz s es ag false a (x::l)=if (x::l).length<=1073741824/\((x::l).all λx=>x.cells.length==es&&x.cells.all ic)then some (.val (.bs s.H.length 0 (x::l).length es ag) {s with H:=s.H++[.cells false (flat (x::l))]})else none:=Eq.trans rfl rfl
theorem Yw {s:ASt} {es:Nat} {ag:Bool} {a:AV} {l:List AV} (hl:l ≠ []) (h1:l.length<=1073741824) (h2:(l.all λx=>x.cells.length==es&&x.cells.all ic)=true):Yz s es ag false a l=some (.val (.bs s.H.length 0 l.length es ag) {s with H:=s.H++[.cells false (flat l)]}):=by
 cases l with
 | nil=>exact absurd rfl hl
 | cons x l=>rw[Gf,if_pos ⟨h1,h2⟩]
theorem Vj {tm:List AV} {s:ASt} {es:Nat} {ag tl:Bool} {x:X}:opA tm s (.clone es ag tl x)=(evX tm x).bind λa=>(ku s a).bind (Yz s es ag tl a):=by
 rw[opA]
 cases evX tm x with
 | none=>rfl
 | some a=>
  simp only[Option.bind_some,Option.getD_some]
  cases ku s a with
  | none=>rfl
  | some l=>cases l<;>rfl
theorem Y7 {tm:List AV} {s:ASt} {x:X}:opA tm s (.m5 x)=(
  match evX tm x with
  | some (.sl l _)=>some (.val (.int l.length) s)
  | some (.bs _ _ n _ _)=>some (.val (.int n) s)
  | _=>none):=Eq.trans rfl rfl
theorem Y3 {tm:List AV} {s:ASt} {x:X}:opA tm s (.Jb x)=(
  match evX tm x with
  | some (.bs i off _ es _)=>if 0<es then some (.val (.cp i off es) s)else none
  | _=>none):=Eq.trans rfl rfl
theorem a5c {tm:List AV} {s:ASt} {neg:Bool} {x:X} {y:X}:opA tm s (.eqp neg x y)=(
  match evX tm x,evX tm y with
  | some a,some b=>(Le a b).map λr=>.val (.bool (neg ^^ r)) s
  | _,_=>none):=Eq.trans rfl rfl
theorem Tp {H:List fq} {b:Bool} {k:AV} {es:List (AV × AV)}:ri H (.sc b) k es=true:=rfl
theorem Yf {tm:List AV} {s:ASt} {x:X}:opA tm s (.Dk x)=(
  match evX tm x with
  | some (.v (.string b))=>some (.val (.int b.size) s)
  | _=>none):=Eq.trans rfl rfl
theorem a4n {tm:List AV} {s:ASt} {x:X} {y:X}:opA tm s (.max x y)=(
  match evX tm x,evX tm y with
  | some (.v (.int k a)),some (.v (.int _ b))=>some (.val (.v (.int k (if b>a then b else a))) s)
  | _,_=>none):=Eq.trans rfl rfl
theorem a3x {tm:List AV} {s:ASt} {x:X} {y:X}:opA tm s (.min x y)=(
  match evX tm x,evX tm y with
  | some (.v (.int k a)),some (.v (.int _ b))=>some (.val (.v (.int k (if b<a then b else a))) s)
  | _,_=>none):=Eq.trans rfl rfl
theorem Vk {tm:List AV} {s:ASt}  : opA tm s (.ug)=(some .ug):=Eq.trans rfl rfl
theorem a3h {tm:List AV} {s:ASt} {f:X} {args:List X}:opA tm s (.dfr f args)=(
  match evX tm f,il (evX tm) args with
  | some (.fn g caps),some l=>some (.dfr g (l++caps))
  | _,_=>none):=Eq.trans rfl rfl
theorem Um {tm:List AV} {s:ASt} {x:X}:opA tm s (.panic x)=(
  match evX tm x with
  | some (.iface t a)=>some (.panic (.iface t a))
  | _=>none):=Eq.trans rfl rfl
theorem a60 {nt d:Nat} {e:Env} {v:AV}:put (tmE nt e) (some d) v=tmE nt (Jz e d v):=by
 apply List.ext_getElem?
 intro n
 simp only[put,tmE,b9,dg,List.length_range,bh,Jz]
 by_cases h:d=n
 ·subst h
  by_cases h2:d<nt<;>simp[h2,Jz]
 ·simp only[h,if_false]
  cases hr:(List.range nt)[n]? with
  | none=>rfl
  | some m=>
   have hm:m=n:=by
    rw[List.getElem?_eq_some_iff]at hr
    obtain⟨h1,h2⟩:=hr
    simpa using h2.symm
   subst hm
   simp[Jz,Ne.symm h]
theorem a6b {tm:List AV} {v:AV}:put tm none v=tm:=rfl
theorem a08 {e:Env} {d:Nat} {v:AV}:Jz e d v d=v:=by simp[Jz]
theorem a07 {e:Env} {d n:Nat} {v:AV} (h:n ≠ d):Jz e d v n=e n:=by simp[Jz,h]
theorem Dd (l:List AV) (nt:Nat) (h:l.length<=nt):l++List.replicate (nt-l.length) .undef=tmE nt (v8 l):=by
 apply List.ext_getElem?
 intro n
 simp only[tmE,v8,bh]
 by_cases hn:n<nt
 ·rw[de hn]
  simp only[fh]
  by_cases h1:n<l.length
  ·rw[ae h1];simp[h1,v8]
  ·rw[af (by omega),List.getElem?_replicate]
   simp[h1,show n-l.length<nt-l.length by omega,v8]
 ·rw[cx (by simp;omega),cx (by simp;omega)];rfl
theorem yf {l:List AV}:(AV.agg l).cells=l:=rfl
theorem P9 {l:List AV}:(AV.agg l).known=true:=rfl
theorem a0a {x:Value}:(AV.v x).cells=[.v x]:=rfl
theorem a02 {x:Value}:(AV.v x).known=true:=rfl
theorem a2p {x:Value}:ic (AV.v x)=true:=rfl
theorem Ui {l:List AV} {o:Nat}:(AV.ip l o).cells=[.ip l o]:=rfl
theorem Tt {l:List AV} {o:Nat}:(AV.ip l o).known=true:=rfl
theorem Y4 {l:List AV} {o:Nat}:ic (AV.ip l o)=true:=rfl
theorem Qq {i o:Nat}:(AV.ptr i o).cells=[.ptr i o]:=rfl
theorem Qh {i o:Nat}:(AV.ptr i o).known=true:=rfl
theorem Rz {i o:Nat}:ic (AV.ptr i o)=true:=rfl
theorem Rh {l:List AV} {t:Tl}:(AV.sl l t).cells=[.sl l t]:=rfl
theorem Tb {l:List AV} {t:Tl}:(AV.sl l t).known=true:=rfl
theorem Xq {l:List AV} {t:Tl}:ic (AV.sl l t)=true:=rfl
theorem Re {i o n es:Nat} {ag:Bool}:(AV.bs i o n es ag).cells=[.bs i o n es ag]:=rfl
theorem R6 {i o n es:Nat} {ag:Bool}:(AV.bs i o n es ag).known=true:=rfl
theorem Z7 {i o n es:Nat} {ag:Bool}:ic (AV.bs i o n es ag)=true:=rfl
theorem U6 {i:Nat}:(AV.mp i).cells=[.mp i]:=rfl
theorem Vy {i:Nat}:(AV.mp i).known=true:=rfl
theorem Zr {i:Nat}:ic (AV.mp i)=true:=rfl
theorem Rj {f:FuncId} {l:List AV}:(AV.fn f l).cells=[.fn f l]:=rfl
theorem V8 {i o es:Nat}:(AV.cp i o es).cells=[.cp i o es]:=rfl
theorem V0 {i o es:Nat}:(AV.cp i o es).known=true:=rfl
theorem a0h {i o es:Nat}:ic (AV.cp i o es)=true:=rfl
theorem So {f:FuncId} {l:List AV}:(AV.bm f l).cells=[.bm f l]:=rfl
theorem W8 {f:FuncId} {l:List AV}:(AV.fn f l).known=true:=rfl
theorem T4 {f:FuncId} {l:List AV}:(AV.bm f l).known=true:=rfl
theorem Yu {f:FuncId} {l:List AV}:ic (AV.fn f l)=true:=rfl
theorem Z9 {f:FuncId} {l:List AV}:ic (AV.bm f l)=true:=rfl
theorem J8 {t:TypeId} {x:AV}:(AV.iface t x).cells=[.iface t x]:=rfl
theorem Kc {t:TypeId} {x:AV}:(AV.iface t x).known=true:=rfl
theorem Mz {t:TypeId} {x:AV}:ic (AV.iface t x)=true:=rfl
theorem oj {x:Value}:im (.v x)=true:=Eq.trans rfl rfl
theorem kl {l:List AV} {t:Tl}:im (.sl l t)=(t.pure&&gi l):=by rw[im]
theorem n6 {l:List AV}:im (.agg l)=gi l:=by rw[im]
theorem Hb {l:List AV}:im (.tup l)=gi l:=by rw[im]
theorem Dr {t:TypeId} {x:AV}:im (.iface t x)=im x:=by rw[im]
theorem Aq {f:FuncId} {l:List AV}:im (.fn f l)=gi l:=by rw[im]
theorem a5j {f:FuncId} {l:List AV}:im (.bm f l)=gi l:=by rw[im]
theorem a18 {l:List AV} {o:Nat}:im (.ip l o)=gi l:=by rw[im]
theorem gz:gi []=true:=by rw[gi]
theorem gp {x:AV} {l:List AV}:gi (x::l)=(im x&&gi l):=by rw[gi]
theorem W0:Tl.pure .nil=true:=Eq.trans rfl rfl
theorem Wn:Tl.pure .none=true:=Eq.trans rfl rfl
theorem a5e {n:Nat}:Tl.pure (.cap n)=true:=Eq.trans rfl rfl
section
variable {c:ia} {md:FuncId->Md} {pfs:FuncId->Option PF}
def Fx1 {α:Sort _} (_:α):Type:=Unit
def Fx2 {α β:Sort _} (_:α) (_:β):Type:=Unit
def Fx4 {α β γ δ:Sort _} (_:α) (_:β) (_:γ) (_:δ):Type:=Unit
def OW (o:Option OpR) (K:AV->ASt->Prop) (KC:FuncId->List AV->Prop) (KP:AV->Prop) (KD:FuncId->List AV->Prop) (_:Fx4 K KC KP KD):Prop:=
 match o with
 | some (.val v s)=>K v s
 | some (.call f l)=>KC f l
 | some (.panic v)=>KP v
 | some (.dfr f l)=>KD f l
 | _=>False
def GW (o:Option Bool) (A B:Prop) (_:Fx2 A B):Prop:=
 match o with
 | some b=>(b=false->A)/\(b=true->B)
 | none=>False
def IW (o:Option AV) (A B:Prop) (_:Fx2 A B):Prop:=
 match o with
 | some (.v (.bool t))=>(t=true->A)/\(t=false->B)
 | _=>False
def CW (c:ia) (md:FuncId->Md) (pm:Bool) (s:ASt) (f:FuncId) (args:List AV) (K KP:AV->ASt->Prop) (_:Fx2 K KP):Prop:=
 match me c md pm s f args with
 | some (.ret v,s)=>K v s
 | some (.pan v,s)=>KP v s
 | none=>False
def EW (o:Option (gg × St)) (Q:gg->St->Prop) (_:Fx1 Q):Prop:=
 match o with
 | some (r,st)=>Q r st
 | none=>False
def W (c:ia) (md:FuncId->Md) (b:PC) (st:St) (Q:gg->St->Prop) (_:Fx1 Q):Prop:=EW (iy c md (sd c md) b st) Q ()
def WS (c:ia) (md:FuncId->Md) (l:List PI) (st:St) (Q:gg->St->Prop) (_:Fx1 Q):Prop:=EW (kg c md l st) Q ()
def LQ (J:St->Prop) (Q:gg->St->Prop):gg->St->Prop
 | .normal,st=>J st
 | .exit n,st=>Q (.exit n) st
 | .ret,st=>Q .ret st
 | .pan v,st=>Q (.pan v) st
def BQ (n:Nat) (Q:gg->St->Prop):gg->St->Prop
 | .exit i,st=>if i=n then Q .normal st else Q (.exit i) st
 | .normal,st=>Q .normal st
 | .ret,st=>Q .ret st
 | .pan v,st=>Q (.pan v) st
variable {st:St} {Q:gg->St->Prop} {J:St->Prop} {K:AV->ASt->Prop} {KC:FuncId->List AV->Prop} {KP:AV->Prop} {KD:FuncId->List AV->Prop}
@[congr] theorem OW_congr {o o':Option OpR} (h:True->o=o'):OW o K KC KP KD ()=OW o' K KC KP KD ():=by rw[h trivial]
@[congr] theorem GW_congr {o o':Option Bool} {A B:Prop} (h:True->o=o'):GW o A B ()=GW o' A B ():=by rw[h trivial]
@[congr] theorem IW_congr {o o':Option AV} {A B:Prop} (h:True->o=o'):IW o A B ()=IW o' A B ():=by rw[h trivial]
@[congr] theorem CW_congr {pm:Bool} {s s':ASt} {f f':FuncId} {args args':List AV} {K KP:AV->ASt->Prop} (h1:True->s=s') (h2:True->f=f') (h3:True->args=args'):CW c md pm s f args K KP ()=CW c md pm s' f' args' K KP ():=by rw[h1 trivial,h2 trivial,h3 trivial]
@[congr] theorem EW_congr {o o':Option (gg × St)} (h:True->o=o'):EW o Q ()=EW o' Q ():=by rw[h trivial]
@[congr] theorem W_congr {b:PC} {st':St} (h:True->st=st'):W c md b st Q ()=W c md b st' Q ():=by rw[h trivial]
@[congr] theorem WS_congr {l:List PI} {st':St} (h:True->st=st'):WS c md l st Q ()=WS c md l st' Q ():=by rw[h trivial]
@[congr] theorem LQ_congr {r r':gg} {st':St} (h:True->r=r') (h2:True->st=st'):LQ J Q r st=LQ J Q r' st':=by rw[h trivial,h2 trivial]
@[congr] theorem BQ_congr {n:Nat} {r r':gg} {st':St} (h:True->r=r') (h2:True->st=st'):BQ n Q r st=BQ n Q r' st':=by rw[h trivial,h2 trivial]
theorem a7g:LQ J Q .normal st=J st:=rfl
theorem a6m:LQ J Q .ret st=Q .ret st:=rfl
theorem a6r {n:Nat}:LQ J Q (.exit n) st=Q (.exit n) st:=rfl
theorem a7d {v:AV}:LQ J Q (.pan v) st=Q (.pan v) st:=rfl
theorem a6s {n:Nat}:BQ n Q .normal st=Q .normal st:=rfl
theorem a79 {n:Nat}:BQ n Q .ret st=Q .ret st:=rfl
theorem a6q {n:Nat}:BQ n Q (.exit n) st=Q .normal st:=by simp[BQ]
theorem a6o {n:Nat} {v:AV}:BQ n Q (.pan v) st=Q (.pan v) st:=rfl
theorem a4s {v:AV} {s:ASt}:OW (some (.val v s)) K KC KP KD ()=K v s:=rfl
theorem Zd {f:FuncId} {l:List AV}:OW (some (.call f l)) K KC KP KD ()=KC f l:=rfl
theorem Tv {v:AV}:OW (some (.panic v)) K KC KP KD ()=KP v:=rfl
theorem a5f {f:FuncId} {l:List AV}:OW (some (.dfr f l)) K KC KP KD ()=KD f l:=rfl
theorem a4i {p:Prop} [Decidable p] {o:Option OpR}:OW (if p then o else none) K KC KP KD ()=(p/\OW o K KC KP KD ()):=by
 by_cases h:p<;>simp[h,OW]
theorem a3t {α:Type} {o:Option α} {g:α->OpR}:OW (o.map g) K KC KP KD () = ∃x,o=some x/\OW (some (g x)) K KC KP KD ():=by
 cases o<;>simp[OW]
theorem Wx {α:Type} {o:Option α} {g:α->Option OpR}:OW (o.bind g) K KC KP KD () = ∃x,o=some x/\OW (g x) K KC KP KD ():=by
 cases o<;>simp[OW]
theorem R0 {A B:Prop}:GW (some true) A B ()=B:=by simp[GW]
theorem a62 {A B:Prop}:GW (some false) A B ()=A:=by simp[GW]
theorem Sv {tm:List AV}:iu tm none=some true:=by rw[iu]
theorem A8 {nt t:Nat} {e:Env} {w b:Bool} (h:t<nt) (h2:e t = .v (.bool b)):iu (tmE nt e) (some (t,w))=some (b==w):=by simp only[iu,D3 h,h2]
theorem Rg {nt t:Nat} {e:Env} {w:Bool} (h:t<nt) (h2:e t = .tup []):iu (tmE nt e) (some (t,w))=some false:=by simp only[iu,D3 h,h2]
theorem a1x:W c md .skip st Q ()=Q .normal st:=rfl
theorem a2o {n:Nat}:W c md (.exit n) st Q ()=Q (.exit n) st:=rfl
theorem a5n:W c md .ret st Q ()=Q .ret st:=rfl
theorem a6i {l:List PI}:W c md (.reg l) st Q ()=WS c md l st Q ():=rfl
theorem a5r {a b:PC}:W c md (.seq a b) st Q ()=W c md a st (LQ (λst'=>W c md b st' Q ()) Q) ():=by
 unfold W
 rw[iy]
 cases iy c md (sd c md) a st with
 | none=>rfl
 | some x=>
  obtain⟨r,st'⟩:=x
  cases r<;>rfl
theorem Za {n:Nat} {a:PC}:W c md (.block n a) st Q ()=W c md a st (BQ n Q) ():=by
 unfold W
 rw[iy]
 cases iy c md (sd c md) a st with
 | none=>rfl
 | some x=>
  obtain⟨r,st'⟩:=x
  cases r with
  | exit i=>
   simp only[EW,BQ]
   by_cases h:i=n<;>simp[h]
  | _=>rfl
theorem a6y {x:X} {a b:PC}:W c md (.cond x a b) st Q ()=IW (evX st.tm x) (W c md a st Q ()) (W c md b st Q ()) ():=by
 unfold W
 rw[iy]
 cases h:evX st.tm x with
 | none=>rfl
 | some v=>
  cases v with
  | v x=>
   cases x with
   | bool t=>cases t<;>simp[IW]
   | _=>rfl
  | _=>rfl
theorem a6v {A B:Prop}:IW (some (.v (.bool true))) A B ()=A:=by simp[IW]
theorem a7a {A B:Prop}:IW (some (.v (.bool false))) A B ()=B:=by simp[IW]
theorem a2c:WS c md [] st Q ()=Q .normal st:=rfl
theorem Zz {i:PI} {l:List PI} {tm:List AV} {df:List (FuncId × List AV)} {s:ASt}:WS c md (i::l) ⟨tm,df,s⟩ Q () =
  GW (iu tm i.g) (WS c md l ⟨put tm i.dst .undef,df,s⟩ Q ())
   (OW (opA tm s i.op) (λv s=>WS c md l ⟨put tm i.dst v,df,s⟩ Q ())
    (λf args=>CW c md false s f args (λv s=>WS c md l ⟨put tm i.dst v,df,s⟩ Q ()) (λv s=>Q (.pan v) ⟨tm,df,s⟩) ())
    (λv=>Q (.pan v) ⟨tm,df,s⟩)
    (λf args=>WS c md l ⟨put tm i.dst .undef,(f,args)::df,s⟩ Q ()) ()) ():=by
 unfold WS
 rw[kg,iw]
 cases iu tm i.g with
 | none=>rfl
 | some b=>
  cases b with
  | false=>simp[GW]
  | true=>
   simp only[R0]
   cases opA tm s i.op with
   | none=>rfl
   | some o=>
    cases o with
    | call f args=>
     simp only[OW,CW]
     cases me c md false s f args with
     | none=>rfl
     | some x=>
      obtain⟨r,s'⟩:=x
      cases r<;>rfl
    | _=>rfl
def HW (o:Option (St × Option (AV × ASt))) (K:St->Prop) (KP:AV->ASt->Prop) (_:Fx2 K KP):Prop:=
 match o with
 | some (st',none)=>K st'
 | some (_,some (v,s))=>KP v s
 | none=>False
variable {L:St->Prop} {LP:AV->ASt->Prop} {hd:List PI} {i:PI} {l:List PI} {tm:List AV} {df:List (FuncId × List AV)} {s s0:ASt} {k:Nat} {v0:AV}
@[congr] theorem HW_congr {o o':Option (St × Option (AV × ASt))} (h:True->o=o'):HW o L LP ()=HW o' L LP ():=by rw[h trivial]
@[congr] theorem headA_congr {p:Option (Nat × AV × ASt)} {st':St} (h:True->st=st'):js c md hd l st p=js c md hd l st' p:=by rw[h trivial]
theorem a2w:HW (js c md hd [] st none) L LP ()=L st:=rfl
theorem Vv:HW (js c md hd [] st (some (k,v0,s0))) L LP ()=LP v0 s0:=rfl
theorem Zg:HW (js c md hd (i::l) ⟨tm,df,s⟩ none) L LP () =
  GW (iu tm i.g) (HW (js c md hd l ⟨put tm i.dst .undef,df,s⟩ none) L LP ())
   (OW (opA tm s i.op) (λv s'=>HW (js c md hd l ⟨put tm i.dst v,df,s'⟩ none) L LP ())
    (λf args=>CW c md true s f args (λv s'=>HW (js c md hd l ⟨put tm i.dst v,df,s'⟩ none) L LP ()) (λv _=>Cj hd i=true/\HW (js c md hd l ⟨tm,df,s⟩ (some (i.ix,v,s))) L LP ()) ())
    (λv=>Cj hd i=true/\HW (js c md hd l ⟨tm,df,s⟩ (some (i.ix,v,s))) L LP ())
    (λf args=>HW (js c md hd l ⟨put tm i.dst .undef,(f,args)::df,s⟩ none) L LP ()) ()) ():=by
 rw[js,iw]
 cases iu tm i.g with
 | none=>rfl
 | some b=>
  cases b with
  | false=>simp[GW]
  | true=>
   simp only[R0]
   cases opA tm s i.op with
   | none=>rfl
   | some o=>
    cases o with
    | call f args=>
     simp only[OW,CW]
     cases me c md true s f args with
     | none=>rfl
     | some x=>
      obtain⟨r,s'⟩:=x
      cases r with
      | ret v=>rfl
      | pan v=>
       simp only
       by_cases h:Cj hd i=true<;>simp[h,HW]
    | panic v=>
     simp only[OW]
     by_cases h:Cj hd i=true<;>simp[h,HW]
    | _=>rfl
theorem X9 {i:PI} {ns:List Nat}:W c md (.jk (9000000::ns) (i::l)) st Q ()=WS c md [i] st (LQ (λst1=>W c md (.jk ns l) st1 (LQ (λst2=>Q .normal st2) (λ_ _=>False)) ()) (λ_ _=>False)) ():=by
 unfold W WS
 rw[iy,Te]
 simp only[kg]
 cases iw c md false i st with
 | none=>rfl
 | some x=>
  obtain⟨ex,st1⟩:=x
  cases ex with
  | normal=>
   simp only[W,iy]
   show EW _ Q ()=EW (m9 c md ns l st1) (LQ (λst2=>Q .normal st2) (λ_ _=>False)) ()
   cases m9 c md ns l st1 with
   | none=>rfl
   | some y=>
    obtain⟨ex2,st2⟩:=y
    cases ex2<;>rfl
  | _=>rfl
theorem My:W c md (.jk [] l) st Q ()=WS c md l st Q ():=rfl
def PW (o:Option St) (K:St->Prop) (_:Fx1 K):Prop:=
 match o with
 | some st=>K st
 | none=>False
@[congr] theorem PW_congr {o o':Option St} (h:True->o=o'):PW o L ()=PW o' L ():=by rw[h trivial]
@[congr] theorem runP_congr {st':St} (h:True->st=st'):qg c md l st=qg c md l st':=by rw[h trivial]
theorem a3m:PW (qg c md [] st) L ()=L st:=rfl
theorem Zf:PW (qg c md (i::l) ⟨tm,df,s⟩) L () =
  GW (iu tm i.g) (PW (qg c md l ⟨put tm i.dst .undef,df,s⟩) L ())
   (OW (opA tm s i.op) (λv s'=>PW (qg c md l ⟨put tm i.dst v,df,s'⟩) L ())
    (λf args=>CW c md true s f args (λv s'=>PW (qg c md l ⟨put tm i.dst v,df,s'⟩) L ()) (λ_ _=>False) ())
    (λ_=>False)
    (λf args=>PW (qg c md l ⟨put tm i.dst .undef,(f,args)::df,s⟩) L ()) ()) ():=by
 rw[qg,iw]
 cases iu tm i.g with
 | none=>rfl
 | some b=>
  cases b with
  | false=>simp[GW]
  | true=>
   simp only[R0]
   cases opA tm s i.op with
   | none=>rfl
   | some o=>
    cases o with
    | call f args=>
     simp only[OW,CW]
     cases me c md true s f args with
     | none=>rfl
     | some x=>
      obtain⟨r,s'⟩:=x
      cases r<;>rfl
    | _=>rfl
def CK (i:PI) (tm:List AV) (s s':ASt):List PI->Prop
 | []=>True
 | j::l=>(i.pre.contains j.ix||j.op.kd == .S||m8 tm s s' j.op)=true/\CK i tm s s' l
theorem Mq {i:PI} {s':ASt}:CK i tm s s' l=((l.all λj=>i.pre.contains j.ix||j.op.kd == .S||m8 tm s s' j.op)=true):=by
 induction l with
 | nil=>simp[CK]
 | cons j l ih=>rw[CK,ih];simp only[cz,dy]
def JW (t:Bool) (A:Prop):Prop:=t=true\/A
theorem a64 {A:Prop}:JW true A=True:=by simp[JW]
theorem a61 {A:Prop}:JW false A=A:=by simp[JW]
theorem a4d {s':ASt}:CK i tm s s' []=True:=rfl
@[congr] theorem JW_congr {t t':Bool} {A:Prop} (h:True->t=t'):JW t A=JW t' A:=by rw[h trivial]
theorem Xw {j:PI} {s':ASt}:CK i tm s s' (j::l)=(JW (j.op.kd == .S) (JW (i.pre.contains j.ix) (OW (opA tm s j.op) (λv _=>OW (opA tm s' j.op) (λv' _=>ml v v'=true) (λ_ _=>False) (λ_=>False) (λ_ _=>False) ()) (λ_ _=>False) (λ_=>False) (λ_ _=>False) ()))/\CK i tm s s' l):=by
 rw[CK]
 unfold JW
 cases hc:(i.pre.contains j.ix)with
 | true=>simp
 | false=>
  cases hk:(j.op.kd == .S)with
  | true=>simp
  | false=>
   simp only[Bool.false_or,dz,false_or]
   congr 1
   unfold m8
   cases opA tm s j.op with
   | none=>simp[OW]
   | some r=>
    cases r with
    | val v z=>
     simp only[OW]
     cases opA tm s' j.op with
     | none=>simp
     | some r'=>cases r'<;>simp
    | _=>simp[OW]
theorem a3v (x:X):((PO.mov x).kd == .S)=true:=Eq.trans rfl rfl
theorem Zu (c a b:X):((PO.pick c a b).kd == .S)=true:=Eq.trans rfl rfl
theorem Vr (z:List AV) (ps:List (Nat × Nat × X)):((PO.build z ps).kd == .S)=true:=Eq.trans rfl rfl
theorem a57 (z:AV) (n:Nat) (ps:List (Nat × Nat × X)):((PO.bsl z n ps).kd == .S)=true:=Eq.trans rfl rfl
theorem Vm (x:X):((PO.gy x).kd == .S)=true:=Eq.trans rfl rfl
theorem a22 (o:BinOp) (x y:X):((PO.bin o x y).kd == .S)=true:=Eq.trans rfl rfl
theorem a2u (n:Bool) (x y:X):((PO.eqb n x y).kd == .S)=true:=Eq.trans rfl rfl
theorem a2y (n:Bool) (x y:X):((PO.eqi n x y).kd == .S)=true:=Eq.trans rfl rfl
theorem a2n (n:Bool) (x y:X):((PO.eqs n x y).kd == .S)=true:=Eq.trans rfl rfl
theorem a4f (n:Bool) (x y:X):((PO.eqp n x y).kd == .S)=true:=Eq.trans rfl rfl
theorem Xt (x:X):((PO.Jb x).kd == .S)=true:=Eq.trans rfl rfl
theorem a5t (o:UnOp) (x:X):((PO.un o x).kd == .S)=true:=Eq.trans rfl rfl
theorem Zl (k:IntKind) (x:X):((PO.conv k x).kd == .S)=true:=Eq.trans rfl rfl
theorem a03 (t:TypeId) (x:X):((PO.L9 t x).kd == .S)=true:=Eq.trans rfl rfl
theorem Uc (n:Nat) (x:X):((PO.fy n x).kd == .S)=true:=Eq.trans rfl rfl
theorem Wg (n:Nat) (x y:X):((PO.j6 n x y).kd == .S)=true:=Eq.trans rfl rfl
theorem Y1 (x:X):((PO.m5 x).kd == .S)=true:=Eq.trans rfl rfl
theorem Xm (x:X):((PO.Dk x).kd == .S)=true:=Eq.trans rfl rfl
theorem a3y (x:X) (n:Nat):((PO.ext x n).kd == .S)=true:=Eq.trans rfl rfl
theorem Ux (n:Nat) (x:X) (lo hi mx:Option X):((PO.slice n x lo hi mx).kd == .S)=true:=Eq.trans rfl rfl
theorem Y9 (a:Bool) (n:Nat) (x:X):((PO.load a n x).kd == .S)=false:=Eq.trans rfl rfl
def KQ (i:PI) (l:List PI) (tm:List AV) (s:ASt) (J:St->Prop) (JP:AV->ASt->Prop):gg->St->Prop
 | .normal,st2=>CK i tm s st2.s l/\J st2
 | .pan v,st2=>JP v st2.s
 | _,_=>False
@[congr] theorem KQ_congr {J:St->Prop} {JP:AV->ASt->Prop} {r r':gg} {st':St} (h:True->r=r') (h2:True->st=st'):KQ i l tm s J JP r st=KQ i l tm s J JP r' st':=by rw[h trivial,h2 trivial]
theorem a7h {J:St->Prop} {JP:AV->ASt->Prop} {tm':List AV} {s':ASt}:KQ i l tm s J JP .normal ⟨tm',df,s'⟩=(CK i tm s s' l/\J ⟨tm',df,s'⟩):=rfl
theorem a7f {J:St->Prop} {JP:AV->ASt->Prop} {tm':List AV} {s':ASt} {v:AV}:KQ i l tm s J JP (.pan v) ⟨tm',df,s'⟩=JP v s':=rfl
theorem Jm {n:Nat} {ns:List Nat} (hn:n<1000) (hl:l.drop n=[]):W c md (.jk (n::ns) l) st Q () =
  HW (js c md (l.take n) (l.take n) st none) (λst'=>Q .normal st') (λv s=>Q (.pan v) {st with tm:=kq (l.take n) st.tm,s}) ():=by
 unfold W
 rw[iy,C5 (by omega),if_pos hn,Nat.mod_eq_of_lt hn,hl]
 cases js c md (l.take n) (l.take n) st none with
 | none=>rfl
 | some x=>
  obtain⟨st',p⟩:=x
  cases p<;>rfl
theorem J6 {n:Nat} {ns:List Nat} {b:PI} {l':List PI} (hn:n<1000) (hl:l.drop n=b::l'):W c md (.jk (n::ns) l) st Q () =
  HW (js c md (l.take n) (l.take n) st none) (λst'=>WS c md [b] st' (LQ (λst2=>W c md (.jk ns l') st2 Q ()) Q) ()) (λv s=>Q (.pan v) {st with tm:=kq (l.take n) st.tm,s}) ():=by
 unfold W
 rw[iy,C5 (by omega),if_pos hn,Nat.mod_eq_of_lt hn,hl]
 cases js c md (l.take n) (l.take n) st none with
 | none=>rfl
 | some x=>
  obtain⟨st',p⟩:=x
  cases p with
  | some p=>rfl
  | none=>
   simp only[HW,WS,kg]
   cases iw c md false b st' with
   | none=>rfl
   | some y=>
    obtain⟨r,st2⟩:=y
    cases r<;>rfl
def DW (c:ia) (md:FuncId->Md) (ns:List Nat) (l:List PI) (st:St) (Q:gg->St->Prop) (_:Fx1 Q):Prop:=
 match l with
 | []=>Q .normal st
 | b::l'=>WS c md [b] st (LQ (λst2=>W c md (.jk ns l') st2 Q ()) Q) ()
theorem a1y {ns:List Nat}:DW c md ns [] st Q ()=Q .normal st:=Eq.trans rfl rfl
theorem Yp {ns:List Nat} {b:PI} {l':List PI}:DW c md ns (b::l') st Q ()=WS c md [b] st (LQ (λst2=>W c md (.jk ns l') st2 Q ()) Q) ():=Eq.trans rfl rfl
theorem a2i {n:Nat} {ns:List Nat} (hn:n<1000):W c md (.jk (n::ns) l) st Q () =
  HW (js c md (l.take n) (l.take n) st none) (λst'=>DW c md ns (l.drop n) st' Q ()) (λv s=>Q (.pan v) {st with tm:=kq (l.take n) st.tm,s}) ():=by
 cases hl:l.drop n with
 | nil=>rw[Jm hn hl];rfl
 | cons b l'=>rw[J6 hn hl];rfl
def QW (c:ia) (md:FuncId->Md) (l1 l2:List PI) (ns:List Nat) (lr la:List PI) (st0 st1:St) (Q:gg->St->Prop) (_:Fx1 Q):Prop:=
 match l2 with
 | []=>False
 | i::l'=>WS c md [i] st1 (KQ i l1 st1.tm st1.s (λst2=>PW (qg c md l' st2) (λst3=>DW c md ns lr st3 Q ()) ()) (λv s=>Q (.pan v) {st0 with tm:=kq la st0.tm,s})) ()
theorem a09 {l1 l' lr la:List PI} {ns:List Nat} {st0:St}:QW c md l1 (i::l') ns lr la st0 ⟨tm,df,s⟩ Q () =
  WS c md [i] ⟨tm,df,s⟩ (KQ i l1 tm s (λst2=>PW (qg c md l' st2) (λst3=>DW c md ns lr st3 Q ()) ()) (λv s=>Q (.pan v) {st0 with tm:=kq la st0.tm,s})) ():=Eq.trans rfl rfl
theorem Xz {n:Nat} {ns:List Nat} (hn:1000<=n) (hn2:n<1001000):W c md (.jk (n::ns) l) st Q () =
  PW (qg c md ((l.take (n % 1000)).take (n / 1000-1)) st) (λst1=>QW c md ((l.take (n % 1000)).take (n / 1000-1)) ((l.take (n % 1000)).drop (n / 1000-1)) ns (l.drop (n % 1000)) (l.take (n % 1000)) st st1 Q ()) ():=by
 unfold W
 rw[iy,C5 (by omega),if_neg (by omega)]
 rw[nv,if_pos (by omega)]
 generalize l.take (n % 1000)=l1
 generalize l.drop (n % 1000)=lr
 unfold zm
 cases qg c md (l1.take (n / 1000-1)) st with
 | none=>rfl
 | some st1=>
  simp only[PW]
  cases l1.drop (n / 1000-1)with
  | nil=>rfl
  | cons i l'=>
   simp only[QW,WS,kg]
   cases iw c md false i st1 with
   | none=>rfl
   | some y=>
    obtain⟨r,st2⟩:=y
    cases r with
    | normal=>
     by_cases h:((l1.take (n / 1000-1)).all λj=>i.pre.contains j.ix||j.op.kd == .S||m8 st1.tm st1.s st2.s j.op)=true
     ·have hk:∀{J:St->Prop} {JP:AV->ASt->Prop},KQ i (l1.take (n / 1000-1)) st1.tm st1.s J JP .normal st2=J st2:=by
       intro J JP
       rw[KQ,Mq,eq_true h,true_and]
      simp only[EW,h,if_true]
      rw[hk]
      cases qg c md l' st2 with
      | none=>rfl
      | some st3=>
       simp only[fh]
       cases lr with
       | nil=>rfl
       | cons b l2=>
        simp only[DW,WS,kg,PW]
        cases iw c md false b st3 with
        | none=>rfl
        | some y=>obtain⟨r,st4⟩:=y;cases r<;>rfl
     ·have hk:∀{J:St->Prop} {JP:AV->ASt->Prop},KQ i (l1.take (n / 1000-1)) st1.tm st1.s J JP .normal st2=False:=by
       intro J JP
       rw[KQ,Mq,eq_false h,false_and]
      simp only[EW,h]
      rw[hk]
      rfl
    | pan v=>rfl
    | _=>rfl
def M1 (b:Bool) (A B:Prop) (_:Fx2 A B):Prop:=if b=true then A else B
@[congr] theorem M1_congr {b b':Bool} {A B:Prop} (h:True->b=b'):M1 b A B ()=M1 b' A B ():=by rw[h trivial]
theorem a3c {A B:Prop}:M1 true A B ()=A:=by simp[M1]
theorem a4v {A B:Prop}:M1 false A B ()=B:=by simp[M1]
def M3 (o:Option (AV × fq)) (K:AV->fq->Prop) (_:Fx1 K):Prop:=
 match o with
 | some (v,ob)=>K v ob
 | none=>False
@[congr] theorem M3_congr {o o':Option (AV × fq)} {K:AV->fq->Prop} (h:True->o=o'):M3 o K ()=M3 o' K ():=by rw[h trivial]
theorem Yr {v:AV} {ob:fq} {K:AV->fq->Prop}:M3 (some (v,ob)) K ()=K v ob:=Eq.trans rfl rfl
theorem Vg (l:List AV):((PO.alloc l).kd == .S)=false:=Eq.trans rfl rfl
theorem a3i (x:X):(PO.mov x).iv=true:=Eq.trans rfl rfl
theorem Y2 (c a b:X):(PO.pick c a b).iv=true:=Eq.trans rfl rfl
theorem Ti (z:List AV) (ps:List (Nat × Nat × X)):(PO.build z ps).iv=true:=Eq.trans rfl rfl
theorem a2s (z:AV) (n:Nat) (ps:List (Nat × Nat × X)):(PO.bsl z n ps).iv=true:=Eq.trans rfl rfl
theorem Vc (x:X):(PO.gy x).iv=true:=Eq.trans rfl rfl
theorem a3a (o:BinOp) (x y:X):(PO.bin o x y).iv=true:=Eq.trans rfl rfl
theorem a1s (n:Bool) (x y:X):(PO.eqb n x y).iv=true:=Eq.trans rfl rfl
theorem a4l (n:Bool) (x y:X):(PO.eqi n x y).iv=true:=Eq.trans rfl rfl
theorem a2f (n:Bool) (x y:X):(PO.eqs n x y).iv=true:=Eq.trans rfl rfl
theorem a2a (n:Bool) (x y:X):(PO.eqp n x y).iv=true:=Eq.trans rfl rfl
theorem Z6 (x:X):(PO.Jb x).iv=true:=Eq.trans rfl rfl
theorem a5s (o:UnOp) (x:X):(PO.un o x).iv=true:=Eq.trans rfl rfl
theorem a06 (k:IntKind) (x:X):(PO.conv k x).iv=true:=Eq.trans rfl rfl
theorem a0b (t:TypeId) (x:X):(PO.L9 t x).iv=true:=Eq.trans rfl rfl
theorem Xp (f:FuncId) (l:List X):(PO.Hv f l).iv=true:=Eq.trans rfl rfl
theorem a0r (f:FuncId) (l:List X):(PO.tn f l).iv=true:=Eq.trans rfl rfl
theorem Ta (n:Nat) (x:X):(PO.fy n x).iv=true:=Eq.trans rfl rfl
theorem W9 (n:Nat) (x y:X):(PO.j6 n x y).iv=true:=Eq.trans rfl rfl
theorem Ph (l n:Nat) (x y:X):(PO.y9 l n x y).iv=true:=Eq.trans rfl rfl
theorem Ya (l n:Nat) (a:Bool) (x y:X):(PO.Mb l n a x y).iv=true:=Eq.trans rfl rfl
theorem Zm (x y:X):(PO.Ho x y).iv=true:=Eq.trans rfl rfl
theorem Yk (x:X):(PO.m5 x).iv=true:=Eq.trans rfl rfl
theorem a0n (x:X):(PO.Dk x).iv=true:=Eq.trans rfl rfl
theorem a25 (x:X) (n:Nat):(PO.ext x n).iv=true:=Eq.trans rfl rfl
theorem Wj (n:Nat) (x:X) (lo hi mx:Option X):(PO.slice n x lo hi mx).iv=true:=Eq.trans rfl rfl
theorem a33 (x y:X):(PO.max x y).iv=true:=Eq.trans rfl rfl
theorem a4p (x y:X):(PO.min x y).iv=true:=Eq.trans rfl rfl
theorem a0c (a:Bool) (n:Nat) (x:X):(PO.load a n x).iv=true:=Eq.trans rfl rfl
theorem Xd (z:AV) (a:Bool) (b:KK) (x y:X):(PO.look z a b x y).iv=true:=Eq.trans rfl rfl
theorem Xy (x:X) (l:List X):(PO.call x l).iv=true:=Eq.trans rfl rfl
theorem a5a (n:Nat) (x y:X):(PO.app n none x y).iv=true:=Eq.trans rfl rfl
theorem Uq (l:List AV):(PO.alloc l).iv=false:=Eq.trans rfl rfl
theorem a2r (x:X):(PO.box x).iv=false:=Eq.trans rfl rfl
theorem Wi:PO.sm.iv=false:=Eq.trans rfl rfl
theorem a3z (x:X):((PO.mov x).kd == .W)=false:=Eq.trans rfl rfl
theorem Xg (c a b:X):((PO.pick c a b).kd == .W)=false:=Eq.trans rfl rfl
theorem Su (z:List AV) (ps:List (Nat × Nat × X)):((PO.build z ps).kd == .W)=false:=Eq.trans rfl rfl
theorem a4m (z:AV) (n:Nat) (ps:List (Nat × Nat × X)):((PO.bsl z n ps).kd == .W)=false:=Eq.trans rfl rfl
theorem Vw (x:X):((PO.gy x).kd == .W)=false:=Eq.trans rfl rfl
theorem a1r (o:BinOp) (x y:X):((PO.bin o x y).kd == .W)=false:=Eq.trans rfl rfl
theorem a3p (n:Bool) (x y:X):((PO.eqb n x y).kd == .W)=false:=Eq.trans rfl rfl
theorem a29 (n:Bool) (x y:X):((PO.eqi n x y).kd == .W)=false:=Eq.trans rfl rfl
theorem a5h (n:Bool) (x y:X):((PO.eqs n x y).kd == .W)=false:=Eq.trans rfl rfl
theorem a1w (n:Bool) (x y:X):((PO.eqp n x y).kd == .W)=false:=Eq.trans rfl rfl
theorem Xc (x:X):((PO.Jb x).kd == .W)=false:=Eq.trans rfl rfl
theorem a5p (o:UnOp) (x:X):((PO.un o x).kd == .W)=false:=Eq.trans rfl rfl
theorem Ww (k:IntKind) (x:X):((PO.conv k x).kd == .W)=false:=Eq.trans rfl rfl
theorem Zp (t:TypeId) (x:X):((PO.L9 t x).kd == .W)=false:=Eq.trans rfl rfl
theorem X5 (f:FuncId) (l:List X):((PO.Hv f l).kd == .W)=false:=Eq.trans rfl rfl
theorem Yn (f:FuncId) (l:List X):((PO.tn f l).kd == .W)=false:=Eq.trans rfl rfl
theorem Wa (n:Nat) (x:X):((PO.fy n x).kd == .W)=false:=Eq.trans rfl rfl
theorem W7 (n:Nat) (x y:X):((PO.j6 n x y).kd == .W)=false:=Eq.trans rfl rfl
theorem Qg (l n:Nat) (x y:X):((PO.y9 l n x y).kd == .W)=false:=Eq.trans rfl rfl
theorem Y8 (l n:Nat) (a:Bool) (x y:X):((PO.Mb l n a x y).kd == .W)=false:=Eq.trans rfl rfl
theorem Wt (x y:X):((PO.Ho x y).kd == .W)=false:=Eq.trans rfl rfl
theorem Yo (x:X):((PO.m5 x).kd == .W)=false:=Eq.trans rfl rfl
theorem X6 (x:X):((PO.Dk x).kd == .W)=false:=Eq.trans rfl rfl
theorem a2x (x:X) (n:Nat):((PO.ext x n).kd == .W)=false:=Eq.trans rfl rfl
theorem Ub (n:Nat) (x:X) (lo hi mx:Option X):((PO.slice n x lo hi mx).kd == .W)=false:=Eq.trans rfl rfl
theorem a1t (x y:X):((PO.max x y).kd == .W)=false:=Eq.trans rfl rfl
theorem a3s (x y:X):((PO.min x y).kd == .W)=false:=Eq.trans rfl rfl
theorem Yv (a:Bool) (n:Nat) (x:X):((PO.load a n x).kd == .W)=false:=Eq.trans rfl rfl
theorem Yi (z:AV) (a:Bool) (b:KK) (x y:X):((PO.look z a b x y).kd == .W)=false:=Eq.trans rfl rfl
theorem Xa (x:X) (l:List X):((PO.call x l).kd == .W)=false:=Eq.trans rfl rfl
theorem a2z (n:Nat) (x y:X):((PO.app n none x y).kd == .W)=false:=Eq.trans rfl rfl
theorem Td (l:List AV):((PO.alloc l).kd == .W)=false:=Eq.trans rfl rfl
theorem a4e (x:X):((PO.box x).kd == .W)=false:=Eq.trans rfl rfl
theorem Ro:(PO.sm.kd == .W)=false:=Eq.trans rfl rfl
theorem R9 (n:Nat) (x y:X):((PO.store n x y).kd == .W)=true:=Eq.trans rfl rfl
theorem U8 (b:KK) (x y z:X):((PO.sk b x y z).kd == .W)=true:=Eq.trans rfl rfl
theorem Xb (f:FuncId) (l:List X):((PO.Hv f l).kd == .S)=true:=Eq.trans rfl rfl
theorem Zi (f:FuncId) (l:List X):((PO.tn f l).kd == .S)=true:=Eq.trans rfl rfl
theorem Q7 (l n:Nat) (x y:X):((PO.y9 l n x y).kd == .S)=true:=Eq.trans rfl rfl
theorem Wr (l n:Nat) (a:Bool) (x y:X):((PO.Mb l n a x y).kd == .S)=true:=Eq.trans rfl rfl
theorem Xx (x y:X):((PO.Ho x y).kd == .S)=true:=Eq.trans rfl rfl
theorem a5d (x y:X):((PO.max x y).kd == .S)=true:=Eq.trans rfl rfl
theorem a2q (x y:X):((PO.min x y).kd == .S)=true:=Eq.trans rfl rfl
theorem a1p (n:Nat) (x y:X):((PO.app n none x y).kd == .S)=false:=Eq.trans rfl rfl
theorem a56 (x:X):((PO.box x).kd == .S)=false:=Eq.trans rfl rfl
theorem Xk (z:AV) (a:Bool) (b:KK) (x y:X):((PO.look z a b x y).kd == .S)=false:=Eq.trans rfl rfl
theorem T8:(PO.sm.kd == .S)=false:=Eq.trans rfl rfl
theorem Uv {tm:List AV} {idx:Nat} {l:List AV}:om tm idx (.alloc l)=some (.ptr idx 0,.cells false l):=Eq.trans rfl rfl
theorem Tu {tm:List AV} {idx:Nat}:om tm idx .sm=some (.mp idx,.map []):=Eq.trans rfl rfl
theorem a26 {tm:List AV} {idx:Nat} {x:X}:om tm idx (.box x)=(evX tm x).bind λa=>if a.known=true then some (.ptr idx 0,.cells false a.cells)else none:=by
 simp only[om];cases evX tm x<;>rfl
def XW (c:ia) (md:FuncId->Md) (l:List PI) (tm:List AV) (s:ASt) (Z:List fq) (K:List AV->ASt->List fq->Prop) (_:Fx1 K):Prop:=
 match vu c md l tm s Z with
 | some (tm',s',Z')=>K tm' s' Z'
 | none=>False
@[congr] theorem XW_congr {l:List PI} {tm tm':List AV} {s s':ASt} {Z Z':List fq} {K:List AV->ASt->List fq->Prop} (h1:True->tm=tm') (h2:True->s=s') (h4:True->Z=Z'):XW c md l tm s Z K ()=XW c md l tm' s' Z' K ():=by rw[h1 trivial,h2 trivial,h4 trivial]
theorem a2v {p:Prop} [Decidable p] {v:AV} {ob:fq} {K:AV->fq->Prop}:M3 (if p then some (v,ob)else none) K ()=(p/\K v ob):=by
 by_cases h:p<;>simp[h,M3]
theorem a48 {Z:List fq} {K:List AV->ASt->List fq->Prop}:XW c md [] tm s Z K ()=K tm s Z:=Eq.trans rfl rfl
theorem a0q {Z:List fq} {K:List AV->ASt->List fq->Prop}:XW c md (i::l) tm s Z K () =
  M1 i.op.iv (GW (iu tm i.g) (XW c md l (put tm i.dst .undef) s Z K ()) (OW (opA tm s i.op) (λv s'=>XW c md l (put tm i.dst v) s' Z K ()) (λf args=>CW c md true s f args (λv s'=>XW c md l (put tm i.dst v) s' Z K ()) (λ_ _=>False) ()) (λ_=>False) (λ_ _=>XW c md l (put tm i.dst .undef) s Z K ()) ()) ())
   (M3 (om tm (s.H.length+Z.length) i.op) (λv ob=>XW c md l (put tm i.dst v) s (Z++[ob]) K ()) ()) ():=by
 cases hk:i.op.iv with
 | true=>
  rw[a3c]
  unfold XW
  rw[vu,hk]
  simp only[if_true]
  rw[iw]
  cases iu tm i.g with
  | none=>rfl
  | some b=>
   cases b with
   | false=>simp[GW]
   | true=>
    simp only[R0]
    cases opA tm s i.op with
    | none=>rfl
    | some o=>
     cases o with
     | call f args=>
      simp only[OW,CW]
      cases me c md true s f args with
      | none=>rfl
      | some x=>
       obtain⟨r,s'⟩:=x
       cases r<;>rfl
     | _=>rfl
 | false=>
  rw[a4v]
  unfold XW
  rw[vu,hk]
  simp only[dz,if_false]
  cases om tm (s.H.length+Z.length) i.op with
  | none=>rfl
  | some x=>rfl
def XE (c:ia) (md:FuncId->Md) (p:PI) (l:List PI) (df:List (FuncId × List AV)) (K:St->Prop) (tm:List AV) (s:ASt):Prop:=
 GW (iu tm p.g) (CK p tm s s l/\K ⟨put tm p.dst .undef,df,s⟩) (OW (opA tm s p.op) (λv s'=>CK p tm s s' l/\K ⟨put tm p.dst v,df,s'⟩) (λf args=>CW c md true s f args (λv s'=>CK p tm s s' l/\K ⟨put tm p.dst v,df,s'⟩) (λ_ _=>False) ()) (λ_=>False) (λf args=>CK p tm s s l/\K ⟨put tm p.dst .undef,(f,args)::df,s⟩) ()) ()
def XL (c:ia) (md:FuncId->Md) (o:Option PI) (l:List PI) (tm:List AV) (df:List (FuncId × List AV)) (s:ASt) (K:St->Prop) (_:Fx1 K):Prop:=
 match o with
 | none=>K ⟨tm,df,s⟩
 | some p=>M1 (p.op.kd == .W) (XW c md l.dropLast tm s [] (λtm' s' Z=>XE c md p l.dropLast df K tm' ⟨s'.H++Z,s'.T⟩) ()) (XW c md l tm s [] (λtm' s' Z=>K ⟨tm',df,⟨s'.H++Z,s'.T⟩⟩) ()) ()
@[congr] theorem XL_congr {o o':Option PI} {l:List PI} {tm tm':List AV} {df:List (FuncId × List AV)} {s s':ASt} {K:St->Prop} (h0:True->o=o') (h1:True->tm=tm') (h2:True->s=s'):XL c md o l tm df s K ()=XL c md o' l tm' df s' K ():=by rw[h0 trivial,h1 trivial,h2 trivial]
theorem O4 {p:PI} {K:St->Prop}:XL c md (some p) l tm df s K ()=M1 (p.op.kd == .W) (XW c md l.dropLast tm s [] (λtm' s' Z=>XE c md p l.dropLast df K tm' ⟨s'.H++Z,s'.T⟩) ()) (XW c md l tm s [] (λtm' s' Z=>K ⟨tm',df,⟨s'.H++Z,s'.T⟩⟩) ()) ():=Eq.trans rfl rfl
theorem a19 {p:PI} {K:St->Prop}:XE c md p l df K tm s=GW (iu tm p.g) (CK p tm s s l/\K ⟨put tm p.dst .undef,df,s⟩) (OW (opA tm s p.op) (λv s'=>CK p tm s s' l/\K ⟨put tm p.dst v,df,s'⟩) (λf args=>CW c md true s f args (λv s'=>CK p tm s s' l/\K ⟨put tm p.dst v,df,s'⟩) (λ_ _=>False) ()) (λ_=>False) (λf args=>CK p tm s s l/\K ⟨put tm p.dst .undef,(f,args)::df,s⟩) ()) ():=Eq.trans rfl rfl
theorem Yx {K:St->Prop}:(match Fb c md l ⟨tm,df,s⟩with|some st=>K st|none=>False)=XL c md l.getLast? l tm df s K ():=by
 unfold Fb
 cases l.getLast? with
 | none=>rfl
 | some p=>
  rw[O4]
  by_cases hk:(p.op.kd == .W)=true
  ·simp only[hk,if_true,a3c]
   unfold XW
   cases vu c md l.dropLast tm s []with
   | none=>rfl
   | some x=>
    obtain⟨tm',s',Z⟩:=x
    simp only
    rw[a19,iw]
    have fin:∀(st2:St),(match (if (l.dropLast.all λj=>p.pre.contains j.ix||j.op.kd == .S||m8 tm' ⟨s'.H++Z,s'.T⟩ st2.s j.op)=true then some st2 else none:Option St)with|some st=>K st|none=>False)=(CK p tm' ⟨s'.H++Z,s'.T⟩ st2.s l.dropLast/\K st2):=by
     intro st2
     rw[Mq]
     by_cases h:(l.dropLast.all λj=>p.pre.contains j.ix||j.op.kd == .S||m8 tm' ⟨s'.H++Z,s'.T⟩ st2.s j.op)=true
     ·rw[if_pos h,eq_true h,true_and]
     ·rw[if_neg h,eq_false h,false_and]
    cases iu tm' p.g with
    | none=>rfl
    | some b=>
     cases b with
     | false=>simp only[a62];exact fin ⟨_,_,_⟩
     | true=>
      simp only[R0]
      cases opA tm' ⟨s'.H++Z,s'.T⟩ p.op with
      | none=>rfl
      | some o=>
       cases o with
       | val v s2=>exact fin ⟨_,_,s2⟩
       | dfr f args=>exact fin ⟨_,_,_⟩
       | call f args=>
        simp only[OW,CW]
        cases me c md true ⟨s'.H++Z,s'.T⟩ f args with
        | none=>rfl
        | some x=>
         obtain⟨r,s2⟩:=x
         cases r with
         | ret v=>exact fin ⟨_,_,s2⟩
         | pan v=>rfl
       | _=>rfl
  ·simp only[Bool.eq_false_iff.2 hk,a4v,dz,if_false]
   unfold XW
   cases vu c md l tm s []with
   | none=>rfl
   | some x=>rfl
theorem Y5 {n:Nat} {ns:List Nat} (hn:1002000<=n) (hn2:n<1003000):W c md (.jk (n::ns) l) ⟨tm,df,s⟩ Q ()=XL c md (l.take (n % 1000)).getLast? (l.take (n % 1000)) tm df s (λst=>DW c md ns (l.drop (n % 1000)) st Q ()) ():=by
 rw[<- Yx]
 unfold W
 rw[iy,C5 (by omega),if_neg (by omega),nv,if_neg (by omega)]
 generalize l.take (n % 1000)=l1
 generalize l.drop (n % 1000)=lr
 cases Fb c md l1 ⟨tm,df,s⟩with
 | none=>rfl
 | some st'=>
  simp only[fh]
  cases lr with
  | nil=>rfl
  | cons b l2=>
   simp only[DW,WS,kg]
   cases iw c md false b st' with
   | none=>rfl
   | some y=>obtain⟨r,st4⟩:=y;cases r<;>rfl
theorem a3k {β:Type} (m:β->Nat) (I:β->St->Prop) {a:PC} (h:∀b st,I b st->W c md a st (LQ (λst'=>∃b',m b'<m b/\I b' st') Q) ()) {b:β} {st:St} (h0:I b st):W c md (.loop a) st Q ():=by
 have key:∀n b st,m b<n->I b st->EW (sd c md a st) Q ():=by
  intro n
  induction n with
  | zero=>intro b st hb;omega
  | succ n ih=>
   intro b st hb hi
   have hw:=h b st hi
   unfold W at hw
   rw[We]
   cases hx:iy c md (sd c md) a st with
   | none=>rw[hx]at hw;exact hw.elim
   | some x=>
    obtain⟨r,st'⟩:=x
    rw[hx]at hw
    cases r with
    | normal=>
     obtain⟨b',hb',hi'⟩:=hw
     exact ih b' st' (by omega) hi'
    | _=>exact hw
 exact key (m b+1) b st (by omega) h0
def RA (K:St->Prop):gg->St->Prop
 | .normal,st1=>st1.df=[]/\K st1
 | _,_=>False
def RB (J:ASt->Prop) (st0:St) (Q:gg->St->Prop):gg->St->Prop
 | .normal,st2=>st2.df=[]/\J st2.s
 | .exit id,st2=>st2.df=[]/\Q (.exit id) {st0 with s:=st2.s}
 | .ret,st2=>st2.df=[]/\Q .ret {st0 with s:=st2.s}
 | .pan _,_=>False
theorem a71 {K:St->Prop} {st1:St}:RA K .normal st1=(st1.df=[]/\K st1):=rfl
theorem a6n {J:ASt->Prop} {st0 st2:St}:RB J st0 Q .normal st2=(st2.df=[]/\J st2.s):=rfl
theorem a6l {J:ASt->Prop} {st0 st2:St} {n:Nat}:RB J st0 Q (.exit n) st2=(st2.df=[]/\Q (.exit n) {st0 with s:=st2.s}):=rfl
theorem a6z {J:ASt->Prop} {st0 st2:St}:RB J st0 Q .ret st2=(st2.df=[]/\Q .ret {st0 with s:=st2.s}):=rfl
theorem EW.mono {o:Option (gg × St)} {Q Q':gg->St->Prop} (h:EW o Q ()) (hq:∀r st,Q r st->Q' r st):EW o Q' ():=by
 cases o with
 | none=>exact h.elim
 | some x=>exact hq _ _ h
theorem W.mono {b:PC} {Q Q':gg->St->Prop} (h:W c md b st Q ()) (hq:∀r st,Q r st->Q' r st):W c md b st Q' ():=EW.mono h hq
def EQ (nt:Nat) (df:List (FuncId × List AV)) (J:Env->List fq->List Nat->Prop) (st:St):Prop:=∃E H T,st=⟨tmE nt E,df,⟨H,T⟩⟩/\J E H T
theorem jg {nt:Nat} {df:List (FuncId × List AV)} {J:Env->List fq->List Nat->Prop} {E:Env} {H:List fq} {T:List Nat} (h:J E H T):EQ nt df J ⟨tmE nt E,df,⟨H,T⟩⟩:=⟨E,H,T,rfl,h⟩
theorem j7 {β:Type} (m:β->Nat) (I:β->Env->List fq->List Nat->Prop) {a:PC} {nt:Nat} {df:List (FuncId × List AV)} (h:∀b E H T,I b E H T->W c md a ⟨tmE nt E,df,⟨H,T⟩⟩ (LQ (EQ nt df λE H T=>∃b',m b'<m b/\I b' E H T) Q) ()) (b:β) {E:Env} {H:List fq} {T:List Nat} (h0:I b E H T):W c md (.loop a) ⟨tmE nt E,df,⟨H,T⟩⟩ Q ():=by
 refine a3k m (λb st=>∃E H T,st=⟨tmE nt E,df,⟨H,T⟩⟩/\I b E H T) ?_ (b:=b) ⟨E,H,T,rfl,h0⟩
 rintro b st ⟨E,H,T,rfl,hI⟩
 refine(h b E H T hI).mono λr st' hr => ?_
 cases r with
 | normal=>
  obtain⟨E',H',T',rfl,b',h1,h2⟩:=hr
  exact⟨b',h1,E',H',T',rfl,h2⟩
 | _=>exact hr
def Out (md:FuncId->Md) (pfs:FuncId->Option PF) (f:FuncId) (args:List AV) (PR PP:AV->Prop):Prop:=
 ∃out s out',run md pfs f args ⟨[],[]⟩=some (out,s)/\out.gr 1020 s=some out'/\match out' with | .ret v=>PR v | .pan v=>PP v
def RQ (res:List PR) (PR PP:AV->Prop):gg->St->Prop
 | .pan v,st=>st.df=[] /\ ∃v',gr 1020 st.s v=some v'/\PP v'
 | .exit _,_=>False
 | _,st=>st.df=[] /\ ∃l,ma st.tm st.s res=some l /\ ∃v',gr 1020 st.s (oq l)=some v'/\PR v'
theorem a4u {res:List PR} {PR PP:AV->Prop} {st:St}:RQ res PR PP .ret st=(st.df=[] /\ ∃l,ma st.tm st.s res=some l /\ ∃v',gr 1020 st.s (oq l)=some v'/\PR v'):=rfl
theorem Qz {res:List PR} {PR PP:AV->Prop} {st:St}:RQ res PR PP .normal st=(st.df=[] /\ ∃l,ma st.tm st.s res=some l /\ ∃v',gr 1020 st.s (oq l)=some v'/\PR v'):=rfl
theorem a2b {res:List PR} {PR PP:AV->Prop} {v:AV} {st:St}:RQ res PR PP (.pan v) st=(st.df=[] /\ ∃v',gr 1020 st.s v=some v'/\PP v'):=rfl
theorem Nr {pc:PC} {st:St} {Q:gg->St->Prop} {c:ia} {md:FuncId->Md} (h:W c md pc st Q ()):pc.J5=none:=by
 cases pc with
 | ora o=>unfold W at h;simp only[iy]at h;exact(show False from h).elim
 | _=>rfl
theorem jt {f:FuncId} {pf:PF} (hp:pfs f=some pf) {args:List AV} {PR PP:AV->Prop} (hn:args.length<=pf.nt) (h:W (run md pfs) md pf.body ⟨tmE pf.nt (v8 args),[],⟨[],[]⟩⟩ (RQ pf.res PR PP) ()):Out md pfs f args PR PP:=by
 unfold Out
 rw[run_eq hp (Nr h)]
 unfold Dj
 rw[Dd args pf.nt hn]
 unfold W at h
 cases hx:iy (run md pfs) md (sd (run md pfs) md) pf.body ⟨tmE pf.nt (v8 args),[],⟨[],[]⟩⟩with
 | none=>rw[hx]at h;exact h.elim
 | some x=>
  obtain⟨r,st⟩:=x
  obtain⟨tm,df,s⟩:=st
  rw[hx]at h
  cases r with
  | exit i=>exact h.elim
  | pan v=>
   obtain⟨h1,v',h2,h3⟩:=h
   simp only at h1;subst h1
   exact⟨.pan v,s,.pan v',by simp only[List.isEmpty_nil,ed,er,dz,if_false];rfl,by simp only[jx.gr];rw[h2];rfl,h3⟩
  | normal=>
   obtain⟨h1,l,h2,v',h3,h4⟩:=h
   simp only at h1;subst h1
   refine⟨.ret (oq l),s,.ret v', ?_,by simp only[jx.gr];rw[h3];rfl,h4⟩
   simp only[List.isEmpty_nil,ed,er,dz,if_false]
   show (ma tm s pf.res).map _=_
   simp only at h2
   rw[h2];rfl
  | ret=>
   obtain⟨h1,l,h2,v',h3,h4⟩:=h
   simp only at h1;subst h1
   refine⟨.ret (oq l),s,.ret v', ?_,by simp only[jx.gr];rw[h3];rfl,h4⟩
   simp only[List.isEmpty_nil,ed,er,dz,if_false]
   show (ma tm s pf.res).map _=_
   simp only at h2
   rw[h2];rfl
theorem Out.call {f:FuncId} {args:List AV} {PR:AV->Prop} (h:Out md pfs f args PR λ_=>False) (hm:md f = .pure) (ha:gi args=true):∃v,PR v /\ ∀pm s K KP,CW (run md pfs) md pm s f args K KP ()=K v s:=by
 obtain⟨out,s',out',h1,h2,h3⟩:=h
 cases out' with
 | pan v=>exact h3.elim
 | ret v=>exact⟨v,h3,λpm s K KP=>by simp[CW,me,my,Dl ha,hm,ha,wb s ha,h1,h2,D7 s ha]⟩
theorem Out.mono {f:FuncId} {args:List AV} {PR PP PR' PP':AV->Prop} (h:Out md pfs f args PR PP) (h1:∀v,PR v->PR' v) (h2:∀v,PP v->PP' v):Out md pfs f args PR' PP':=by
 obtain⟨out,s',out',e1,e2,e3⟩:=h
 refine⟨out,s',out',e1,e2, ?_⟩
 cases out' with
 | ret v=>exact h1 v e3
 | pan v=>exact h2 v e3
end
end Go.Proofs.Eng
namespace Go.Proofs.Eng
open Go
theorem Rk {nt t:Nat} {e:Env} (h:t<nt) (h2:e t = .v (.bool true)):iu (tmE nt e) (some (t,true))=some true:=by rw[A8 h h2];rfl
theorem Sd {nt t:Nat} {e:Env} (h:t<nt) (h2:e t = .v (.bool true)):iu (tmE nt e) (some (t,false))=some false:=by rw[A8 h h2];rfl
theorem T6 {nt t:Nat} {e:Env} (h:t<nt) (h2:e t = .v (.bool false)):iu (tmE nt e) (some (t,true))=some false:=by rw[A8 h h2];rfl
theorem Un {nt t:Nat} {e:Env} (h:t<nt) (h2:e t = .v (.bool false)):iu (tmE nt e) (some (t,false))=some true:=by rw[A8 h h2];rfl
theorem Xh {nt t:Nat} {e:Env} {w:Bool} (h:t<nt) (h2:e t = .undef):iu (tmE nt e) (some (t,w))=some false:=Rg h h2
theorem tw {a b:Bool} (h:b=a):AV.v (.bool a)=AV.bool b:=by rw[h]
theorem Mg {α:Type} (H:List α) (x y:α):(H++[x]).set H.length y=H++[y]:=by rw[List.set_append_right _ _ (di _)];simp
abbrev jj:Nat:=9223372036854775807
abbrev Ev:Nat:=1073741824
abbrev jn (n:Int):Prop := -9223372036854775808<=n/\n<=9223372036854775807
theorem gw {n:Int} (h:jn n):IntKind.i64.wrap n=n:=by unfold jn at h;exact IntWalk.i64_in (by omega) (by omega)
theorem a0t {i:Nat} (h:i<jj):IntKind.i64.wrap ((i:Int)+1)=((i+1:Nat):Int):=by unfold jj at h;rw[gw (by unfold jn;omega)];simp
theorem ij {i:Nat} (h:i<jj):AV.v (.int .i64 (IntKind.i64.wrap ((i:Int)+1))) = .int ((i+1:Nat):Int):=by rw[a0t h]
def LIs {α:Type} (R:α->AV->Prop):List α->List AV->Prop
 | [],[]=>True
 | x::xs,a::al=>R x a/\LIs R xs al
 | _,_=>False
structure Xf {α:Type} (R:α->AV->Prop) (es:Nat):Prop where
 cells:∀{x a},R x a -> ∃c,a = .agg c/\c.length=es/\c.all ic=true
 pure:∀{x a},R x a->im a=true
section
variable {α:Type} {R:α->AV->Prop} {es:Nat}
theorem LIs.len:∀{l:List α} {al:List AV},LIs R l al->al.length=l.length
 | [],[],_=>rfl
 | _::_,_::_,h=>by simp only[LIs]at h;simp[LIs.len h.2]
 | [],_::_,h=>by simp[LIs]at h
 | _::_,[],h=>by simp[LIs]at h
theorem LIs.pure (hR:∀x a,R x a->im a=true):∀{l:List α} {al:List AV},LIs R l al->gi al=true
 | [],[],_=>by rw[gi]
 | _::_,_::_,h=>by simp only[LIs]at h;simp[gp,hR _ _ h.1,LIs.pure hR h.2]
 | [],_::_,h=>by simp[LIs]at h
 | _::_,[],h=>by simp[LIs]at h
theorem LIs.all (hR:Xf R es):∀{l:List α} {al:List AV},LIs R l al->(al.all λx=>x.cells.length==es)=true
 | [],[],_=>rfl
 | _::_,_::_,h=>by
  simp only[LIs]at h
  obtain⟨c,rfl,hl,_⟩:=hR.cells h.1
  simp[cz,LIs.all hR h.2,yf,hl]
 | [],_::_,h=>by simp[LIs]at h
 | _::_,[],h=>by simp[LIs]at h
theorem LIs.Ki (hR:Xf R es):∀{l:List α} {al:List AV},LIs R l al->(al.all λx=>x.cells.length==es&&x.cells.all ic)=true
 | [],[],_=>rfl
 | _::_,_::_,h=>by
  simp only[LIs]at h
  obtain⟨c,rfl,hl,ho⟩:=hR.cells h.1
  simp[cz,LIs.Ki hR h.2,yf,hl]
  simpa using ho
 | [],_::_,h=>by simp[LIs]at h
 | _::_,[],h=>by simp[LIs]at h
theorem LIs.at:∀{l:List α} {al:List AV} {i:Nat},LIs R l al->i<al.length -> ∃x a,l[i]? = some x/\l.drop i=x::l.drop (i+1)/\x ∈ l/\al[i]? = some a/\R x a
 | [],[],i,_,h=>by simp at h
 | x::xs,a::al,0,h,_=>by
  simp only[LIs]at h
  exact⟨x,a,rfl,rfl,by simp,rfl,h.1⟩
 | x::xs,a::al,i+1,h,hi=>by
  simp only[LIs]at h
  obtain⟨y,b,h1,h2,h3,h4,h5⟩:=LIs.at (i:=i) h.2 (by simpa using hi)
  exact⟨y,b,by simpa using h1,by simpa using h2,by simp[h3],by simpa using h4,h5⟩
 | [],_::_,_,h,_=>by simp[LIs]at h
 | _::_,[],_,h,_=>by simp[LIs]at h
theorem LIs.get (hR:Xf R es) {l:List α} {al:List AV} {i:Nat} (h:LIs R l al) (hi:i<al.length):∃x c,l[i]? = some x/\l.drop i=x::l.drop (i+1)/\x ∈ l/\al[i]? = some (.agg c)/\c.length=es/\c.take es=c/\c.all ic=true/\R x (.agg c):=by
 obtain⟨x,a,h1,h2,h3,h4,h5⟩:=LIs.at h hi
 obtain⟨c,rfl,hl,ho⟩:=hR.cells h5
 exact⟨x,c,h1,h2,h3,h4,hl,au (by omega),ho,h5⟩
theorem LIs.append:∀{l m:List α} {al am:List AV},LIs R l al->LIs R m am->LIs R (l++m) (al++am)
 | [],m,[],am,_,h=>h
 | _::_,m,_::_,am,h,h'=>by simp only[LIs,bn]at h ⊢;exact⟨h.1,LIs.append h.2 h'⟩
 | [],_,_::_,_,h,_=>by simp[LIs]at h
 | _::_,_,[],_,h,_=>by simp[LIs]at h
theorem LIs.one {x:α} {a:AV} (h:R x a):LIs R [x] [a]:=⟨h,trivial⟩
theorem LIs.take:∀(n:Nat) {l:List α} {al:List AV},LIs R l al->LIs R (l.take n) (al.take n)
 | 0,_,_,_=>by simp[LIs]
 | n+1,[],[],h=>h
 | n+1,_::_,_::_,h=>by simp only[LIs]at h;exact⟨h.1,LIs.take n h.2⟩
 | _+1,[],_::_,h=>by simp[LIs]at h
 | _+1,_::_,[],h=>by simp[LIs]at h
theorem LIs.drop:∀(n:Nat) {l:List α} {al:List AV},LIs R l al->LIs R (l.drop n) (al.drop n)
 | 0,_,_,h=>h
 | n+1,[],[],h=>h
 | n+1,_::_,_::_,h=>by simp only[LIs]at h;exact LIs.drop n h.2
 | _+1,[],_::_,h=>by simp[LIs]at h
 | _+1,_::_,[],h=>by simp[LIs]at h
theorem LIs.set:∀{l:List α} {al:List AV} (i:Nat) {x:α} {a:AV},LIs R l al->R x a->LIs R (l.set i x) (al.set i a)
 | [],[],i,_,_,h,_=>by simp[LIs]
 | _::_,_::_,0,_,_,h,h'=>by simp only[LIs]at h;exact⟨h',h.2⟩
 | _::_,_::_,i+1,_,_,h,h'=>by simp only[LIs]at h;exact⟨h.1,LIs.set i h.2 h'⟩
 | [],_::_,_,_,_,h,_=>by simp[LIs]at h
 | _::_,[],_,_,_,h,_=>by simp[LIs]at h
theorem LIs.mono {R':α->AV->Prop}:∀{l:List α} {al:List AV},LIs R l al->(∀x ∈ l,∀a,R x a->R' x a)->LIs R' l al
 | [],[],_,_=>trivial
 | _::_,_::_,h,h'=>by simp only[LIs]at h;exact⟨h' _ (by simp) _ h.1,LIs.mono h.2 λx hx=>h' x (by simp[hx])⟩
 | [],_::_,h,_=>by simp[LIs]at h
 | _::_,[],h,_=>by simp[LIs]at h
end
def ints (l:List Int):List AV:=l.map AV.int
theorem ig (l:List Int):(ints l).length=l.length:=by simp[ints]
theorem mv:∀l:List Int,gi (ints l)=true
 | []=>by rw[ints,List.map_nil,gi]
 | e::es=>by have:=mv es;simp only[ints]at this ⊢;simp[gp,oj,this]
theorem mn (l:List Int):((ints l).all λx=>x.cells.length==1)=true:=by
 induction l with
 | nil=>rfl
 | cons x l ih=>simp only[ints]at ih ⊢;simp only[bq,cz,ih];rfl
theorem S3 {l:List Int} {i:Nat} (h:i<l.length):∃x,l[i]? = some x/\l.drop i=x::l.drop (i+1)/\(ints l)[i]? = some (.int x):=by
 refine⟨l[i],by simp[h],(bz h), ?_⟩
 simp[ints,h]
def App (T:List Nat) (l:List AV) (t:Tl):Prop:=(l=[]/\t = .nil)\/(l ≠ [] /\ ∃id ver,t = .tl id ver/\T[id]? = some ver)
theorem Dz {s:ASt} {T:List Nat} {l:List AV} {t:Tl} (h:App T l t) (hp:gi l=true) {n:Nat} (hn:2<=n):∃t',t'.pure=true/\gr n s (.sl l t)=some (.sl l t'):=by
 obtain⟨n,rfl⟩:∃k,n=k+2:=⟨n-2,by omega⟩
 rcases h with⟨rfl,rfl⟩|⟨hne,id,ver,rfl,hT⟩
 ·exact⟨.nil,rfl,jh (by simp[kl,gz,W0])⟩
 ·refine⟨(Tl.tl id ver).uy (n+1) s,by simp only[Tl.uy];split<;>rfl, ?_⟩
  have key:∀l,gi l=true->il (qa (gr (n+1) s)) l=some l:=by
   intro l
   induction l with
   | nil=>intro _;rfl
   | cons x l ih=>
    intro hp
    simp only[gp,dy]at hp
    have hx:qa (gr (n+1) s) x=some x:=by
     cases x with
     | agg c=>
      simp only[n6]at hp
      have:∀c,gi c=true->il (gr (n+1) s) c=some c:=by
       intro c
       induction c with
       | nil=>intro _;rfl
       | cons y c ih2=>
        intro hc
        simp only[gp,dy]at hc
        simp only[il,jh hc.1,ih2 hc.2]
      simp only[qa,this c hp.1,fh]
     | _=>exact jh (n:=n) (s:=s) hp.1
    simp only[il,hx,ih hp.2]
  unfold gr
  simp[kl,Tl.pure,key l hp]
end Go.Proofs.Eng
namespace Go.Proofs.Eng
open Go
theorem qy (s:ByteArray):s.toList.length=s.size:=by rw[ByteArray.toList_eq];rfl
theorem Gn {s:ByteArray}:(s.toList==(ByteArray.mk #[]).toList)=(s.size==0):=by
 rw[<- qy,show (ByteArray.mk #[]).toList=[]from by rw[ByteArray.toList_eq]]
 cases s.toList<;>rfl
theorem j9 (a b:ByteArray):(a.toList==b.toList)=decide (a=b):=by
 rw[Bool.eq_iff_iff,beq_iff_eq,decide_eq_true_eq]
 constructor
 ·intro h
  rw[ByteArray.toList_eq,ByteArray.toList_eq]at h
  cases a;cases b
  simp only at h
  rw[Array.toList_inj.1 h]
 ·rintro rfl;rfl
theorem ir (a b:ByteArray):(a==b)=decide (a=b):=by
 cases a with
 | mk x=>
 cases b with
 | mk y=>
 rw[Bool.eq_iff_iff,decide_eq_true_eq]
 show (x==y)=true ↔ _
 rw[beq_iff_eq,ByteArray.mk.injEq]
theorem R1 {α:Type} {p:Prop} {a:α} {q:α->Prop}:(∃x,(p/\a=x)/\q x)=(p/\q a):=by
 simp[and_assoc]
section
variable {α:Type} {R:α->AV->Prop} {es:Nat}
theorem U0:flat []=[]:=rfl
theorem td {n:Nat} {s:ASt}:∀{l:List AV},gi l=true->il (gr (n+1) s) l=some l
 | [],_=>rfl
 | x::l,h=>by
  simp only[gp,dy]at h
  simp only[il,jh h.1,td h.2]
theorem Hl {n:Nat} {s:ASt}:∀{l:List AV},gi l=true->il (qa (gr (n+1) s)) l=some l
 | [],_=>rfl
 | x::l,h=>by
  simp only[gp,dy]at h
  have hx:qa (gr (n+1) s) x=some x:=by
   cases x with
   | agg c=>
    have:=h.1
    simp only[n6]at this
    simp only[qa,td this,fh]
   | _=>exact jh (n:=n) (s:=s) h.1
  simp only[il,hx,Hl h.2]
theorem Tg {n:Nat} {s:ASt} {i off:Nat}:gr (n+1) s (.ptr i off)=match s.H[i]? with
  | some (.cells _ c)=>if off<=c.length then(il (gr n s) c).map (.ip · off)else none
  | _=>none:=by
 rw[gr];simp only[im,dz,if_false];rfl
theorem a52 {n:Nat} {s:ASt} {l:List AV}:gr (n+2) s (.agg l)=(il (gr (n+1) s) l).map .agg:=by
 cases h:gi l
 ·rw[gr];simp[n6,h]
 ·rw[jh (by rw[n6,h]),td h];rfl
theorem a30 {n:Nat} {s:ASt} {l:List AV}:gr (n+2) s (.tup l)=(il (gr (n+1) s) l).map .tup:=by
 cases h:gi l
 ·rw[gr];simp[Hb,h]
 ·rw[jh (by rw[Hb,h]),td h];rfl
theorem a0z {n:Nat} {s:ASt} {f:FuncId} {l:List AV}:gr (n+2) s (.fn f l)=(il (gr (n+1) s) l).map (.fn f):=by
 cases h:gi l
 ·rw[gr];simp[Aq,h]
 ·rw[jh (by rw[Aq,h]),td h];rfl
theorem Rs {n:Nat} {s:ASt} {t:TypeId} {x:AV}:gr (n+2) s (.iface t x)=(gr (n+1) s x).map (.iface t):=by
 cases h:im x
 ·rw[gr];simp[Dr,h]
 ·rw[jh (by rw[Dr,h]),jh h];rfl
theorem a5y {n:Nat} {s:ASt} {l:List AV} {t:Tl}:gr (n+2) s (.sl l t)=(il (qa (gr (n+1) s)) l).map (.sl · (t.uy (n+1) s)):=by
 cases h:t.pure&&gi l
 ·rw[gr];simp[kl,h]
 ·simp only[dy]at h
  rw[jh (by rw[kl,h.1,h.2];rfl),Hl h.2]
  cases t<;>simp_all [Tl.uy,Tl.pure]
theorem Hr {n:Nat} {s:ASt} {x:AV} (h:im x=true):frz n s x=s:=by
 cases n with
 | zero=>rfl
 | succ n=>exact xh h
theorem a0y {n:Nat} {s:ASt} {f:FuncId} {l:List AV}:frz (n+1) s (.fn f l)=if gi l then s else l.foldl (frz n) s:=by
 rw[frz,Aq]
theorem a3o {n:Nat} {s:ASt} {l:List AV}:frz (n+1) s (.agg l)=if gi l then s else l.foldl (frz n) s:=by
 rw[frz,n6]
theorem a2t {n:Nat} {s:ASt} {l:List AV}:frz (n+1) s (.tup l)=if gi l then s else l.foldl (frz n) s:=by
 rw[frz,Hb]
theorem Lw {i o:Nat}:im (.ptr i o)=false:=by rw[im];all_goals (intros;simp_all)
theorem a5m {i o n es:Nat} {ag:Bool}:im (.bs i o n es ag)=false:=by rw[im];all_goals (intros;simp_all)
theorem a67 {i:Nat}:im (.mp i)=false:=by rw[im];all_goals (intros;simp_all)
theorem U3 {n:Nat} {s:ASt} {i o:Nat}:frz (n+1) s (.ptr i o)=match s.H[i]? with
  | some (.cells _ c)=>c.foldl (frz n) (s.fz i)
  | _=>s:=by
 rw[frz];simp only[Lw,dz,if_false];rfl
theorem Ez:∀{l m:List AV},gi (l++m)=(gi l&&gi m)
 | [],m=>by simp[gz]
 | x::l,m=>by simp[gp,Ez (l:=l) (m:=m),Bool.and_assoc]
theorem Lc {x:AV} (h:im x=true):gi x.cells=true:=by
 cases x with
 | agg l=>rw[yf,<- n6];exact h
 | _=>simp only[AV.cells,gp,gz,h,Bool.and_true]
theorem G6:∀{l:List AV},gi l=true->gi (flat l)=true
 | [],_=>by rw[U0,gz]
 | x::l,h=>by
  simp only[gp,dy]at h
  rw[kp,Ez,Lc h.1,G6 h.2];rfl
theorem a6k {n:Nat} {s:ASt} {l:List AV} {t:Tl} (h:gi l=true):frz n s (.sl l t)=s:=by
 cases n with
 | zero=>rfl
 | succ n=>
  cases ht:t.pure with
  | true=>exact xh (by rw[kl,ht,h];rfl)
  | false=>
   rw[frz]
   simp only[kl,ht,ej,dz,if_false]
   exact ye (G6 h)
theorem a0i {s:ASt} {l:List AV} {t:Tl}:zk s (.sl l t)=some l:=Eq.trans rfl rfl
theorem To {s:ASt} {b:ByteArray}:zk s (.v (.string b))=some (b.toList.map λc=>.v (.int .u8 c.toNat)):=Eq.trans rfl rfl
theorem Q5 {s:ASt} {l:List AV} {t:Tl}:ku s (.sl l t)=some l:=Eq.trans rfl rfl
end
section
variable {md:FuncId->Md} {pfs:FuncId->Option PF}
theorem Oy {args:List AV} (h:gi args=true):args.map zd=args:=by
 induction args with
 | nil=>rfl
 | cons a l ih=>
  simp only[gp,dy]at h
  rw[bq,ih h.2]
  cases a with
  | sl l t=>
   have:=h.1
   rw[kl,dy]at this
   simp only[zd,this.1,if_true]
  | _=>rfl
theorem Out.a6c {f:FuncId} {args:List AV} {PR:AV->Prop} (h:Out md pfs f (args.map zd) PR λ_=>False) (hm:md f = .pure) (ha:gi (args.map zd)=true):∃v,PR v /\ ∀s K KP,CW (run md pfs) md true s f args K KP ()=K v s:=by
 have e:zg true args=args.map zd:=by
  unfold zg
  split
  ·rfl
  ·rename_i hp
   rw[Oy (by simpa using hp)]
 obtain⟨v,h1,h2⟩:=h.call hm ha
 refine⟨v,h1,λs K KP => ?_⟩
 have:=h2 true s K KP
 simp only[CW,me,e,Dl ha]at this ⊢
 exact this
theorem Out.nv {f:FuncId} {args args':List AV} {PR:AV->Prop} (h:Out md pfs f args' PR λ_=>False) (hm:md f = .pure) {s:ASt} (hp:il (gr 20 s) args=some args'):∃v,PR v /\ ∀K KP,CW (run md pfs) md false s f args K KP ()=K v (args.foldl (frz 20) s):=by
 obtain⟨out,s',out',h1,h2,h3⟩:=h
 cases out' with
 | pan v=>exact h3.elim
 | ret v=>exact⟨v,h3,λK KP=>by simp[CW,me,my,mg,hm,hp,h1,h2]⟩
end
end Go.Proofs.Eng
namespace Go.Proofs.Eng
open Go
theorem xj {α:Type} {H l:List α}:(H++l)[H.length]? = l[0]? := by rw[af (di _),Nat.sub_self]
theorem Co {α:Type} {H l:List α} {k:Nat}:(H++l)[H.length+k]? = l[k]? := by rw[af (Nat.le_add_right _ _),Nat.add_sub_cancel_left]
theorem Cc {α:Type} {H l:List α} {y:α}:(H++l).set H.length y=H++l.set 0 y:=by rw[List.set_append_right _ _ (di _),Nat.sub_self]
theorem Ck {α:Type} {H l:List α} {k:Nat} {y:α}:(H++l).set (H.length+k) y=H++l.set k y:=by rw[List.set_append_right _ _ (Nat.le_add_right _ _),Nat.add_sub_cancel_left]
theorem jc {α:Type} {H:List α} {i:Nat} {x:α} (h:H[i]? = some x) (l:List α):(H++l)[i]? = some x:=by
 rw[ae (List.getElem?_eq_some_iff.1 h).1];exact h
theorem fu {α:Type} {H:List α} {i:Nat} {x:α} (h:H[i]? = some x):i<H.length:=(List.getElem?_eq_some_iff.1 h).1
section
variable {md:FuncId->Md} {pfs:FuncId->Option PF}
def Sh (md:FuncId->Md) (pfs:FuncId->Option PF) (f:FuncId) (args:List AV) (s:ASt) (PR PP:AV->ASt->Prop):Prop:=
 ∃out s1 out',run md pfs f args s=some (out,s1)/\out.gr 20 s1=some out'/\match out' with | .ret v=>PR v (out.frz 20 s1) | .pan v=>PP v (out.frz 20 s1)
def SQ (res:List PR) (PR PP:AV->ASt->Prop):gg->St->Prop
 | .pan v,st=>st.df=[] /\ ∃v',gr 20 st.s v=some v'/\PP v' (frz 20 st.s v)
 | .exit _,_=>False
 | _,st=>st.df=[] /\ ∃l,ma st.tm st.s res=some l /\ ∃v',gr 20 st.s (oq l)=some v'/\PR v' (frz 20 st.s (oq l))
theorem a1o {res:List PR} {PR PP:AV->ASt->Prop} {st:St}:SQ res PR PP .ret st=(st.df=[] /\ ∃l,ma st.tm st.s res=some l /\ ∃v',gr 20 st.s (oq l)=some v'/\PR v' (frz 20 st.s (oq l))):=rfl
theorem Qd {res:List PR} {PR PP:AV->ASt->Prop} {st:St}:SQ res PR PP .normal st=(st.df=[] /\ ∃l,ma st.tm st.s res=some l /\ ∃v',gr 20 st.s (oq l)=some v'/\PR v' (frz 20 st.s (oq l))):=rfl
theorem a23 {res:List PR} {PR PP:AV->ASt->Prop} {v:AV} {st:St}:SQ res PR PP (.pan v) st=(st.df=[] /\ ∃v',gr 20 st.s v=some v'/\PP v' (frz 20 st.s v)):=rfl
theorem j8 {f:FuncId} {pf:PF} (hp:pfs f=some pf) {args:List AV} {s:ASt} {PR PP:AV->ASt->Prop} (hn:args.length<=pf.nt) (h:W (run md pfs) md pf.body ⟨tmE pf.nt (v8 args),[],s⟩ (SQ pf.res PR PP) ()):Sh md pfs f args s PR PP:=by
 unfold Sh
 rw[run_eq hp (Nr h)]
 unfold Dj
 rw[Dd args pf.nt hn]
 unfold W at h
 cases hx:iy (run md pfs) md (sd (run md pfs) md) pf.body ⟨tmE pf.nt (v8 args),[],s⟩with
 | none=>rw[hx]at h;exact h.elim
 | some x=>
  obtain⟨r,st⟩:=x
  obtain⟨tm,df,s⟩:=st
  rw[hx]at h
  cases r with
  | exit i=>exact h.elim
  | pan v=>
   obtain⟨h1,v',h2,h3⟩:=h
   simp only at h1;subst h1
   exact⟨.pan v,s,.pan v',by simp only[List.isEmpty_nil,ed,er,dz,if_false];rfl,by simp only[jx.gr];rw[h2];rfl,h3⟩
  | normal=>
   obtain⟨h1,l,h2,v',h3,h4⟩:=h
   simp only at h1;subst h1
   refine⟨.ret (oq l),s,.ret v', ?_,by simp only[jx.gr];rw[h3];rfl,h4⟩
   simp only[List.isEmpty_nil,ed,er,dz,if_false]
   show (ma tm s pf.res).map _=_
   simp only at h2
   rw[h2];rfl
  | ret=>
   obtain⟨h1,l,h2,v',h3,h4⟩:=h
   simp only at h1;subst h1
   refine⟨.ret (oq l),s,.ret v', ?_,by simp only[jx.gr];rw[h3];rfl,h4⟩
   simp only[List.isEmpty_nil,ed,er,dz,if_false]
   show (ma tm s pf.res).map _=_
   simp only at h2
   rw[h2];rfl
theorem Sh.call {f:FuncId} {args:List AV} {s:ASt} {PR PP:AV->ASt->Prop} (h:Sh md pfs f args s PR PP) (hm:md f = .shared):(∃v s',PR v s' /\ ∀K KP,CW (run md pfs) md false s f args K KP ()=K v s')\/(∃v s',PP v s' /\ ∀K KP,CW (run md pfs) md false s f args K KP ()=KP v s'):=by
 obtain⟨out,s1,out',h1,h2,h3⟩:=h
 cases out' with
 | ret v=>exact .inl ⟨v,_,h3,λK KP=>by simp[CW,me,my,mg,hm,h1,h2]⟩
 | pan v=>exact .inr ⟨v,_,h3,λK KP=>by simp[CW,me,my,mg,hm,h1,h2]⟩
theorem Sh.mono {f:FuncId} {args:List AV} {s:ASt} {PR PP PR' PP':AV->ASt->Prop} (h:Sh md pfs f args s PR PP) (h1:∀v s,PR v s->PR' v s) (h2:∀v s,PP v s->PP' v s):Sh md pfs f args s PR' PP':=by
 obtain⟨out,s1,out',e1,e2,e3⟩:=h
 refine⟨out,s1,out',e1,e2, ?_⟩
 cases out' with
 | ret v=>exact h1 _ _ e3
 | pan v=>exact h2 _ _ e3
end
end Go.Proofs.Eng
namespace Go.Proofs.Eng
open Go
set_option maxRecDepth 10000
def fm:=And.intro @a5r (And.intro @a6i (And.intro @a2o (And.intro @a5n (And.intro @a1x (And.intro @Za (And.intro @a6y (And.intro @a7g (And.intro @a6m (And.intro @a6r (And.intro @a7d (And.intro @a6s (And.intro @a79 (And.intro @a6q (And.intro @a6o (And.intro @a2c (And.intro @Zz (And.intro @a2w (And.intro @Zg (And.intro @Vv (And.intro @My (And.intro @a2i (And.intro @Xz (And.intro @a3m (And.intro @Zf (And.intro @a7h (@a7f))))))))))))))))))))))))))
def a6u:=And.intro @a6v (And.intro @a7a (And.intro @a4s (And.intro @Zd (And.intro @Tv (And.intro @a5f (And.intro @a4i (And.intro @a3t (And.intro @Wx (And.intro @R0 (And.intro @a62 (And.intro @Sv (And.intro @Rk (And.intro @Sd (And.intro @T6 (And.intro @Un (And.intro @Xh (And.intro @a1y (And.intro @Yp (And.intro @a32 (And.intro @Zx (And.intro @Wd (And.intro @a58 (And.intro @Vz (And.intro @a45 (And.intro @Xu (And.intro @Uh (And.intro @Vq (And.intro @a4k (And.intro @a50 (And.intro @a4y (And.intro @a4b (And.intro @Wp (And.intro @a65 (And.intro @a04 (And.intro @a0l (And.intro @Zj (And.intro @Tj (And.intro @Vn (And.intro @Rp (And.intro @Ry (And.intro @Pz (And.intro @Ws (And.intro @a00 (And.intro @X1 (And.intro @Uy (And.intro @a3f (And.intro @Y6 (And.intro @Zw (And.intro @a1v (And.intro @Vj (And.intro @Im (And.intro @Gf (And.intro @Y7 (And.intro @Yf (And.intro @a4n (And.intro @a3x (And.intro @Vk (And.intro @a3h (And.intro @Um (And.intro @a63 (And.intro @a66 (And.intro @a60 (And.intro @a6b (And.intro @a08 (And.intro @a07 (And.intro @yf (And.intro @P9 (And.intro @a0a (And.intro @a02 (And.intro @Ui (And.intro @Tt (And.intro @Qq (And.intro @Qh (And.intro @Rh (And.intro @Tb (And.intro @Re (And.intro @R6 (And.intro @U6 (And.intro @Vy (And.intro @Rj (And.intro @W8 (And.intro @J8 (And.intro @Kc (And.intro @a2p (And.intro @Y4 (And.intro @Rz (And.intro @Xq (And.intro @Z7 (And.intro @Zr (And.intro @Yu (And.intro @Mz (And.intro @a4u (And.intro @Qz (And.intro @a2b (And.intro @D3 (And.intro @jh (And.intro @oj (And.intro @kl (And.intro @n6 (And.intro @Hb (And.intro @Dr (And.intro @Aq (And.intro @a18 (And.intro @gz (And.intro @gp (And.intro @W0 (And.intro @Wn (And.intro @a5e (And.intro @Mg (And.intro @R1 (And.intro @a0z (And.intro @Tg (And.intro @a30 (And.intro @Rs (And.intro @Hr (And.intro @a0y (And.intro @a3o (And.intro @a2t (And.intro @U3 (And.intro @Lw (And.intro @a5m (And.intro @a67 (And.intro @a6k (And.intro @a0i (And.intro @To (And.intro @Q5 (And.intro @Gn (And.intro @a1o (And.intro @Qd (And.intro @a23 (And.intro @a09 (And.intro @a4d (And.intro @Xw (And.intro @a64 (And.intro @a61 (And.intro @Y9 (And.intro @a3v (And.intro @Zu (And.intro @Vr (And.intro @a57 (And.intro @Vm (And.intro @a22 (And.intro @a2u (And.intro @a2y (And.intro @a2n (And.intro @a5t (And.intro @Zl (And.intro @a03 (And.intro @Uc (And.intro @Wg (And.intro @Y1 (And.intro @Xm (And.intro @a3y (@Ux))))))))))))))))))))))))))))))))))))))))))))))))))))))))))))))))))))))))))))))))))))))))))))))))))))))))))))))))))))))))))))))))))))))))))))))))))))))))))
def a6g:=And.intro @not_false_eq_true (And.intro @Option.map_some.{0,0} (And.intro @Option.bind_some.{0,0} (And.intro @Option.some.injEq.{0} (And.intro @Bool.false_eq_true (And.intro @List.nil_append.{0} (And.intro @List.cons_append.{0} (And.intro @List.length_cons.{0} (And.intro @List.length_nil.{0} (And.intro @List.getElem?_cons_zero.{0} (And.intro @List.getElem?_cons_succ.{0} (And.intro @List.set_cons_zero.{0} (And.intro @List.set_cons_succ.{0} (And.intro @List.drop_zero.{0} (And.intro @List.drop_succ_cons.{0} (And.intro @List.take_zero.{0} (And.intro @List.take_succ_cons.{0} (And.intro @List.take_nil.{0} (And.intro @List.drop_nil.{0} (And.intro @List.append_nil.{0} (And.intro @Nat.zero_add (And.intro @Nat.add_zero (And.intro @and_true (And.intro @true_and (And.intro @List.all_cons.{0} (And.intro @List.all_nil.{0} (And.intro @Bool.and_true (And.intro @Bool.true_and (And.intro @List.getD_cons_zero.{0} (And.intro @List.getD_cons_succ.{0} (And.intro @List.getD_nil.{0} (And.intro @List.head?_cons.{0} (And.intro @decide_eq_true_eq (And.intro @decide_eq_false_iff_not (And.intro @List.getElem?_concat_length.{0} (And.intro @Int.toNat_natCast (And.intro @Nat.le_refl (And.intro @Int.le_refl (And.intro @List.head?_nil.{0} (And.intro @Option.ite_none_right_eq_some.{0} (And.intro @and_self (And.intro @Bool.not_true (And.intro @Bool.not_false (And.intro @Option.isSome_some.{0} (And.intro @Option.isSome_none.{0} (And.intro @Bool.xor_false (And.intro @Bool.false_xor (And.intro @Bool.true_xor (And.intro @Bool.xor_true (And.intro @beq_self_eq_true.{0} (And.intro @bne_self_eq_false.{0} (And.intro @decide_true (And.intro @decide_false (And.intro @Option.getD_some.{0} (And.intro @Nat.zero_le (And.intro @Int.natCast_nonneg (And.intro @List.foldl_cons.{0,0} (And.intro @List.foldl_nil.{0,0} (And.intro @Bool.and_false (And.intro @Bool.false_and (And.intro @List.replicate_succ.{0} (And.intro @List.replicate_zero.{0} (And.intro @Nat.zero_div (And.intro @Nat.zero_mul (And.intro @Nat.lt_add_one (And.intro @Nat.zero_lt_succ (And.intro @Nat.lt_irrefl (And.intro @Int.cast_ofNat_Int (And.intro @Int.toNat_zero (And.intro @Int.toNat_one (And.intro @List.contains_cons.{0} (And.intro @List.contains_nil.{0} (And.intro @Bool.or_false (And.intro @Bool.or_true (And.intro @Bool.false_or (@Bool.true_or)))))))))))))))))))))))))))))))))))))))))))))))))))))))))))))))))))))))))))
end Go.Proofs.Eng
namespace Go.Proofs.Eng
open Go
def Om (es:Nat) (l:List AV):Prop:=∀x ∈ l,∃c,x = .agg c/\c.length=es/\c.all ic=true
theorem Om.set {es:Nat} {l:List AV} (h:Om es l) (m:Nat) {c:List AV} (hc:c.length=es) (ho:c.all ic=true):Om es (l.set m (.agg c)):=by
 intro x hx
 rcases List.mem_or_eq_of_mem_set hx with h1|rfl
 ·exact h x h1
 ·exact⟨c,rfl,hc,ho⟩
theorem LIs.rows {α:Type} {R:α->AV->Prop} {es:Nat} (hR:Xf R es):∀{l:List α} {al:List AV},LIs R l al->Om es al
 | [],[],_=>λx hx=>by simp at hx
 | a::l,b::al,h=>λx hx=>by
  simp only[LIs]at h
  rcases List.mem_cons.1 hx with rfl|hx
  ·exact hR.cells h.1
  ·exact LIs.rows hR h.2 x hx
 | [],_::_,h=>by simp[LIs]at h
 | _::_,[],h=>by simp[LIs]at h
end Go.Proofs.Eng
