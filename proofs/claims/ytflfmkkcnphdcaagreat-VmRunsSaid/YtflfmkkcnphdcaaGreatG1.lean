/- The engine, first part: abstract values, prepared code, and the abstract interpreter. Definitions alone; no conditions. -/
import Derived.WalkKit
import Derived.Orders
import Derived.KernelRfl
import Derived.Laws.CopyRow
import Derived.Below
import Derived.Laws.Tables
import Derived.Laws.Strings
import Derived.LaidEql
import Derived.Laws.MakeOwn
import Derived.Great.BuildSlice
set_option linter.all false
set_option linter.deprecated false
set_option linter.unnecessarySimpa false
set_option linter.unusedVariables false
set_option linter.unusedSimpArgs false
set_option linter.defProp false
namespace Go.Proofs.Eng
def aa:=@List.getElem?_eq_getElem
def ae:=@List.getElem?_append_left
def af:=@List.getElem?_append_right
def ah:=@List.length_append
def aj:=@List.append_assoc
def ak:=@List.length_cons
def ao:=@List.length_nil
def aq:=@List.mem_of_getElem?
def au:=@List.take_of_length_le
def aw:=@List.all_eq_true
def b7:=@List.length_take
def b8:=@List.length_drop
def b9:=@List.getElem?_set
def ba:=@List.getElem?_drop
def bc:=@List.getElem?_take
def bh:=@List.getElem?_map
def bj:=@List.take_add_one
def bn:=@List.cons_append
def bo:=@List.nil_append
def bq:=@List.map_cons
def bt:=@List.drop_eq_nil_of_le
def bu:=@List.getElem?_cons_succ
def bw:=@List.getElem?_cons_zero
def bz:=@List.drop_eq_getElem_cons
def c6:=@List.set_cons_zero
def c7:=@List.set_cons_succ
def c8:=@List.getElem?_of_mem
def c9:=@List.eq_nil_of_length_eq_zero
def cc:=@List.getD_eq_getElem?_getD
def ck:=@List.take_append_drop
def cx:=@List.getElem?_eq_none
def cz:=@List.all_cons
def dc:=@List.foldl_cons
def de:=@List.getElem?_range
def dg:=@List.length_map
def dh:=@Nat.le_of_ble_eq_true
def di:=@Nat.le_refl
def dj:=@Nat.lt_or_ge
def dk:=@Nat.zero_le
def dp:=@Nat.zero_add
def dq:=@Nat.lt_of_lt_of_le
def dt:=@Nat.le_trans
def du:=@Nat.le_succ
def dv:=@Nat.add_assoc
def dw:=@Array.getElem?_eq_getElem
def dx:=@Array.toArray_toList
def dy:=@Bool.and_eq_true
def dz:=@Bool.false_eq_true
def ed:=@Bool.not_true
def ee:=@Bool.not_false
def ei:=@Bool.or_eq_true
def ej:=@Bool.false_and
def er:=@Bool.and_false
def eu:=@Bool.false_ne_true
def ew:=@Int.toNat_natCast
def fc:=@Int.natCast_nonneg
def fe:=@Option.some.injEq
def ff:=@Prod.mk.injEq
def fh:=@Option.map_some
def fi:=@Option.map_eq_some_iff
inductive Tl where
 | none
 | al
 | nil
 | cap (c:Nat)
 | tl (id ver:Nat)
 | tls (id ver es:Nat)
 | lim (c:Nat)
 deriving Inhabited,DecidableEq
inductive AV where
 | v (x:Value)
 | ptr (i off:Nat)
 | ip (l:List AV) (off:Nat)
 | sl (l:List AV) (t:Tl)
 | bs (i off len es:Nat) (ag:Bool)
 | cp (i off es:Nat)
 | mp (i:Nat)
 | fn (f:FuncId) (caps:List AV)
 | bm (f:FuncId) (fs:List AV)
 | agg (l:List AV)
 | tup (l:List AV)
 | iface (t:TypeId) (x:AV)
 | unk
 deriving Inhabited
abbrev AV.int (n:Int):AV:=.v (.int .i64 n)
abbrev AV.bool (b:Bool):AV:=.v (.bool b)
abbrev AV.str (s:ByteArray):AV:=.v (.string s)
abbrev AV.undef:AV:=.tup []
def AV.cells:AV->List AV
 | .agg l=>l
 | x=>[x]
def AV.one:AV->Bool
 | .agg _=>false
 | _=>true
def AV.known:AV->Bool
 | .unk=>false
 | _=>true
def flat (l:List AV):List AV:=l.flatMap AV.cells
inductive fq where
 | cells (fz:Bool) (l:List AV)
 | map (es:List (AV × AV))
 | dead
 deriving Inhabited
structure ASt where
 H:List fq
 T:List Nat
 deriving Inhabited
inductive X where
 | t (n:Nat)
 | c (v:AV)
 deriving Inhabited
inductive KK where
 | sc (st:Bool)
 | pt
 deriving Inhabited,DecidableEq
inductive PO where
 | mov (x:X)
 | pick (c a b:X)
 | alloc (l:List AV)
 | box (x:X)
 | build (z:List AV) (ps:List (Nat × Nat × X))
 | bsl (z:AV) (len:Nat) (ps:List (Nat × Nat × X))
 | load (ag:Bool) (n:Nat) (a:X)
 | store (n:Nat) (a x:X)
 | gy (x:X)
 | bin (op:BinOp) (x y:X)
 | eqb (neg:Bool) (x y:X)
 | eqi (neg:Bool) (x y:X)
 | eqs (neg:Bool) (x y:X)
 | eqp (neg:Bool) (x y:X)
 | un (op:UnOp) (x:X)
 | conv (k:IntKind) (x:X)
 | L9 (t:TypeId) (x:X)
 | Hv (f:FuncId) (caps:List X)
 | tn (f:FuncId) (fs:List X)
 | sm
 | slice (es:Nat) (x:X) (lo hi mx:Option X)
 | fy (off:Nat) (x:X)
 | j6 (es:Nat) (x ix:X)
 | y9 (len es:Nat) (x ix:X)
 | Mb (len es:Nat) (ag:Bool) (x ix:X)
 | Ho (x ix:X)
 | look (z:AV) (ok:Bool) (st:KK) (m k:X)
 | sk (st:KK) (m k x:X)
 | ext (x:X) (i:Nat)
 | Ym (t:TypeId) (ok:Bool) (z:AV) (x:X)
 | call (f:X) (args:List X)
 | app (es:Nat) (bs:Option Bool) (x y:X)
 | Po (es:Nat) (x y n v d:X)
 | clone (es:Nat) (ag:Bool) (tl:Bool) (x:X)
 | m5 (x:X)
 | Dk (x:X)
 | Jb (x:X)
 | max (x y:X)
 | min (x y:X)
 | ug
 | dfr (f:X) (args:List X)
 | panic (x:X)
 deriving Inhabited
structure PI where
 dst:Option Nat
 g:Option (Nat × Bool)
 op:PO
 ix:Nat
 pre:List Nat
 deriving Inhabited
inductive Kd where
 | S|R|W|T|A|C|X
 deriving DecidableEq
def PO.kd:PO->Kd
 | .load .. | .look .. => .R
 | .store .. | .sk .. => .W
 | .app _ none _ _=>.T
 | .alloc _ | .sm=>.A
 | .call .. => .C
 | .app _ (some _) _ _ | .Po .. | .box _ | .clone .. | .ug | .dfr .. => .X
 | _=>.S
def Kd.At:Kd->Kd->Bool
 | .W,.R | .W,.W | .W,.T | .R,.W | .T,.W | .T,.T=>true
 | _,_=>false
def Kd.eff:Kd->Bool
 | .W | .T=>true
 | _=>false
inductive PC where
 | skip
 | reg (l:List PI)
 | jk (ns:List Nat) (l:List PI)
 | seq (a b:PC)
 | cond (x:X) (a b:PC)
 | block (id:Nat) (b:PC)
 | loop (b:PC)
 | exit (id:Nat)
 | ret
 | ora (o:List AV->ASt->Option (AV × ASt))
 | By (it:FuncId->List AV->ASt->Nat->Option (Option (List AV))) (x:X) (ps:List Nat) (a b:PC)
 deriving Inhabited
def PC.J5:PC->Option (List AV->ASt->Option (AV × ASt))
 | .ora o=>some o
 | _=>none
inductive PR where
 | t (n:Nat)
 | c (n:Nat) (ag:Bool) (sz:Nat)
 deriving Inhabited
structure PF where
 nt:Nat
 res:List PR
 body:PC
 deriving Inhabited
inductive Md where
 | pure
 | shared
 | raw
structure Bf where
 b:Bool
 sh:FuncId->Bool
 it:FuncId->List AV->ASt->Nat->Option (Option (List AV))
def eqV:Value->Value->Bool
 | .int k a,.int k' b=>decide (k=k')&&a==b
 | .string a,.string b=>a==b
 | .bool a,.bool b=>a==b
 | .pointer none,.pointer none=>true
 | _,_=>false
mutual
def ml:AV->AV->Bool
 | .v a,.v b=>eqV a b
 | .ptr i o,.ptr j p=>i==j&&o==p
 | .mp i,.mp j=>i==j
 | .bs i o n e g,.bs i' o' n' e' g'=>i==i'&&o==o'&&n==n'&&e==e'&&g==g'
 | .sl l t,.sl m u=>decide (t=u)&&k9 l m
 | .agg l,.agg m=>k9 l m
 | _,_=>false
def k9:List AV->List AV->Bool
 | [],[]=>true
 | x::l,y::m=>ml x y&&k9 l m
 | _,_=>false
end
def Tl.pure:Tl->Bool
 | .tl _ _=>false
 | .tls _ _ _=>false
 | _=>true
mutual
def im:AV->Bool
 | .v _=>true
 | .sl l t=>t.pure&&gi l
 | .agg l=>gi l
 | .tup l=>gi l
 | .iface _ x=>im x
 | .fn _ caps=>gi caps
 | .bm _ fs=>gi fs
 | .ip l _=>gi l
 | _=>false
def gi:List AV->Bool
 | []=>true
 | x::xs=>im x&&gi xs
end
def chunk (es:Nat) (ag:Bool):Nat->List AV->List AV
 | 0,_=>[]
 | n+1,l=>(if ag then .agg (l.take es)else l.headD .unk)::chunk es ag n (l.drop es)
def ku (s:ASt):AV->Option (List AV)
 | .sl l _=>some l
 | .bs i off len es ag=>
  match s.H[i]? with
  | some (.cells _ c)=>if off+len*es<=c.length/\(ag||(es==1&&((c.drop off).take len).all AV.one))=true then some (chunk es ag len (c.drop off))else none
  | _=>none
 | _=>none
def il {α β:Type} (f:α->Option β):List α->Option (List β)
 | []=>some []
 | x::xs=>match f x with
  | some y=>match il f xs with
   | some ys=>some (y::ys)
   | none=>none
  | none=>none
def qa (f:AV->Option AV):AV->Option AV
 | .agg l=>(il f l).map .agg
 | x=>f x
def Tl.uy (n:Nat) (s:ASt):Tl->Tl
 | .tl id v=>if 1000<=n/\s.T[id]? = some v then .al else .none
 | .tls id v _=>if 1000<=n/\s.T[id]? = some v then .al else .none
 | t=>t
def gr:Nat->ASt->AV->Option AV
 | 0,_,_=>none
 | n+1,s,x=>if im x then some x else
  match x with
  | .sl l t=>(il (qa (gr n s)) l).map (.sl · (t.uy n s))
  | .bs i off len es ag=>((ku s (.bs i off len es ag)).bind (il (qa (gr n s)))).map (.sl · .al)
  | .ptr i off=>match s.H[i]? with
   | some (.cells _ c)=>if off<=c.length then(il (gr n s) c).map (.ip · off)else none
   | _=>none
  | .agg l=>(il (gr n s) l).map .agg
  | .tup l=>(il (gr n s) l).map .tup
  | .iface t x=>(gr n s x).map (.iface t)
  | .fn f l=>(il (gr n s) l).map (.fn f)
  | .bm f l=>(il (gr n s) l).map (.bm f)
  | .ip l off=>(il (gr n s) l).map (.ip · off)
  | _=>none
def ASt.fz (s:ASt) (i:Nat):ASt:=
 match s.H[i]? with
 | some (.cells _ l)=>{s with H:=s.H.set i (.cells true l)}
 | _=>s
def frz:Nat->ASt->AV->ASt
 | 0,s,_=>s
 | n+1,s,x=>if im x then s else
  match x with
  | .sl l _=>(flat l).foldl (frz n) s
  | .bs i off len es ag=>(flat ((ku s (.bs i off len es ag)).getD [])).foldl (frz n) (s.fz i)
  | .ptr i _=>match s.H[i]? with
   | some (.cells _ c)=>c.foldl (frz n) (s.fz i)
   | _=>s
  | .agg l=>l.foldl (frz n) s
  | .tup l=>l.foldl (frz n) s
  | .iface _ x=>frz n s x
  | .fn _ l=>l.foldl (frz n) s
  | .bm _ l=>l.foldl (frz n) s
  | .ip l _=>l.foldl (frz n) s
  | _=>s
inductive OpR where
 | val (v:AV) (s:ASt)
 | call (f:FuncId) (args:List AV)
 | panic (v:AV)
 | dfr (f:FuncId) (args:List AV)
 | ug
 deriving Inhabited
def evX (tm:List AV):X->Option AV
 | .t n=>tm[n]?
 | .c v=>some v
def vv (op:BinOp) (k:IntKind) (a b:Int):Option AV:=
 match op with
 | .add=>some (.v (.int k (k.wrap (a+b))))
 | .sub=>some (.v (.int k (k.wrap (a-b))))
 | .mul=>some (.v (.int k (k.wrap (a*b))))
 | .quo=>if b=0 then none else some (.v (.int k (k.wrap (a.tdiv b))))
 | .rem=>if b=0 then none else some (.v (.int k (a.tmod b)))
 | .and=>some (.v (.int k (k.wrap (BitVec.ofInt k.bits a &&& BitVec.ofInt k.bits b).toNat)))
 | .or=>some (.v (.int k (k.wrap (BitVec.ofInt k.bits a ||| BitVec.ofInt k.bits b).toNat)))
 | .xor=>some (.v (.int k (k.wrap (BitVec.ofInt k.bits a ^^^ BitVec.ofInt k.bits b).toNat)))
 | .andNot=>some (.v (.int k (k.wrap (BitVec.ofInt k.bits a &&& ~~~ BitVec.ofInt k.bits b).toNat)))
 | .eql=>some (.v (.bool (a==b)))
 | .neq=>some (.v (.bool (a != b)))
 | .lss=>some (.v (.bool (a<b)))
 | .leq=>some (.v (.bool (a<=b)))
 | .gtr=>some (.v (.bool (a>b)))
 | .geq=>some (.v (.bool (a>=b)))
 | _=>none
def Eu (op:BinOp) (x y:ByteArray):Option AV:=
 match op with
 | .add=>if x.size+y.size<=1073741824 then some (.v (.string (x++y)))else none
 | .eql=>some (.v (.bool (x.toList==y.toList)))
 | .neq=>some (.v (.bool !(x.toList==y.toList)))
 | .lss=>some (.v (.bool (Op.bytesLess x.toList y.toList)))
 | .leq=>some (.v (.bool (Op.bytesLess x.toList y.toList||x.toList==y.toList)))
 | .gtr=>some (.v (.bool !(Op.bytesLess x.toList y.toList||x.toList==y.toList)))
 | .geq=>some (.v (.bool !(Op.bytesLess x.toList y.toList)))
 | _=>none
def Fc (op:BinOp):AV->AV->Option AV
 | .v (.int k a),.v (.int k' b)=>
  match op with
  | .shl=>if 0<=b then some (.v (.int k (k.wrap (a*2 ^ (min b.toNat k.bits)))))else none
  | .shr=>if 0<=b then some (.v (.int k (a.fdiv (2 ^ (min b.toNat k.bits)))))else none
  | _=>if k=k' then vv op k a b else none
 | .v (.string a),.v (.string b)=>Eu op a b
 | _,_=>none
def X.isC:X->Bool
 | .c _=>true
 | _=>false
def Km (k:Bool):AV->AV->Option Bool
 | .v .nilIface,.iface _ _=>some false
 | .iface _ _,.v .nilIface=>some false
 | .v .nilIface,.v .nilIface=>if k then some true else none
 | _,_=>none
def Kq:AV->AV->Option Bool
 | .sl [] .nil,.sl [] .nil=>some true
 | .sl (_::_) _,.sl [] .nil=>some false
 | .bs _ _ _ _ _,.sl [] .nil=>some false
 | _,_=>none
def unA:UnOp->AV->Option AV
 | .neg,.v (.int k n)=>some (.v (.int k (k.wrap (0-n))))
 | .not,.v (.bool b)=>some (.v (.bool !b))
 | _,_=>none
def x8 (ag:Bool) (n:Nat) (l:List AV):Option AV:=
 if ag then(if n<=l.length then some (.agg (l.take n))else none)else l.head?
def sf (s:ASt) (ag:Bool) (n:Nat):AV->Option AV
 | .ptr i off=>
  match s.H[i]? with
  | some (.cells _ l)=>x8 ag n (l.drop off)
  | _=>none
 | .ip l off=>x8 ag n (l.drop off)
 | _=>none
def setAt {α:Type} (l:List α) (off:Nat) (xs:List α):List α:=l.take off++xs++l.drop (off+xs.length)
def ic:AV->Bool
 | .agg _=>false
 | .tup _=>false
 | .unk=>false
 | _=>true
def uo (s:ASt) (n:Nat) (x:AV):AV->Option ASt
 | .ptr i off=>
  match s.H[i]? with
  | some (.cells false l)=>
   if x.cells.length=n/\off+n<=l.length/\x.cells.all ic=true then some {s with H:=s.H.set i (.cells false (setAt l off x.cells))} else none
  | _=>none
 | _=>none
def jd (len:Nat) (d:Nat):Option X->List AV->Option Nat
 | none,_=>some d
 | some x,tm=>
  match evX tm x with
  | some (.v (.int _ n))=>if 0<=n/\n<=len then some n.toNat else none
  | _=>none
def nh (es:Nat) (l:List AV) (t:Tl) (lo hi:Nat) (mx:Option Nat):Option AV:=
 if lo<=hi/\hi<=l.length then
  match mx with
  | some m=>if hi<=m/\m<=l.length then some (.sl ((l.take hi).drop lo) (match t with | .cap _ | .al | .nil=>.cap (m-lo)|_=>.lim (m-lo)))else none
  | none=>
   if lo=0/\hi=l.length then some (.sl l t)
   else some (.sl ((l.take hi).drop lo) (match t with | .cap c=>.cap (c-lo) | .al=>.al | .tl id v=>if hi=l.length then .tls id v es else .none | .tls id v e=>if hi=l.length/\e=es then .tls id v es else .none|_=>.none))
 else none
def zk (s:ASt):AV->Option (List AV)
 | .v (.string b)=>some (b.toList.map λc=>.v (.int .u8 c.toNat))
 | x=>ku s x
def tr (s:ASt) (es:Nat) (bs:Option Bool) (l:List AV) (t:Tl) (xs:List AV):Option (AV × ASt):=
 match xs with
 | []=>some (.sl l t,s)
 | _::_=>
  if (l.length+xs.length<=1073741824\/es=1/\l.length+xs.length<=8796093022208)/\(l.all λx=>x.cells.length==es)/\(xs.all λx=>x.cells.length==es&&x.cells.all ic)then
   let new:AV × ASt:=match bs with
    | some ag=>(.bs s.H.length 0 (l.length+xs.length) es ag,{s with H:=s.H++[.cells false (flat (l++xs))]})
    | none=>(.sl (l++xs) (.tl s.T.length 0),{s with T:=s.T++[0]})
   match t with
   | .nil=>some new
   | .cap c=>if c<l.length+xs.length then some new else none
   | .lim c=>if c<l.length+xs.length then some new else none
   | .tl id ver=>
    match bs,s.T[id]? with
    | none,some v=>if v=ver/\l ≠ []then some (.sl (l++xs) (.tl id (ver+1)),{s with T:=s.T.set id (ver+1)})else none
    | _,_=>none
   | .tls id ver e=>
    match bs,s.T[id]? with
    | none,some v=>if v=ver/\e=es then some (.sl (l++xs) (.tls id (ver+1) es),{s with T:=s.T.set id (ver+1)})else none
    | _,_=>none
   | .none | .al=>none
  else none
def Pt (s:ASt) (es:Nat) (l:List AV) (t:Tl) (xs:List AV):Option (AV × ASt):=
 match t with
 | .tls _ _ _=>none
 | t=>tr s es none l t xs
def x7:AV->AV->Option Bool
 | .v (.string a),.v (.string b)=>some (a==b)
 | .v (.int k a),.v (.int k' b)=>if k=k' then some (a==b)else none
 | _,_=>none
def Ga:Bool->AV->Bool
 | true,.v (.string _)=>true
 | false,.v (.int _ _)=>true
 | _,_=>false
def Le:AV->AV->Option Bool
 | .ptr _ _,.v (.pointer none)=>some false
 | .ip _ _,.v (.pointer none)=>some false
 | .v (.pointer none),.v (.pointer none)=>some true
 | _,_=>none
def tk:KK->AV->Bool
 | .sc st,k=>Ga st k
 | .pt,.ptr _ _=>true
 | _,_=>false
def qj (H:List fq):AV->Bool
 | .ptr i _=>match H[i]? with
  | some (.cells _ _)=>true
  | _=>false
 | _=>false
def ri (H:List fq):KK->AV->List (AV × AV)->Bool
 | .pt,k,es=>qj H k&&es.all λe=>qj H e.1
 | _,_,_=>true
def n7:KK->AV->AV->Option Bool
 | .sc _,a,b=>x7 a b
 | .pt,.ptr i o,.ptr j p=>some (i==j&&o==p)
 | _,_,_=>none
def n9 (kk:KK) (k:AV):List (AV × AV)->Option (Option AV)
 | []=>some none
 | (k',x)::es=>
  match n7 kk k k' with
  | some true=>some (some x)
  | some false=>n9 kk k es
  | none=>none
def upA (kk:KK) (k x:AV):List (AV × AV)->Option (List (AV × AV))
 | []=>some [(k,x)]
 | (k',x')::es=>
  match n7 kk k k' with
  | some true=>some ((k,x)::es)
  | some false=>(upA kk k x es).map ((k',x') :: ·)
  | none=>none
def ui (tm:List AV) (cells:List AV):List (Nat × Nat × X)->Option (List AV)
 | []=>some cells
 | (off,n,x)::ps=>
  match evX tm x with
  | some v=>if v.cells.length=n/\off+n<=cells.length/\v.known=true then ui tm (setAt cells off v.cells) ps else none
  | none=>none
def wz (tm:List AV) (n:Nat) (es:List AV):List (Nat × Nat × X)->Option (List AV)
 | []=>some es
 | (off,m,x)::ps=>
  match evX tm x with
  | some v=>if v.cells.length=n/\m=n/\off / n*n=off/\off / n<es.length/\v.known=true then wz tm n (es.set (off / n) v) ps else none
  | none=>none
def sj:AV->Tl
 | .sl [] .nil=>.nil
 | _=>.none
def xd (i off len es es':Nat) (ag:Bool) (a b:Nat) (hs:Bool) (mx:Option (Option AV)):Option AV:=
 if a<=b/\b<=len/\es=es' then
  match mx with
  | none=>if a<len\/a=0 then some (.bs i (off+a*es) (b-a) es ag)else some (.sl [] .none)
  | some (some (.cp j o e))=>if hs=true/\j=i/\o=off/\e=es/\a=0 then some (.bs i off b es ag)else none
  | _=>none
 else none
def Ps (s:ASt) (es i off len es':Nat) (ag:Bool) (xs:List AV):Option (AV × ASt):=
 match s.H[i]? with
 | some (.cells false c)=>
  if off=0/\es=es'/\len*es<=c.length/\xs ≠ []/\len+xs.length<=1073741824/\(xs.all λx=>x.cells.length==es&&x.cells.all ic)then
   some (.bs s.H.length 0 (len+xs.length) es ag,{s with H:=s.H.set i .dead++[.cells false (c.take (len*es)++flat xs)]})
  else none
 | _=>none
def opA (tm:List AV) (s:ASt):PO->Option OpR
 | .mov x=>(evX tm x).map (.val · s)
 | .pick c a b=>
  match evX tm c,evX tm a,evX tm b with
  | some (.v (.bool c)),some a,some b=>some (.val (if c then a else b) s)
  | _,_,_=>none
 | .alloc l=>some (.val (.ptr s.H.length 0) {s with H:=s.H++[.cells false l]})
 | .box x=>(evX tm x).bind λa=>if a.known then some (.val (.ptr s.H.length 0) {s with H:=s.H++[.cells false a.cells]})else none
 | .build z ps=>(ui tm z ps).map λl=>.val (.agg l) s
 | .bsl z n ps=>(wz tm z.cells.length (List.replicate n z) ps).map λl=>.val (.sl l (.cap n)) s
 | .load ag n a=>((evX tm a).bind (sf s ag n)).map (.val · s)
 | .store n a x=>
  match evX tm a,evX tm x with
  | some a,some x=>(uo s n x a).map (.val .undef ·)
  | _,_=>none
 | .gy x=>
  match evX tm x with
  | some (.ptr i o)=>some (.val (.ptr i o) s)
  | some (.ip l o)=>some (.val (.ip l o) s)
  | some (.fn f l)=>some (.val (.fn f l) s)
  | some (.bm f l)=>some (.val (.bm f l) s)
  | _=>none
 | .bin op x y=>
  match evX tm x,evX tm y with
  | some a,some b=>(Fc op a b).map (.val · s)
  | _,_=>none
 | .eqb neg x y=>
  match evX tm x,evX tm y with
  | some (.v (.bool a)),some (.v (.bool b))=>some (.val (.bool (neg ^^ (a==b))) s)
  | _,_=>none
 | .eqi neg x y=>
  match evX tm x,evX tm y with
  | some a,some b=>(Km y.isC a b).map λr=>.val (.bool (neg ^^ r)) s
  | _,_=>none
 | .eqs neg x y=>
  match evX tm x,evX tm y with
  | some a,some b=>(Kq a b).map λr=>.val (.bool (neg ^^ r)) s
  | _,_=>none
 | .eqp neg x y=>
  match evX tm x,evX tm y with
  | some a,some b=>(Le a b).map λr=>.val (.bool (neg ^^ r)) s
  | _,_=>none
 | .un op x=>((evX tm x).bind (unA op)).map (.val · s)
 | .conv k x=>
  match evX tm x with
  | some (.v (.int _ n))=>some (.val (.v (.int k (k.wrap n))) s)
  | _=>none
 | .L9 t x=>(evX tm x).map λa=>.val (.iface t a) s
 | .Hv f caps=>(il (evX tm) caps).map λl=>.val (.fn f l) s
 | .tn f fs=>(il (evX tm) fs).map λl=>.val (.bm f l) s
 | .sm=>some (.val (.mp s.H.length) {s with H:=s.H++[.map []]})
 | .slice es x lo hi mx=>
  match evX tm x with
  | some (.sl l t)=>
   if l.all λx=>x.cells.length==es then
   match jd l.length 0 lo tm,jd l.length l.length hi tm with
   | some a,some b=>
    match mx with
    | none=>(nh es l t a b none).map (.val · s)
    | some m=>if hi.isSome then(jd l.length 0 (some m) tm).bind λm=>(nh es l t a b (some m)).map (.val · s)else none
   | _,_=>none
   else none
  | some (.bs i off len es' ag)=>
   match jd len 0 lo tm,jd len len hi tm with
   | some a,some b=>(xd i off len es es' ag a b hi.isSome (mx.map (evX tm))).map (.val · s)
   | _,_=>none
  | _=>none
 | .fy d x=>
  match evX tm x with
  | some (.ptr i o)=>some (.val (.ptr i (o+d)) s)
  | some (.ip l o)=>if o+d<=l.length then some (.val (.ip l (o+d)) s)else none
  | _=>none
 | .j6 es x ix=>
  match evX tm x,evX tm ix with
  | some (.sl l _),some (.v (.int _ n))=>
   if 0<=n/\(l.all λx=>x.cells.length==es)then(l[n.toNat]?).map λe=>.val (.ip e.cells 0) s else none
  | some (.bs i off len es' _),some (.v (.int _ n))=>
   if 0<=n/\n<len/\es=es' then some (.val (.ptr i (off+n.toNat*es)) s)else none
  | _,_=>none
 | .y9 len es x ix=>
  match evX tm x,evX tm ix with
  | some (.ptr i o),some (.v (.int _ n))=>if 0<=n/\n<len then some (.val (.ptr i (o+n.toNat*es)) s)else none
  | some (.ip l o),some (.v (.int _ n))=>if 0<=n/\n<len/\o+n.toNat*es<=l.length then some (.val (.ip l (o+n.toNat*es)) s)else none
  | _,_=>none
 | .Mb len es ag x ix=>
  match evX tm x,evX tm ix with
  | some (.agg l),some (.v (.int _ n))=>if 0<=n/\n<len then(x8 ag es (l.drop (n.toNat*es))).map (.val · s)else none
  | _,_=>none
 | .Ho x ix=>
  match evX tm x,evX tm ix with
  | some (.v (.string b)),some (.v (.int _ n))=>if 0<=n then(b.toList[n.toNat]?).map λc=>.val (.v (.int .u8 c.toNat)) s else none
  | _,_=>none
 | .look z ok st m k=>
  match evX tm m,evX tm k with
  | some (.mp i),some k=>
   if tk st k then
   match s.H[i]? with
   | some (.map es)=>
    if ri s.H st k es then
    match n9 st k es with
    | some (some x)=>some (.val (if ok then .tup [x,.bool true]else x) s)
    | some none=>some (.val (if ok then .tup [z,.bool false]else z) s)
    | none=>none
    else none
   | _=>none
   else none
  | _,_=>none
 | .sk st m k x=>
  match evX tm m,evX tm k,evX tm x with
  | some (.mp i),some k,some x=>
   if tk st k then
   match s.H[i]? with
   | some (.map es)=>if ri s.H st k es then(upA st k x es).map λes=>.val .undef {s with H:=s.H.set i (.map es)} else none
   | _=>none
   else none
  | _,_,_=>none
 | .ext x i=>
  match evX tm x with
  | some (.tup l)=>(l[i]?).map (.val · s)
  | _=>none
 | .Ym t ok z x=>
  match evX tm x with
  | some (.iface u a)=>
   if u=t then some (.val (if ok then .tup [a,.bool true]else a) s)
   else if ok then some (.val (.tup [z,.bool false]) s)else none
  | some (.v .nilIface)=>if ok then some (.val (.tup [z,.bool false]) s)else none
  | _=>none
 | .call f args=>
  match evX tm f,il (evX tm) args with
  | some (.fn g caps),some l=>some (.call g (l++caps))
  | some (.bm g fs),some l=>some (.call g (fs++l))
  | _,_=>none
 | .app es bs x y=>
  match evX tm x,(evX tm y).bind (zk s)with
  | some (.sl l t),some xs=>(tr s es bs l t xs).map λ(a,s)=>.val a s
  | some (.bs i off len es' ag),some xs=>if bs.isSome then(Ps s es i off len es' ag xs).map λ(a,s)=>.val a s else none
  | _,_=>none
 | .Po es x y n v d=>
  match evX tm x,(evX tm y).bind (zk s),evX tm n,evX tm v,evX tm d with
  | some (.sl l t),some [z],some (.v (.int _ k)),some q,some _=>
   if k=l.length/\z.cells.length=es/\z.cells.all ic=true then(Pt s es l t [q]).map λ(a,s)=>.val a s else none
  | _,_,_,_,_=>none
 | .clone es ag tl x=>
  match (evX tm x).bind (ku s)with
  | some []=>some (.val (.sl [] (sj ((evX tm x).getD .unk))) s)
  | some l=>
   if l.length<=1073741824/\(l.all λx=>x.cells.length==es&&x.cells.all ic)then(match tl with
    | true=>some (.val (.sl l (.tl s.T.length 0)) {s with T:=s.T++[0]})
    | false=>some (.val (.bs s.H.length 0 l.length es ag) {s with H:=s.H++[.cells false (flat l)]}))else none
  | none=>none
 | .m5 x=>
  match evX tm x with
  | some (.sl l _)=>some (.val (.int l.length) s)
  | some (.bs _ _ n _ _)=>some (.val (.int n) s)
  | _=>none
 | .Dk x=>
  match evX tm x with
  | some (.v (.string b))=>some (.val (.int b.size) s)
  | _=>none
 | .Jb x=>
  match evX tm x with
  | some (.bs i off _ es _)=>if 0<es then some (.val (.cp i off es) s)else none
  | _=>none
 | .max x y=>
  match evX tm x,evX tm y with
  | some (.v (.int k a)),some (.v (.int _ b))=>some (.val (.v (.int k (if b>a then b else a))) s)
  | _,_=>none
 | .min x y=>
  match evX tm x,evX tm y with
  | some (.v (.int k a)),some (.v (.int _ b))=>some (.val (.v (.int k (if b<a then b else a))) s)
  | _,_=>none
 | .ug=>some .ug
 | .dfr f args=>
  match evX tm f,il (evX tm) args with
  | some (.fn g caps),some l=>some (.dfr g (l++caps))
  | _,_=>none
 | .panic x=>
  match evX tm x with
  | some (.iface t a)=>some (.panic (.iface t a))
  | _=>none
inductive jx where
 | ret (v:AV)
 | pan (v:AV)
 deriving Inhabited
inductive gg where
 | normal
 | exit (id:Nat)
 | ret
 | pan (v:AV)
 deriving Inhabited
structure St where
 tm:List AV
 df:List (FuncId × List AV)
 s:ASt
 deriving Inhabited
abbrev ia:=FuncId->List AV->ASt->Option (jx × ASt)
def put (tm:List AV):Option Nat->AV->List AV
 | some d,v=>tm.set d v
 | none,_=>tm
def jx.gr (n:Nat) (s:ASt):jx->Option jx
 | .ret v=>(Go.Proofs.Eng.gr n s v).map .ret
 | .pan v=>(Go.Proofs.Eng.gr n s v).map .pan
def jx.frz (n:Nat) (s:ASt):jx->ASt
 | .ret v=>Go.Proofs.Eng.frz n s v
 | .pan v=>Go.Proofs.Eng.frz n s v
def zd:AV->AV
 | .sl l t=>.sl l (if t.pure then t else .none)
 | x=>x
def zg (pm:Bool) (args:List AV):List AV:=if pm && !gi args then args.map zd else args
def my (call:ia) (md:FuncId->Md) (pm:Bool) (s:ASt) (f:FuncId) (args:List AV):Option (jx × ASt):=
 match md f with
 | .pure=>
  if pm && !gi args then none else
  match il (gr 20 s) args with
  | some args'=>
   match call f args' ⟨[],[]⟩with
   | some (out,s')=>(out.gr 1020 s').map λo=>(o,args.foldl (frz 20) s)
   | none=>none
  | none=>none
 | .shared=>if pm then none else
  match call f args s with
  | some (out,s')=>(out.gr 20 s').map λo=>(o,out.frz 20 s')
  | none=>none
 | .raw=>if pm then none else call f args s
def me (call:ia) (md:FuncId->Md) (pm:Bool) (s:ASt) (f:FuncId) (args:List AV):Option (jx × ASt):=my call md pm s f (zg pm args)
def iu (tm:List AV):Option (Nat × Bool)->Option Bool
 | none=>some true
 | some (t,want)=>
  match tm[t]? with
  | some (.v (.bool b))=>some (b==want)
  | some (.tup [])=>some false
  | _=>none
def iw (call:ia) (md:FuncId->Md) (pm:Bool) (i:PI) (st:St):Option (gg × St):=
 match iu st.tm i.g with
 | some false=>some (.normal,{st with tm:=put st.tm i.dst .undef})
 | some true=>
  match opA st.tm st.s i.op with
  | some (.val v s)=>some (.normal,{st with tm:=put st.tm i.dst v,s})
  | some (.call f args)=>
   match me call md pm st.s f args with
   | some (.ret v,s)=>some (.normal,{st with tm:=put st.tm i.dst v,s})
   | some (.pan v,s)=>some (.pan v,{st with s})
   | none=>none
  | some (.panic v)=>some (.pan v,st)
  | some (.dfr f args)=>some (.normal,{st with tm:=put st.tm i.dst .undef,df:=(f,args)::st.df})
  | some .ug=>none
  | none=>none
 | none=>none
def kg (call:ia) (md:FuncId->Md):List PI->St->Option (gg × St)
 | [],st=>some (.normal,st)
 | i::l,st=>
  match iw call md false i st with
  | some (.normal,st)=>kg call md l st
  | r=>r
def PO.xs:PO->List X
 | .mov x | .box x | .load _ _ x | .gy x | .un _ x | .conv _ x | .L9 _ x | .fy _ x | .ext x _ | .Ym _ _ _ x | .clone _ _ _ x | .m5 x | .Dk x | .Jb x | .panic x=>[x]
 | .pick c a b=>[c,a,b]
 | .alloc _ | .sm | .ug=>[]
 | .build _ ps=>ps.map (·.2.2)
 | .bsl _ _ ps=>ps.map (·.2.2)
 | .store _ x y | .bin _ x y | .eqb _ x y | .eqi _ x y | .eqs _ x y | .eqp _ x y | .j6 _ x y | .y9 _ _ x y | .Mb _ _ _ x y | .Ho x y | .look _ _ _ x y | .app _ _ x y | .max x y | .min x y=>[x,y]
 | .Hv _ l=>l
 | .tn _ l=>l
 | .slice _ x lo hi mx=>x::(lo.toList++hi.toList++mx.toList)
 | .sk _ m k x=>[m,k,x]
 | .Po _ x y n v d=>[x,y,n,v,d]
 | .call f l | .dfr f l=>f::l
def PI.looks (i:PI) (d:Nat):Bool:=i.op.xs.any (λx=>match x with | .t n=>n==d | .c _=>false)||(match i.g with|some (t,_)=>t==d|none=>false)
def Cj (hd:List PI) (i:PI):Bool:=hd.all λt => !t.op.kd.eff||(if t.ix<i.ix then i.pre.contains t.ix else t.ix==i.ix||t.pre.contains i.ix)
def js (call:ia) (md:FuncId->Md) (hd:List PI):List PI->St->Option (Nat × AV × ASt)->Option (St × Option (AV × ASt))
 | [],st,p=>some (st,p.map (·.2))
 | i::l,st,none=>
  match iw call md true i st with
  | some (.normal,st)=>js call md hd l st none
  | some (.pan v,_)=>if Cj hd i then js call md hd l st (some (i.ix,v,st.s))else none
  | _=>none
 | i::l,st,some (k,v,s)=>
  if i.pre.contains k then js call md hd l st (some (k,v,s))
  else match iw call md true i st with
   | some (.normal,st)=>js call md hd l st (some (k,v,s))
   | _=>none
def kq (l:List PI) (tm:List AV):List AV:=l.foldl (λtm i=>put tm i.dst .unk) tm
def qg (call:ia) (md:FuncId->Md):List PI->St->Option St
 | [],st=>some st
 | i::l,st=>
  match iw call md true i st with
  | some (.normal,st)=>qg call md l st
  | _=>none
def m8 (tm:List AV) (s s':ASt) (o:PO):Bool:=
 match opA tm s o,opA tm s' o with
 | some (.val v _),some (.val v' _)=>ml v v'
 | _,_=>false
def zm (call:ia) (md:FuncId->Md) (c:Nat) (l:List PI) (st:St):Option (St × Option (AV × ASt)):=
 match qg call md (l.take c) st with
 | some st1=>
  match l.drop c with
  | i::l'=>
   match iw call md false i st1 with
   | some (.normal,st2)=>
    if ((l.take c).all λj=>i.pre.contains j.ix||j.op.kd == .S||m8 st1.tm st1.s st2.s j.op)=true then(qg call md l' st2).map λst3=>(st3,none)else none
   | some (.pan v,st2)=>some (st2,some (v,st2.s))
   | _=>none
  | []=>none
 | none=>none
def om (tm:List AV) (idx:Nat):PO->Option (AV × fq)
 | .alloc l=>some (.ptr idx 0,.cells false l)
 | .sm=>some (.mp idx,.map [])
 | .box x=>
  match evX tm x with
  | some a=>if a.known=true then some (.ptr idx 0,.cells false a.cells)else none
  | none=>none
 | _=>none
def PO.iv (o:PO):Bool:=
 match o.kd with
 | .S | .R | .T | .C=>true
 | _=>false
def vu (call:ia) (md:FuncId->Md):List PI->List AV->ASt->List fq->Option (List AV × ASt × List fq)
 | [],tm,s,Z=>some (tm,s,Z)
 | i::l,tm,s,Z=>
  if i.op.iv=true then
   match iw call md true i ⟨tm,[],s⟩with
   | some (.normal,st)=>vu call md l st.tm st.s Z
   | _=>none
  else match om tm (s.H.length+Z.length) i.op with
   | some (v,ob)=>vu call md l (put tm i.dst v) s (Z++[ob])
   | none=>none
def Fb (call:ia) (md:FuncId->Md) (l:List PI) (st:St):Option St:=
 match l.getLast? with
 | some p=>
  if p.op.kd == .W then
   match vu call md l.dropLast st.tm st.s []with
   | some (tm,s,Z)=>
    match iw call md true p ⟨tm,st.df,{s with H:=s.H++Z}⟩with
    | some (.normal,st2)=>if (l.dropLast.all λj=>p.pre.contains j.ix||j.op.kd == .S||m8 tm {s with H:=s.H++Z} st2.s j.op)=true then some st2 else none
    | _=>none
   | none=>none
  else match vu call md l st.tm st.s []with
   | some (tm,s,Z)=>some ⟨tm,st.df,{s with H:=s.H++Z}⟩
   | none=>none
 | none=>some st
def nv (call:ia) (md:FuncId->Md) (c:Nat) (l:List PI) (st:St):Option (St × Option (AV × ASt)):=
 if c<1000 then zm call md c l st
 else(Fb call md l st).map λst=>(st,none)
def m9 (call:ia) (md:FuncId->Md):List Nat->List PI->St->Option (gg × St)
 | [],l,st=>kg call md l st
 | n::ns,l,st=>
  if n=9000000 then(match l with
   | i::l'=>
    match iw call md false i st with
    | some (.normal,st1)=>
     match m9 call md ns l' st1 with
     | some (.normal,st2)=>some (.normal,st2)
     | _=>none
    | _=>none
   | []=>none)
  else match (if n<1000 then js call md (l.take (n % 1000)) (l.take (n % 1000)) st none else nv call md (n / 1000-1) (l.take (n % 1000)) st)with
  | some (st',none)=>
   match l.drop (n % 1000)with
   | []=>some (.normal,st')
   | b::l'=>
    match iw call md false b st' with
    | some (.normal,st2)=>m9 call md ns l' st2
    | r=>r
  | some (_,some (v,s))=>some (.pan v,{st with tm:=kq (l.take (n % 1000)) st.tm,s})
  | none=>none
def PC.qo:PC->Bool
 | .By .. => true
 | .seq a b=>a.qo||b.qo
 | .block _ b=>b.qo
 | _=>false
def Ey (tm:List AV):List Nat->List AV->List AV
 | p::ps,x::xs=>Ey (tm.set p x) ps xs
 | _,_=>tm
def Fe (it:ASt->Nat->Option (Option (List AV))) (rnd:List AV->ASt->Option (gg × St)):Nat->Nat->ASt->Option (gg × ASt)
 | 0,_,_=>none
 | k+1,i,s=>
  match it s i with
  | some none=>some (.normal,s)
  | some (some xs)=>
   match rnd xs s with
   | some (.normal,st)=>if st.df.isEmpty then Fe it rnd k (i+1) st.s else none
   | some (.exit id,st)=>if st.df.isEmpty then some (.exit id,st.s)else none
   | some (.ret,st)=>if st.df.isEmpty then some (.ret,st.s)else none
   | _=>none
  | none=>none
def iy (call:ia) (md:FuncId->Md) (lp:PC->St->Option (gg × St)):PC->St->Option (gg × St)
 | .skip,st=>some (.normal,st)
 | .reg l,st=>kg call md l st
 | .jk ns l,st=>m9 call md ns l st
 | .seq a b,st=>
  match iy call md lp a st with
  | some (.normal,st)=>iy call md lp b st
  | r=>r
 | .cond x a b,st=>
  match evX st.tm x with
  | some (.v (.bool true))=>iy call md lp a st
  | some (.v (.bool false))=>iy call md lp b st
  | _=>none
 | .block id b,st=>
  match iy call md lp b st with
  | some (.exit i,st)=>if i=id then some (.normal,st)else some (.exit i,st)
  | r=>r
 | .loop b,st=>lp b st
 | .exit id,st=>some (.exit id,st)
 | .ret,st=>some (.ret,st)
 | .ora _,_=>none
 | .By it x ps a b,st=>
  match evX st.tm x with
  | some (.fn gf caps)=>
   if st.df.isEmpty then
    (Fe (it gf caps) (λxs s=>
     if xs.length=ps.length then
      match iy call md lp a ⟨Ey st.tm ps xs,[],s⟩with
      | some (.normal,st1)=>if st1.df.isEmpty then iy call md lp b st1 else none
      | _=>none
     else none) 1000000 0 st.s).map λr=>(r.1,{st with s:=r.2})
   else none
  | _=>none
def ko (call:ia) (md:FuncId->Md):Nat->PC->St->Option (gg × St)
 | 0,_,_=>none
 | F+1,b,st=>
  match iy call md (ko call md F) b st with
  | some (.normal,st)=>ko call md F b st
  | r=>r
def exec (call:ia) (md:FuncId->Md) (F:Nat):PC->St->Option (gg × St):=iy call md (ko call md F)
def ma (tm:List AV) (s:ASt):List PR->Option (List AV)
 | []=>some []
 | .t n::rs=>
  match tm[n]?,ma tm s rs with
  | some a,some l=>some (a::l)
  | _,_=>none
 | .c n ag sz::rs=>
  match (tm[n]?).bind (sf s ag sz),ma tm s rs with
  | some a,some l=>some (a::l)
  | _,_=>none
def oq:List AV->AV
 | [a]=>a
 | l=>.tup l
inductive Rc where
 | no
 | can (v:AV)
 | did
 deriving Inhabited
def K6:Option AV->Rc
 | some v=>.can v
 | none=>.no
def B5:Rc->Option AV
 | .can v=>some v
 | _=>none
def oy (call:ia) (md:FuncId->Md):List PI->Rc->St->Option (gg × Rc × St)
 | [],rc,st=>some (.normal,rc,st)
 | i::l,rc,st=>
  match i.op,i.g with
  | .ug,none=>match rc with
   | .can v=>oy call md l .did {st with tm:=put st.tm i.dst v}
   | _=>oy call md l rc {st with tm:=put st.tm i.dst (.v .nilIface)}
  | _,_=>match iw call md false i st with
   | some (.normal,st)=>oy call md l rc st
   | some (r,st)=>some (r,rc,st)
   | none=>none
def nk (call:ia) (md:FuncId->Md):PC->Rc->St->Option (gg × Rc × St)
 | .skip,rc,st=>some (.normal,rc,st)
 | .reg l,rc,st=>oy call md l rc st
 | .seq a b,rc,st=>
  match nk call md a rc st with
  | some (.normal,rc,st)=>nk call md b rc st
  | r=>r
 | .cond x a b,rc,st=>
  match evX st.tm x with
  | some (.v (.bool true))=>nk call md a rc st
  | some (.v (.bool false))=>nk call md b rc st
  | _=>none
 | .ret,rc,st=>some (.ret,rc,st)
 | _,_,_=>none
def jy (call:ia) (md:FuncId->Md) (pfs:FuncId->Option PF):List (FuncId × List AV)->Option AV->ASt->Option (Option AV × ASt)
 | [],p,s=>some (p,s)
 | (f,args)::ds,p,s=>
  match pfs f with
  | some pf=>
   if pf.body.qo=true then none else
   match nk call md pf.body (K6 p) {tm:=args++List.replicate (pf.nt-args.length) .undef,df:=[],s} with
   | some (.ret,rc,st)=>if st.df.isEmpty&&(ma st.tm st.s pf.res).isSome then jy call md pfs ds (B5 rc) st.s else none
   | some (.normal,rc,st)=>if st.df.isEmpty&&(ma st.tm st.s pf.res).isSome then jy call md pfs ds (B5 rc) st.s else none
   | _=>none
  | none=>none
def jw (call:ia) (md:FuncId->Md) (pfs:FuncId->Option PF) (res:List PR) (st:St) (p:Option AV):Option (jx × ASt):=
 match st.df,p with
 | [],none=>(ma st.tm st.s res).map λl=>(.ret (oq l),st.s)
 | [],some v=>some (.pan v,st.s)
 | df,p=>
  match jy call md pfs df p st.s with
  | some (none,s)=>(ma st.tm s res).map λl=>(.ret (oq l),s)
  | some (some v,s)=>some (.pan v,s)
  | none=>none
def uz (call:ia) (md:FuncId->Md) (pfs:FuncId->Option PF) (F:Nat) (pf:PF) (args:List AV) (s:ASt):Option (jx × ASt):=
 match exec call md F pf.body {tm:=args++List.replicate (pf.nt-args.length) .undef,df:=[],s} with
 | some (.ret,st)=>if (pf.body.qo && !st.df.isEmpty)=true then none else jw call md pfs pf.res st none
 | some (.normal,st)=>if (pf.body.qo && !st.df.isEmpty)=true then none else jw call md pfs pf.res st none
 | some (.pan v,st)=>if (pf.body.qo && !st.df.isEmpty)=true then none else jw call md pfs pf.res st (some v)
 | _=>none
def oh (md:FuncId->Md) (pfs:FuncId->Option PF):Nat->ia
 | 0,_,_,_=>none
 | F+1,f,args,s=>
  match pfs f with
  | some pf=>match pf.body.J5 with
   | some o=>(o args s).map λr=>(.ret r.1,r.2)
   | none=>uz (oh md pfs F) md pfs F pf args s
  | none=>none
def scalar:Value->Bool
 | .bool _ | .int _ _ | .string _ | .pointer none | .map none | .nilFunc | .nilIface=>true
 | _=>false
def Bk:Value->Option AV
 | .slice none 0 0=>some (.sl [] .nil)
 | x=>if scalar x then some (.v x)else none
def ofConst:Value->Option AV
 | .agg cs=>(il Bk cs.toList).map .agg
 | x=>Bk x
def gh:Operand->Option X
 | .tmp t=>some (.t t)
 | .const v=>(ofConst v).map .c
 | .func f=>some (.c (.fn f []))
 | .global _=>none
def m4:Option Operand->Option (Option X)
 | none=>some none
 | some x=>(gh x).map some
def ru (P:Program) (t:TypeId):Option (Bool × Nat):=
 match P.underlying t,P.info? t with
 | some (.struct _),some i=>if i.size=0 then none else some (true,i.size)
 | some (.array _ _),some i=>if i.size=0 then none else some (true,i.size)
 | some _,some i=>if i.size=1 then some (false,1)else none
 | _,_=>none
def Ig (P:Program) (t:TypeId):Option Nat:=(P.info? t).map (·.size)
def uh (P:Program) (t:TypeId):Option AV:=(P.info? t).bind λi=>i.zero.bind ofConst
def tj (P:Program) (e:TypeId):Option (Bool × Nat × AV):=
 match ru P e,P.info? e,uh P e with
 | some (ag,n),some i,some z=>if (i.bytes<=65536/\(n=1->i.bytes<=24))/\z.cells.length=n then some (ag,n,z)else none
 | _,_,_=>none
def sn (P:Program) (f:FuncId):Option (Bool × Nat × TypeId):=
  match P.funcs[f]? with
  | some fn=>
    match fn.params.size,fn.ntmps,fn.results.toList,fn.body with
    | 1,8,[.tmp 2],some (.seq (.region _ r0 false) (.seq (.seq (.region _ r1 false) (.cond (.tmp 4) (.seq (.region _ r2 false) .ret) .skip)) (.seq (.region _ r3 false) .ret)))=>
      match r0.toList,r1.toList,r2.toList,r3.toList with
      | [⟨some 2,.assign (.const (.slice none 0 0)),_,_,_,none⟩],
        [⟨some 3,.move (.tmp 0),_,_,_,none⟩,⟨some 4,.binOp .eql t1 (.tmp 3) (.const (.slice none 0 0)) _,_,_,_,none⟩],
        [⟨some 2,.assign (.const (.slice none 0 0)),_,_,_,none⟩],
        [⟨some 5,.buildSlice t2 0 ps,_,_,_,none⟩,⟨some 6,.move (.tmp 0),_,_,_,none⟩,
         ⟨some 7,.call {callee:=.builtin .append,args,argTypes},_,_,_,none⟩,⟨some 2,.assign (.tmp 7),_,_,_,none⟩]=>
        match ps.toList,args.toList,argTypes.toList with
        | [],[.tmp 5,.tmp 6],[t3,t4]=>
          if t1=t2/\t1=t3/\t1=t4/\(fn.name == "runtime.NumGoroutine")=false then
            match P.underlying t1 with
            | some (.slice e)=>(tj P e).map λ(ag,n,_)=>(ag,n,t1)
            | _=>none
          else none
        | _,_,_=>none
      | _,_,_,_=>none
    | _,_,_,_=>none
  | none=>none
def th (place:Nat->Option (Nat × Nat)) (p:Nat × Operand):Option (Nat × Nat × X):=
 match place p.1,gh p.2 with
 | some (o,n),some x=>some (o,n,x)
 | _,_=>none
def a4a (bsf:Bf):X->Bool
 | .t k=>bsf.sh (1000000+k)
 | _=>false
def gv (P:Program) (bsf:Bf):Op->Option PO
 | .move x | .assign x=>(gh x).map .mov
 | .pick c a b=>match gh c,gh a,gh b with
  | some c,some a,some b=>some (.pick c a b)
  | _,_,_=>none
 | .alloc t=>(uh P t).map λz=>.alloc z.cells
 | .box _ x=>(gh x).map .box
 | .build t parts=>
  match uh P t,P.underlying t with
  | some (.agg z),some (.struct fs)=>match fs.toList.mapM (λf=>(P.info? f.type).map λi=>(f.offset,i.size))with
   | some places=>(il (th λi=>places[i]?) parts.toList).map (.build z)
   | none=>none
  | some (.agg z),some (.array _ e)=>match P.info? e with
   | some i=>(il (th λk=>some (k*i.size,i.size)) parts.toList).map (.build z)
   | none=>none
  | _,_=>none
 | .buildSlice t len parts=>
  match P.underlying t with
  | some (.slice e)=>match tj P e with
   | some (_,n,z)=>if len*n<=16777216 then(il (th λk=>some (k*n,n)) parts.toList).map (.bsl z len)else none
   | _=>none
  | _=>none
 | .load t a=>match ru P t,gh a with
  | some (ag,n),some a=>some (.load ag n a)
  | _,_=>none
 | .store t a x=>match Ig P t,gh a,gh x with
  | some n,some a,some x=>some (.store n a x)
  | _,_,_=>none
 | .nilCheck x=>(gh x).map .gy
 | .binOp op t x y _=>match gh x,gh y with
  | some a,some b=>match op,P.underlying t with
   | .eql,some .bool=>some (.eqb false a b)
   | .neq,some .bool=>some (.eqb true a b)
   | .eql,some (.interface _)=>some (.eqi false a b)
   | .neq,some (.interface _)=>some (.eqi true a b)
   | .eql,some (.slice _)=>some (.eqs false a b)
   | .neq,some (.slice _)=>some (.eqs true a b)
   | .eql,some (.pointer _)=>some (.eqp false a b)
   | .neq,some (.pointer _)=>some (.eqp true a b)
   | _,some (.int _)|_,some .string=>some (.bin op a b)
   | _,_=>none
  | _,_=>none
 | .unOp op _ x=>(gh x).map (.un op)
 | .convert src dst x=>match P.underlying src,P.underlying dst with
  | some (.int _),some (.int k)=>(gh x).map (.conv k)
  | _,_=>none
 | .makeInterface t x=>match P.underlying t with
  | some (.interface _)|none=>none
  | _=>(gh x).map (.L9 t)
 | .makeFunc (.func f) first caps=>if first.size=0 then(il gh caps.toList).map (.Hv f)else if caps.size=0 then(il gh first.toList).map (.tn f)else none
 | .makeMap _ none=>some .sm
 | .slice t x lo hi mx=>match P.underlying t,gh x,m4 lo,m4 hi,m4 mx with
  | some (.slice e),some x,some lo,some hi,some mx=>(ru P e).map λ(_,n)=>.slice n x lo hi mx
  | _,_,_,_,_=>none
 | .fieldAddr t x f=>match P.underlying t,gh x with
  | some (.struct fs),some x=>match fs[f]? with
   | some fd=>(ru P fd.type).map λ_=>.fy fd.offset x
   | none=>none
  | _,_=>none
 | .indexAddr t x i=>match P.underlying t,gh x,gh i with
  | some (.slice e),some x,some i=>(ru P e).map λ(_,n)=>.j6 n x i
  | some (.array n e),some x,some i=>(ru P e).map λ(_,s)=>.y9 n s x i
  | _,_,_=>none
 | .index t x i=>match P.underlying t,gh x,gh i with
  | some (.array n e),some x,some i=>(ru P e).map λ(ag,s)=>.Mb n s ag x i
  | some .string,some x,some i=>some (.Ho x i)
  | _,_,_=>none
 | .lookup t m k ok=>match P.underlying t,gh m,gh k with
  | some (.map kt e),some m,some k=>match P.underlying kt,uh P e with
   | some .string,some z=>some (.look z ok (.sc true) m k)
   | some (.int _),some z=>some (.look z ok (.sc false) m k)
   | some (.pointer te),some z=>match P.info? te with
    | some j=>if j.size=0 then none else some (.look z ok .pt m k)
    | none=>none
   | _,_=>none
  | _,_,_=>none
 | .mapUpdate t m k x=>match P.underlying t,gh m,gh k,gh x with
  | some (.map kt _),some m,some k,some x=>match P.underlying kt with
   | some .string=>some (.sk (.sc true) m k x)
   | some (.int _)=>some (.sk (.sc false) m k x)
   | some (.pointer te)=>match P.info? te with
    | some j=>if j.size=0 then none else some (.sk .pt m k x)
    | none=>none
   | _=>none
  | _,_,_,_=>none
 | .typeAssert x _ t ok=>match P.underlying t,gh x,uh P t with
  | some (.interface _),_,_|none,_,_=>none
  | _,some x,some z=>some (.Ym t ok z x)
  | _,_,_=>none
 | .extract x i=>(gh x).map (.ext · i)
 | .call {callee:=.value f,args,.. }=>
  match f,args.toList with
  | .func g,[a]=>match sn P g with
   | some (ag,n,_)=>if bsf.sh (3000000+g)then(gh a).map λx=>.call (.c (.fn g [])) [x]else(gh a).map λx=>.clone n ag (a4a bsf x) x
   | none=>(gh a).map λx=>.call (.c (.fn g [])) [x]
  | f,l=>match gh f,il gh l with
   | some f,some l=>some (.call f l)
   | _,_=>none
 | .call {callee:=.builtin b,args,argTypes}=>
  match b,args.toList,argTypes.toList with
  | .append,[x,y],[t,u]=>match P.underlying t,P.underlying u,gh x,gh y with
   | some (.slice e),some (.slice _),some x,some y=>match tj P e with
    | some (ag,n,_)=>some (.app n (if bsf.b then some ag else none) x y)
    | _=>none
   | some (.slice e),some .string,some x,some y=>match tj P e with
    | some (ag,n,_)=>some (.app n (if bsf.b then some ag else none) x y)
    | _=>none
   | _,_,_,_=>none
  | .len,[x],[t]=>match P.underlying t,gh x with
   | some (.slice _),some x=>some (.m5 x)
   | some .string,some x=>some (.Dk x)
   | _,_=>none
  | .cap,[x],[t]=>match P.underlying t,gh x with
   | some (.slice _),some x=>some (.Jb x)
   | _,_=>none
  | .max,[x,y],_=>match gh x,gh y with
   | some x,some y=>some (.max x y)
   | _,_=>none
  | .min,[x,y],_=>match gh x,gh y with
   | some x,some y=>some (.min x y)
   | _,_=>none
  | .recover,[],_=>some .ug
  | .panic,[x],_=>(gh x).map .panic
  | _,_,_=>none
 | .defer {callee:=.value f,args,.. }=>match gh f,il gh args.toList with
  | some f,some l=>some (.dfr f l)
  | _,_=>none
 | .panic x=>(gh x).map .panic
 | _=>none
def Gv (ops:Array Oper):Option (Nat × Bool)->Option (Option (Nat × Bool))
 | none=>some none
 | some (j,b)=>((ops[j]?).bind (·.dst)).map λd=>some (d,b)
def Dm (P:Program) (bsf:Bf) (ops:Array Oper) (o:Oper):Option PI:=
 match Gv ops o.guard,gv P bsf o.op with
 | some g,some op=>some ⟨o.dst,g,op,0,[]⟩
 | _,_=>none
def closure:List Oper->List (List Nat)->List (List Nat)
 | [],acc=>acc
 | o::ops,acc=>
  closure ops (acc++[o.after.toList.foldl (λl e=>if Region.binds .any e && !l.contains e.on then e.on::((acc.getD e.on []).filter λk => !l.contains k&&k != e.on)++l else l) []])
def number (cl:List (List Nat)):List PI->Nat->List PI
 | [],_=>[]
 | i::l,k=>{i with ix:=k,pre:=cl.getD k []}::number cl l (k+1)
def waits (ops:Array Oper) (j i:Nat):Bool:=
 match ops[j]? with
 | none=>false
 | some o=>o.after.any λe=>e.on==i&&Region.binds .any e
def a15 (ops:Array Oper) (ps:List PI):Bool:=
 (List.range ops.size).all λi=>match ops[i]?,ps[i]? with
  | some o,some p=>(o.after.all λe => !Region.binds .any e||decide (e.on<i))&&p.pre.all λj=>o.after.any λe=>Region.binds .any e&&(e.on==j||(match ps[e.on]? with|some q=>q.pre.contains j|none=>false))
  | _,_=>false
def H8 (ps:List PI) (m n:Nat):Bool:=
 (List.range' m (n-m)).all λi=>match ps[i]? with
  | some p=>
   p.op.kd != .X&&(p.op.kd != .A||p.g.isNone) &&
   (List.range' m (n-m)).all λj=>match ps[j]? with
    | some p'=>
     (i<=j || !p.op.kd.At p'.op.kd||p.pre.contains j) &&
     (match p'.dst with
     | none=>true
     | some d=>(i==j||p.dst != some d)&&(!p.looks d||p.pre.contains j||(decide (i<j)&&p.op.kd != .A&&p'.op.kd != .A&&p'.pre.contains i)))
    | none=>false
  | none=>false
def Gb (ps:List PI) (m n:Nat):Bool:=
 (List.range' m (n-m)).all λi=>match ps[i]? with
  | some p=>
   (List.range' m (n-m)).all λj=>match ps[j]? with
    | some p'=>
     (match p'.dst with
     | none=>true
     | some d => !p.looks d||p.pre.contains j)
    | none=>false
  | none=>false
def Hs (ops:Array Oper) (m k:Nat):Bool:=
 ((List.range ops.size).all λj=>decide (j<=k)||(match ops[j]? with|some o=>o.after.any λe=>Region.binds .any e&&decide (k<=e.on)|none=>false)) &&
 ((List.range' m (k-m)).all λi=>(List.range (k+1)).any λj=>decide (i<j)&&waits ops j i)
def hoist (l:List PI):List PI:=l.filter (λi=>i.op.kd == .A&&i.g.isNone)++l.filter (λi => !(i.op.kd == .A&&i.g.isNone))
def Lu (P:Program) (o:Oper):Option (X × X × Nat × Nat):=
 match o.op,o.guard,o.dst with
 | .call {callee:=.builtin .append,args,argTypes},none,some r=>
  match args.toList,argTypes.toList with
  | [x,y],[t,u]=>
   match P.underlying t,P.underlying u,gh x,gh y with
   | some (.slice e),some (.slice _),some x,some y=>(tj P e).map λz=>(x,y,r,z.2.1)
   | _,_,_,_=>none
  | _,_=>none
 | _,_,_=>none
def Ld (P:Program) (r:Nat) (o:Oper):Option (X × Nat × Nat):=
 match o.op,o.guard,o.dst with
 | .indexAddr t (.tmp r') n,none,some d=>
  if r=r' then
   match P.underlying t,gh n with
   | some (.slice e),some n=>(ru P e).map λz=>(n,d,z.2)
   | _,_=>none
  else none
 | _,_,_=>none
def Kw (P:Program) (d:Nat) (o:Oper):Option (X × Nat):=
 match o.op,o.guard,o.dst with
 | .store t (.tmp d') v,none,none=>
  if d=d' then
   match Ig P t,gh v with
   | some es,some v=>some (v,es)
   | _,_=>none
  else none
 | _,_,_=>none
def Dh (P:Program) (r:Nat) (o:Oper):Option Nat:=
 match o.op,o.guard,o.dst with
 | .store t (.tmp p) (.tmp r'),none,none=>if r=r'/\Ig P t=some 1 then some p else none
 | _,_,_=>none
def Nf (P:Program) (o:Oper):Option (Nat × Nat × Nat):=
 match o.op,o.guard,o.dst with
 | .nilCheck (.tmp x),none,some d=>some (x,d,0)
 | .fieldAddr t (.tmp x) f,none,some d=>
  match P.underlying t with
  | some (.struct fs)=>match fs[f]? with
   | some fd=>(ru P fd.type).map λ_=>(x,d,fd.offset)
   | none=>none
  | _=>none
 | _,_,_=>none
def piQ (q:Nat × Nat × Nat):PI:=⟨some q.2.1,none,.fy q.2.2 (.t q.1),0,[]⟩
def okX (r d:Nat) (bd:List Nat):X->Bool
 | .c _=>true
 | .t m=>m != r&&m != d && !bd.contains m
def Uk (P:Program) (ops:Array Oper) (k:Nat):Option (PI × List PI):=
 match ops.toList.drop k with
 | o0::o1::o2::os=>
  match Lu P o0,os.getLast?,il (Nf P) os.dropLast with
  | some (x,y,r,es),some oL,some Qs=>
   match Ld P r o1,Dh P r oL with
   | some (n,d,es1),some p=>
    match Kw P d o2 with
    | some (v,es2)=>
     let bd:=Qs.map (·.2.1)
     if es=es1/\es=es2/\r ≠ d/\r ∉ bd/\d ∉ bd/\d ∉ p::Qs.map (·.1)/\r ∉ p::Qs.map (·.1)/\okX r d bd n=true/\okX r d bd v=true/\waits ops (k+2) (k+1)=true /\
       ((List.range Qs.length).all λj=>waits ops (k+3+j+1) (k+3+j))=true then
      some (⟨some r,none,.Po es x y n v (.t d),k,[]⟩,Qs.map piQ++[⟨none,none,.store 1 (.t p) (.t r),0,[]⟩,⟨some d,none,.mov (.c .unk),0,[]⟩])
     else none
    | none=>none
   | _,_=>none
  | _,_,_=>none
 | _=>none
def PO.a3n:PO->Bool
 | .call _ _=>true
 | .app _ (some _) _ _=>true
 | .clone .. => true
 | _=>false
def Hp (sh:FuncId->Bool) (l:List PI):Option Nat:=
 l.findIdx? λi=>match i.op with
  | .call (.c (.fn f [])) _=>sh f
  | .call (.t k) _=>sh (2000000+k)
  | .app _ (some _) _ _=>true
  | .clone .. => true
  | _=>false
def rz (l:List PI) (c:Nat):Bool:=
 (l.all λi=>i.g.isNone)&&((l.take c).all λi=>i.op.kd == .S||i.op.kd == .C||i.op.kd == .R) &&
 match l.drop c with
 | i::l'=>i.op.a3n&&(l'.all λj=>(j.op.kd == .S||j.op.kd == .R||j.op.kd == .T)&&j.pre.contains i.ix)&&((l'.drop (l'.findIdx (λj=>j.op.kd == .T)+1)).all λj=>j.op.kd == .S||j.op.kd == .R)
 | []=>false
def headD (ps:List PI) (m n:Nat):Bool:=
 (List.range' m (n-m)).all λi=>match ps[i]? with
  | some p=>(List.range' m (n-m)).all λj=>match ps[j]? with
   | some q=>i==j||(match q.dst with|none=>true|some d=>p.dst != some d)
   | none=>false
  | none=>false
def P3:PO->Bool
 | .alloc _ | .sm | .box _=>true
 | _=>false
def Nw (l:List PI):Bool:=
 (l.all λi=>i.g.isNone) &&
 match l.getLast? with
 | some p=>
  if p.op.kd == .W then
   p.dst.isNone&&(l.dropLast.all λi=>i.op.kd == .S||i.op.kd == .R||((i.op.kd == .T||i.op.kd == .C||P3 i.op)&&p.pre.contains i.ix))&&decide ((l.dropLast.countP λi=>i.op.kd == .T)<=1)
  else(l.all λi=>i.op.kd == .S||i.op.kd == .R||i.op.kd == .T||i.op.kd == .C||P3 i.op)&&decide ((l.countP λi=>i.op.kd == .T)<=1)
 | none=>false
def early (l:List PI) (c:Nat):List PI:=
 match l.drop c with
 | i::l'=>(l.take c++l'.filter (λj => !j.pre.contains i.ix))++i::l'.filter (λj=>j.pre.contains i.ix)
 | []=>l
def O2 (m:Nat):List PI->List Nat->Bool
 | [],_=>true
 | p::l,seen=>(p.pre.all λk=>decide (k<m)||seen.contains k)&&O2 m l (p.ix::seen)
def Lj (sh:FuncId->Bool) (m:Nat) (l:List PI):Option (Nat × List PI):=
 (Hp sh l).bind λc=>if rz l c then none else
  (Hp sh (early l c)).bind λc'=>if rz (early l c) c'&&O2 m (early l c) []then some (c',early l c)else none
def Fk (P:Program) (sh:FuncId->Bool) (ops:Array Oper) (ps:List PI):Nat->Nat->Option (List Nat × List PI)
 | 0,_=>none
 | f+1,m=>
  if ops.size<=m then some ([],[])else
  match (List.range' m (ops.size-m)).find? (Hs ops m)with
  | some k=>
   if H8 ps m k then
    match (Lj sh m ((ps.drop m).take (k-m))).bind λr=>if decide (k-m<1000)&&Gb ps m k then some r else none with
    | some (c,E)=>
     match ps[k]?,Fk P sh ops ps f (k+1)with
     | some b,some (ns,l)=>some ((k-m+1000*(c+1))::ns,E++b::l)
     | _,_=>none
    | none=>
    match (Hp sh ((ps.drop m).take (k-m))).bind λc=>if rz ((ps.drop m).take (k-m)) c&&decide (k-m<1000)&&Gb ps m k then some c else none with
    | some c=>
     match ps[k]?,Fk P sh ops ps f (k+1)with
     | some b,some (ns,l)=>some ((k-m+1000*(c+1))::ns,(ps.drop m).take (k-m)++b::l)
     | _,_=>none
    | none=>
    if 1000<=k-m then none else
    match Uk P ops k with
    | some (b,l)=>some ([k-m],hoist ((ps.drop m).take (k-m))++b::l)
    | none=>
    match ps[k]?,Fk P sh ops ps f (k+1)with
    | some b,some (ns,l)=>some ((k-m)::ns,hoist ((ps.drop m).take (k-m))++b::l)
    | _,_=>none
   else if Nw ((ps.drop m).take (k-m))&&decide (k-m<1000)&&Gb ps m k&&headD ps m k then
    match ps[k]?,Fk P sh ops ps f (k+1)with
    | some b,some (ns,l)=>some ((k-m+1000*1002)::ns,(ps.drop m).take (k-m)++b::l)
    | _,_=>none
   else match (Hp sh ((ps.drop m).take (k-m))).bind λc=>if rz ((ps.drop m).take (k-m)) c&&decide (k-m<1000)&&Gb ps m k&&headD ps m k then some c else none with
    | some c=>
     match ps[k]?,Fk P sh ops ps f (k+1)with
     | some b,some (ns,l)=>some ((k-m+1000*(c+1))::ns,(ps.drop m).take (k-m)++b::l)
     | _,_=>none
    | none=>none
  | none=>if H8 ps m ops.size&&decide (ops.size-m<1000)then some ([ops.size-m],hoist ((ps.drop m).take (ops.size-m)))else none
def pz (P:Program) (bsf:Bf) (ops:Array Oper):Option PC:=
 match il (Dm P bsf ops) ops.toList with
 | some l=>
  let ps:=number (closure ops.toList []) l 0
  if a15 ops ps then(Fk P bsf.sh ops ps (ops.size+1) 0).map λr=>.jk r.1 r.2 else none
 | none=>none
def A0 (d r:Tmp) (o:Oper):Bool:=(match o.op with
 | .move _ | .nilCheck _ | .load .. | .fieldAddr .. | .store .. | .buildSlice .. => true
 | .call c=>(match c.callee with
  | .value _=>true
  | _=>false)
 | _=>false)&&(o.op.operands.toList.all λx=>match x with
 | .tmp t=>t != d
 | _=>true)&&o.dst != some d&&o.dst != some r
def Hi (ops:Array Oper):Bool:=
 match ops[0]? with
 | some o=>
  match o.op,o.dst with
  | .move (.tmp r),some d=>d != r&&o.guard.isNone&&o.after.toList.isEmpty&&(List.range ops.size).all λi=>match ops[i]? with
   | some q=>q.guard.isNone&&(i==0||(q.after.toList.any λe=>e.on==0&&Region.binds .any e)||A0 d r q)&&(q.after.toList.all λe=>decide (e.on<ops.size))
   | none=>false
  | _,_=>false
 | none=>false
def Kj (o:Oper):Oper:={o with after:=(o.after.filter λe=>e.on != 0).map λe=>{e with on:=e.on-1}}
def r7 (ops:Array Oper):Array Oper:=((ops.toList.drop 1).map Kj).toArray
def B8 (P:Program) (bsf:Bf) (ops:Array Oper):Option PC:=
 if bsf.sh 4000000 then
  (if Hi ops then match (ops[0]?).bind (Dm P bsf ops),pz P bsf (r7 ops)with
   | some i,some (.jk ns l)=>some (.jk (9000000::ns) (i::l))
   | _,_=>none
  else none)
 else pz P bsf ops
theorem Fg {P:Program} {bsf:Bf} {ops:Array Oper} {pc:PC} (h:pz P bsf ops=some pc):∃n l,pc = .jk n l:=by
 unfold pz at h
 split at h
 ·simp only at h
  split at h
  ·obtain⟨r,_,rfl⟩:=fi.1 h;exact⟨_,_,rfl⟩
  ·simp at h
 ·simp at h
theorem zj {P:Program} {bsf:Bf} {ops:Array Oper} {pc:PC} (h:B8 P bsf ops=some pc):pz P bsf ops=some pc\/(Hi ops=true /\ ∃o i ns l,ops[0]? = some o/\Dm P bsf ops o=some i/\pz P bsf (r7 ops)=some (.jk ns l)/\pc = .jk (9000000::ns) (i::l)):=by
 unfold B8 at h
 split at h
 ·split at h
  ·rename_i h1
   split at h
   ·rename_i i ns l h2 h3
    obtain⟨o,h4,h5⟩:=Option.bind_eq_some_iff.1 h2
    cases h
    exact .inr ⟨h1,o,i,ns,l,h4,h5,h3,rfl⟩
   ·cases h
  ·cases h
 ·exact .inl h
theorem qi {P:Program} {bsf:Bf} {ops:Array Oper} {pc:PC} (h:B8 P bsf ops=some pc):∃n l,pc = .jk n l:=by
 rcases zj h with h|⟨_,_,_,_,_,_,_,_,rfl⟩
 ·exact Fg h
 ·exact⟨_,_,rfl⟩
def ik (P:Program) (bsf:Bf):Code->Option PC
 | .skip=>some .skip
 | .region _ ops false=>(il (Dm P bsf ops) ops.toList).map .reg
 | .region _ ops true=>B8 P bsf ops
 | .seq a b=>match ik P bsf a,ik P bsf b with
  | some a,some b=>some (.seq a b)
  | _,_=>none
 | .cond c a b=>match gh c,ik P bsf a,ik P bsf b with
  | some c,some a,some b=>some (.cond c a b)
  | _,_,_=>none
 | .block id b=>(ik P bsf b).map (.block id)
 | .loop b=>(ik P bsf b).map .loop
 | .exit id=>some (.exit id)
 | .ret=>some .ret
 | _=>none
def pg:Code->Bool
 | .skip | .exit _ | .ret=>true
 | .region _ ops _=>ops.all λo=>match o.op with | .defer _=>false|_=>true
 | .seq a b | .cond _ a b=>pg a&&pg b
 | .block _ b | .loop b=>pg b
 | _=>false
def zh (P:Program) (bsf:Bf):Code->Option PC
 | .rangeFunc f ps a b=>
  if (pg a&&pg b)=true then
   match gh f,ik P bsf a,ik P bsf b with
   | some x,some pa,some pb=>some (.By bsf.it x ps.toList pa pb)
   | _,_,_=>none
  else none
 | .seq a b=>match zh P bsf a,zh P bsf b with
  | some a,some b=>some (.seq a b)
  | _,_=>none
 | .block id b=>(zh P bsf b).map (.block id)
 | c=>if pg c=true then ik P bsf c else none
def Av (P:Program):ResultVar->Option PR
 | .tmp t=>some (.t t)
 | .cell a t=>(ru P t).map λ(ag,n)=>.c a ag n
def Fo (P:Program) (bsf:Bf) (f:FuncId):Option PF:=
 match P.funcs[f]? with
 | some fn=>match fn.body with
  | some c=>match il (Av P) fn.results.toList,ik P bsf c with
   | some r,some b=>if fn.name == "runtime.NumGoroutine" then none else some ⟨fn.ntmps,r,b⟩
   | _,_=>none
  | none=>none
 | none=>none
def Bm (P:Program) (bsf:Bf) (f:FuncId):Option PF:=
 match P.funcs[f]? with
 | some fn=>match fn.body with
  | some c=>match il (Av P) fn.results.toList,zh P bsf c with
   | some r,some b=>if fn.name == "runtime.NumGoroutine" then none else some ⟨fn.ntmps,r,b⟩
   | _,_=>none
  | none=>none
 | none=>none
end Go.Proofs.Eng
namespace Go.Proofs.Eng
def KB (b:Nat):Prop:=False
def KO (b:Nat) (o:Option Obj):Prop:=True
end Go.Proofs.Eng
namespace Go.Proofs.Eng
class DrK where
 d:Prop
variable [DrK]
structure Ow where
 b:Nat
 es:Nat
 cap:Nat
 n:Nat
structure Gh where
 mu:Nat->Option Nat
 ow:Nat->Option Ow
 fb:Nat->Nat->Prop
def Gh.wr (g:Gh) (s:ASt) (b o:Nat):Prop:=
 (∃i l,g.mu i=some b/\s.H[i]? = some (.cells false l))\/(∃id w,g.ow id=some w/\w.b=b/\w.n*w.es<=o)\/g.fb b o
def Gh.has (g:Gh) (b:Nat):Prop:=(∃i,g.mu i=some b)\/(∃id w,g.ow id=some w/\w.b=b)
def Gh.empty (fb:Nat->Nat->Prop):Gh:=⟨λ_=>.none,λ_=>.none,fb⟩
def oi (g:Gh) (s:ASt) (w:World) (b o:Nat) (c:Value):Prop:=w.cell? ⟨b,o,none⟩=some c /\ ¬g.wr s b o
def L0 (g:Gh) (s:ASt) (fl:Nat) (a:Option Addr):Prop:=fl ≠ 0 -> ∀ad,a=some ad -> ∀o,¬g.wr s ad.block o
def Dx (g:Gh) (s:ASt) (n fl:Nat) (a:Option Addr) (cap:Nat):Tl->Prop
 | .none=>True
 | .al=>L0 g s fl a
 | .nil=>a=none/\n=0/\cap=0
 | .cap c=>cap=c/\L0 g s fl a
 | .lim c=>cap=c
 | .tl id ver=>∃v,s.T[id]? = some v/\ver<=v/\(ver=v -> ∃w,g.ow id=some w/\w.n=n/\w.n*w.es=fl/\a=some ⟨w.b,0,none⟩/\cap=w.cap)
 | .tls id ver es=>∃v,s.T[id]? = some v/\ver<=v/\(ver=v -> ∃w d,g.ow id=some w/\w.es=es/\d+n=w.n/\(cap ≠ 0->a=some ⟨w.b,d*es,none⟩)/\cap+d=w.cap)
inductive Rep (g:Gh) (s:ASt) (w:World):AV->Value->Prop
 | unk (v:Value):Rep g s w .unk v
 | v {x:Value} (h:scalar x=true):Rep g s w (.v x) x
 | ptr {i off b:Nat} (h:g.mu i=some b):Rep g s w (.ptr i off) (.pointer (some ⟨b,off,none⟩))
 | ip {l:List AV} {off b o:Nat} (cs:List Value) (hn:l.length=cs.length) (hr:∀(k:Nat) (a:AV) (c:Value),l[k]? = some a->cs[k]? = some c->Rep g s w a c)
   (hc:∀(k:Nat) (c:Value),cs[k]? = some c->oi g s w b (o+k) c):Rep g s w (.ip l off) (.pointer (some ⟨b,o+off,none⟩))
 | sl {l:List AV} {t:Tl} {a:Option Addr} {b o n cap:Nat} (cs:List Value) (hn:(flat l).length=cs.length) (hr:∀(k:Nat) (a:AV) (c:Value),(flat l)[k]? = some a->cs[k]? = some c->Rep g s w a c)
   (hc:∀(k:Nat) (c:Value),cs[k]? = some c->oi g s w b (o+k) c) (ha:l ≠ []->a=some ⟨b,o,none⟩) (hln:l.length=n) (kh:n<=cap) (ht:Dx g s n (flat l).length a cap t):Rep g s w (.sl l t) (.slice a n cap)
 | bs {i off len es b cap:Nat} {ag:Bool} (h:g.mu i=some b) (kh:len<=cap) (hz:∃(c:Array Value) (el:TypeId) (fz:Nat × Nat),w.heap[b]? = some (.cells c el fz)/\off+cap*es=c.size):Rep g s w (.bs i off len es ag) (.slice (some ⟨b,off,none⟩) len cap)
 | cp {i off es n b:Nat} (h:g.mu i=some b) (hz:∃(c:Array Value) (el:TypeId) (fz:Nat × Nat),w.heap[b]? = some (.cells c el fz)/\off+n*es=c.size) (hp:0<es):Rep g s w (.cp i off es) (.int .i64 n)
 | mp {i b:Nat} (h:g.mu i=some b):Rep g s w (.mp i) (.map (some b))
 | fn {f:FuncId} {caps:List AV} (cs:List Value) (hn:caps.length=cs.length) (hr:∀(k:Nat) (a:AV) (c:Value),caps[k]? = some a->cs[k]? = some c->Rep g s w a c):Rep g s w (.fn f caps) (.func (.func f) #[] cs.toArray)
 | bm {f:FuncId} {fs:List AV} (cs:List Value) (hn:fs.length=cs.length) (hr:∀(k:Nat) (a:AV) (c:Value),fs[k]? = some a->cs[k]? = some c->Rep g s w a c):Rep g s w (.bm f fs) (.func (.func f) cs.toArray #[])
 | agg {l:List AV} (cs:List Value) (hn:l.length=cs.length) (hr:∀(k:Nat) (a:AV) (c:Value),l[k]? = some a->cs[k]? = some c->Rep g s w a c):Rep g s w (.agg l) (.agg cs.toArray)
 | tup {l:List AV} (cs:List Value) (hn:l.length=cs.length) (hr:∀(k:Nat) (a:AV) (c:Value),l[k]? = some a->cs[k]? = some c->Rep g s w a c):Rep g s w (.tup l) (.tuple cs.toArray)
 | iface {t:TypeId} {a:AV} {c:Value} (h:Rep g s w a c):Rep g s w (.iface t a) (.iface t c)
def ga (g:Gh) (s:ASt) (w:World) (l:List AV) (cs:List Value):Prop:=l.length=cs.length /\ ∀(k:Nat) (a:AV) (c:Value),l[k]? = some a->cs[k]? = some c->Rep g s w a c
def x9 (w w':World):Prop:=∀(b:Nat) (c:Array Value) (el:TypeId) (fz:Nat × Nat),w.heap[b]? = some (.cells c el fz) -> ∃(c':Array Value) (fz':Nat × Nat),w'.heap[b]? = some (.cells c' el fz')/\c.size=c'.size
theorem x9.refl (w:World):x9 w w:=λb c el fz h=>⟨c,fz,h,rfl⟩
theorem x9.trans {w w' w'':World} (h:x9 w w') (k:x9 w' w''):x9 w w'':=λb c el fz e=>by
 obtain⟨c',fz',e1,h1⟩:=h b c el fz e
 obtain⟨c'',fz'',e2,h2⟩:=k b c' el fz' e1
 exact⟨c'',fz'',e2,h1.trans h2⟩
theorem x9.same {w w':World} (hb:∀b,b<w.heap.size->w'.heap[b]? = w.heap[b]?):x9 w w':=λb c el fz h=>⟨c,fz,by rw[hb b (Array.getElem?_eq_some_iff.1 h).1];exact h,rfl⟩
theorem x9.one {w w':World} {b0:Nat} (hb:∀b,b ≠ b0->w'.heap[b]? = w.heap[b]?) (h0:∀(c:Array Value) (el:TypeId) (fz:Nat × Nat),w.heap[b0]? = some (.cells c el fz) -> ∃(c':Array Value) (fz':Nat × Nat),w'.heap[b0]? = some (.cells c' el fz')/\c.size=c'.size):x9 w w':=λb c el fz h=>by
 by_cases e:b=b0
 ·subst e;exact h0 c el fz h
 ·exact⟨c,fz,by rw[hb b e];exact h,rfl⟩
theorem Gm {w w':World} (hs:x9 w w') {b n:Nat} (h:∃(c:Array Value) (el:TypeId) (fz:Nat × Nat),w.heap[b]? = some (.cells c el fz)/\n=c.size):∃(c:Array Value) (el:TypeId) (fz:Nat × Nat),w'.heap[b]? = some (.cells c el fz)/\n=c.size:=by
 obtain⟨c,el,fz,h1,h2⟩:=h
 obtain⟨c',fz',e1,e2⟩:=hs b c el fz h1
 exact⟨c',el,fz',e1,h2.trans e2⟩
structure Ext (g:Gh) (s:ASt) (w:World) (g':Gh) (s':ASt) (w':World):Prop where
 mu:∀i b,g.mu i=some b->g'.mu i=some b
 T:∀id v,s.T[id]? = some v -> ∃v',s'.T[id]? = some v'/\v<=v'/\(v=v'->g'.ow id=g.ow id)
 size:w.heap.size<=w'.heap.size
 sz:x9 w w'
 cell:∀b o,b<w.heap.size -> ¬g.wr s b o->w'.cell? ⟨b,o,none⟩=w.cell? ⟨b,o,none⟩
 wr:∀b o,b<w.heap.size -> ¬g.wr s b o -> ¬g'.wr s' b o
 obj:∀b,b<w.heap.size -> ¬g.has b->w'.heap[b]? = w.heap[b]? /\ ¬g'.has b
 fb:g'.fb=g.fb
 os:w'.os=w.os
 tape:w'.tape=w.tape
 output:w'.output=w.output/\(DrK.d->w.drawn<=w'.drawn)
theorem Ext.refl (g:Gh) (s:ASt) (w:World):Ext g s w g s w where
 mu _ _ h:=h
 T _ v h:=⟨v,h,di _,λ_=>rfl⟩
 size:=di _
 sz:=.refl _
 cell _ _ _ _:=rfl
 wr _ _ _ h:=h
 obj _ _ h:=⟨rfl,h⟩
 fb:=rfl
 os:=rfl
 tape:=rfl
 output:=⟨rfl,λ_=>di _⟩
theorem Ext.trans {g g' g'':Gh} {s s' s'':ASt} {w w' w'':World} (h:Ext g s w g' s' w') (k:Ext g' s' w' g'' s'' w''):Ext g s w g'' s'' w'' where
 mu i b e:=k.mu _ _ (h.mu _ _ e)
 T id v e1:=by
  obtain⟨v',h1,h3,h4⟩:=h.T _ _ e1
  obtain⟨v'',k1,k3,k4⟩:=k.T _ _ h1
  exact⟨v'',k1,dt h3 k3,λe=>by rw[k4 (by omega),h4 (by omega)]⟩
 size:=dt h.size k.size
 sz:=h.sz.trans k.sz
 cell b o hb hm:=(k.cell b o (dq hb h.size) (h.wr b o hb hm)).trans (h.cell b o hb hm)
 wr b o hb hm:=k.wr b o (dq hb h.size) (h.wr b o hb hm)
 obj b hb hm:=by
  have h1:=h.obj b hb hm
  have h2:=k.obj b (dq hb h.size) h1.2
  exact⟨h2.1.trans h1.1,h2.2⟩
 fb:=k.fb.trans h.fb
 os:=k.os.trans h.os
 tape:=k.tape.trans h.tape
 output:=⟨k.output.1.trans h.output.1,λd=>dt (h.output.2 d) (k.output.2 d)⟩
theorem oi.lt {g:Gh} {s:ASt} {w:World} {b o:Nat} {c:Value} (h:oi g s w b o c):b<w.heap.size:=World.block_lt_of_cell? _ _ h.1
theorem oi.mono {g g':Gh} {s s':ASt} {w w':World} (e:Ext g s w g' s' w') {b o:Nat} {c:Value} (h:oi g s w b o c):oi g' s' w' b o c:=
 ⟨(e.cell b o h.lt h.2).trans h.1,e.wr b o h.lt h.2⟩
theorem Dx.mono {g g':Gh} {s s':ASt} {w w':World} (e:Ext g s w g' s' w') {n fl:Nat} {a:Option Addr} {cap:Nat} {t:Tl} (h:Dx g s n fl a cap t) (hb:fl ≠ 0 -> ∀ad,a=some ad->ad.block<w.heap.size):Dx g' s' n fl a cap t:=by
 cases t with
 | none=>exact h
 | al=>exact λh1 ad h2 o=>e.wr _ _ (hb h1 ad h2) (h h1 ad h2 o)
 | nil=>exact h
 | cap c=>exact⟨h.1,λh1 ad h2 o=>e.wr _ _ (hb h1 ad h2) (h.2 h1 ad h2 o)⟩
 | lim c=>exact h
 | tl id ver=>
  obtain⟨v,h2,h3,h4⟩:=h
  obtain⟨v',e4,e6,e7⟩:=e.T _ _ h2
  exact⟨v',e4,dt h3 e6,λhv=>by rw[e7 (by omega)];exact h4 (by omega)⟩
 | tls id ver es=>
  obtain⟨v,h2,h3,h4⟩:=h
  obtain⟨v',e4,e6,e7⟩:=e.T _ _ h2
  exact⟨v',e4,dt h3 e6,λhv=>by rw[e7 (by omega)];exact h4 (by omega)⟩
theorem a4z {g:Gh} {s:ASt} {w:World} {l:List AV} {a:Option Addr} {b o:Nat} {cs:List Value} (hn:(flat l).length=cs.length) (hc:∀(k:Nat) (c:Value),cs[k]? = some c->oi g s w b (o+k) c) (ha:l ≠ []->a=some ⟨b,o,none⟩):(flat l).length ≠ 0 -> ∀ad,a=some ad->ad.block<w.heap.size:=by
 intro h ad had
 have hl:l ≠ []:=by intro e;rw[e]at h;exact h rfl
 rw[ha hl]at had;cases had
 exact(hc 0 _ (aa (by omega))).lt
theorem Rep.mono {g g':Gh} {s s':ASt} {w w':World} (e:Ext g s w g' s' w') {a:AV} {v:Value} (h:Rep g s w a v):Rep g' s' w' a v:=by
 induction h with
 | unk v=>exact .unk v
 | v h=>exact .v h
 | ptr h=>exact .ptr (e.mu _ _ h)
 | ip cs hn hr hc ih=>exact .ip cs hn ih λk c hk=>(hc k c hk).mono e
 | sl cs hn hr hc ha hln kh ht ih=>exact .sl cs hn ih (λk c hk=>(hc k c hk).mono e) ha hln kh (ht.mono e (a4z hn hc ha))
 | bs h kh hz=>exact .bs (e.mu _ _ h) kh (Gm e.sz hz)
 | cp h hz hp=>exact .cp (e.mu _ _ h) (Gm e.sz hz) hp
 | mp h=>exact .mp (e.mu _ _ h)
 | fn cs hn hr ih=>exact .fn cs hn ih
 | bm cs hn hr ih=>exact .bm cs hn ih
 | agg cs hn hr ih=>exact .agg cs hn ih
 | tup cs hn hr ih=>exact .tup cs hn ih
 | iface h ih=>exact .iface ih
theorem ga.mono {g g':Gh} {s s':ASt} {w w':World} (e:Ext g s w g' s' w') {l:List AV} {cs:List Value} (h:ga g s w l cs):ga g' s' w' l cs:=⟨h.1,λk a c h1 h2=>(h.2 k a c h1 h2).mono e⟩
theorem ga.nil (g:Gh) (s:ASt) (w:World):ga g s w [] []:=⟨rfl,λk a c h=>by simp at h⟩
theorem ga.cons {g:Gh} {s:ASt} {w:World} {a:AV} {c:Value} {l:List AV} {cs:List Value} (h:Rep g s w a c) (hl:ga g s w l cs):ga g s w (a::l) (c::cs):=
 ⟨by simp[hl.1],λk a' c' h1 h2=>by
  cases k with
  | zero=>simp at h1 h2;subst h1;subst h2;exact h
  | succ k=>exact hl.2 k a' c' (by simpa using h1) (by simpa using h2)⟩
theorem ga.cons_inv {g:Gh} {s:ASt} {w:World} {a:AV} {l:List AV} {cs:List Value} (h:ga g s w (a::l) cs):∃c cs',cs=c::cs'/\Rep g s w a c/\ga g s w l cs':=by
 cases cs with
 | nil=>have:=h.1;simp at this
 | cons c cs'=>exact⟨c,cs',rfl,h.2 0 a c rfl rfl,by have:=h.1;simpa using this,λk a' c' h1 h2=>h.2 (k+1) a' c' (by simpa using h1) (by simpa using h2)⟩
theorem ga.get {g:Gh} {s:ASt} {w:World} {l:List AV} {cs:List Value} (h:ga g s w l cs) {k:Nat} {a:AV} (hk:l[k]? = some a):∃c,cs[k]? = some c/\Rep g s w a c:=by
 have hlt:k<cs.length:=by rw[<- h.1];exact(List.getElem?_eq_some_iff.1 hk).1
 exact⟨cs[k],aa hlt,h.2 k a _ hk (aa hlt)⟩
theorem ga.append {g:Gh} {s:ASt} {w:World} {l l':List AV} {cs cs':List Value} (h:ga g s w l cs) (h':ga g s w l' cs'):ga g s w (l++l') (cs++cs'):=by
 refine⟨by simp[h.1,h'.1],λk a c h1 h2 => ?_⟩
 by_cases hk:k<l.length
 ·rw[ae hk]at h1
  rw[ae (by rw[<- h.1];exact hk)]at h2
  exact h.2 k a c h1 h2
 ·rw[af (by omega)]at h1
  rw[af (by rw[<- h.1];omega),<- h.1]at h2
  exact h'.2 _ a c h1 h2
theorem ga.take {g:Gh} {s:ASt} {w:World} {l:List AV} {cs:List Value} (h:ga g s w l cs) (n:Nat):ga g s w (l.take n) (cs.take n):=
 ⟨by simp[h.1],λk a c h1 h2=>by
  rw[bc]at h1 h2
  by_cases hk:k<n
  ·rw[if_pos hk]at h1 h2;exact h.2 k a c h1 h2
  ·rw[if_neg hk]at h1;simp at h1⟩
theorem ga.drop {g:Gh} {s:ASt} {w:World} {l:List AV} {cs:List Value} (h:ga g s w l cs) (n:Nat):ga g s w (l.drop n) (cs.drop n):=
 ⟨by simp[h.1],λk a c h1 h2=>by
  rw[ba]at h1 h2
  exact h.2 _ a c h1 h2⟩
theorem ga.set {g:Gh} {s:ASt} {w:World} {l:List AV} {cs:List Value} (h:ga g s w l cs) (n:Nat) {a:AV} {c:Value} (hr:Rep g s w a c):ga g s w (l.set n a) (cs.set n c):=
 ⟨by simp[h.1],λk a' c' h1 h2=>by
  rw[b9]at h1 h2
  by_cases hk:n=k
  ·subst hk
   simp only[if_true]at h1 h2
   split at h1
   ·split at h2
    ·cases h1;cases h2;exact hr
    ·simp at h2
   ·simp at h1
  ·rw[if_neg hk]at h1 h2
   exact h.2 k a' c' h1 h2⟩
theorem ga.one {g:Gh} {s:ASt} {w:World} {a:AV} {c:Value} (h:Rep g s w a c):ga g s w [a] [c]:=.cons h (.nil g s w)
theorem ga.replicate {g:Gh} {s:ASt} {w:World} {a:AV} {c:Value} (h:Rep g s w a c) (n:Nat):ga g s w (List.replicate n a) (List.replicate n c):=
 ⟨by simp,λk a' c' h1 h2=>by
  obtain⟨_,h1⟩:=List.getElem?_eq_some_iff.1 h1
  obtain⟨_,h2⟩:=List.getElem?_eq_some_iff.1 h2
  simp at h1 h2;subst h1;subst h2;exact h⟩
theorem Rep.cells {g:Gh} {s:ASt} {w:World} {a:AV} {v:Value} (h:Rep g s w a v) (hu:a ≠ .unk):ga g s w a.cells v.cells.toList:=by
 cases h with
 | agg cs hn hr=>exact⟨by simpa[AV.cells,Value.cells]using hn,by simpa[AV.cells,Value.cells]using hr⟩
 | unk=>exact absurd rfl hu
 | v hs=>
  have:v.cells = #[v]:=by cases v<;>simp[scalar]at hs<;>rfl
  rw[this];exact ga.one (.v hs)
 | ptr h=>exact ga.one (.ptr h)
 | ip cs hn hr hc=>exact ga.one (.ip cs hn hr hc)
 | sl cs hn hr hc ha hln kh ht=>exact ga.one (.sl cs hn hr hc ha hln kh ht)
 | bs h kh hz=>exact ga.one (.bs h kh hz)
 | cp h hz hp=>exact ga.one (.cp h hz hp)
 | mp h=>exact ga.one (.mp h)
 | fn cs hn hr=>exact ga.one (.fn cs hn hr)
 | bm cs hn hr=>exact ga.one (.bm cs hn hr)
 | tup cs hn hr=>exact ga.one (.tup cs hn hr)
 | iface h=>exact ga.one (.iface h)
def Ih (g:Gh) (s:ASt) (w:World) (b:Nat):fq->Prop
 | .cells _ l=>∃cs el,(∃rest:List Value,w.heap[b]? = some (.cells (cs++rest).toArray el (0,0)))/\ga g s w l cs
 | .map es=>∃ents clk,w.heap[b]? = some (.map ents clk)/\ga g s w (es.map (·.1)) (ents.toList.map (·.key))/\ga g s w (es.map (·.2)) (ents.toList.map (·.val))
 | .dead=>True
structure Inv (g:Gh) (s:ASt) (w:World):Prop where
 lt:∀i b,g.mu i=some b->i<s.H.length/\b<w.heap.size
 inj:∀i j b,g.mu i=some b->g.mu j=some b->i=j\/s.H[i]? = some .dead\/s.H[j]? = some .dead
 obj:∀i b o,g.mu i=some b->s.H[i]? = some o->Ih g s w b o
 rf:∀id o,g.ow id=some o->id<s.T.length/\o.n<=o.cap /\ ∃c el,w.heap[o.b]? = some (.cells c el (0,0))/\o.cap*o.es<=c.size
 og:∀id id' o o',g.ow id=some o->g.ow id'=some o'->o.b=o'.b->id=id'
 s8:∀id o i,g.ow id=some o->g.mu i ≠ some o.b
 u5:∀b o,g.fb b o->b<w.heap.size
 vg:∀i b o,g.mu i=some b -> ¬g.fb b o
 u9:∀id q o,g.ow id=some q -> ¬g.fb q.b o
 kn:∀b,KB b->b<w.heap.size /\ ¬g.has b/\KO b w.heap[b]?
def Kn (w:World):Prop:=∀b,KB b->b<w.heap.size/\KO b w.heap[b]?
theorem Inv.empty {w:World} {fb:Nat->Nat->Prop} (hk:Kn w) (h:∀b o,fb b o->b<w.heap.size):Inv (Gh.empty fb) ⟨[],[]⟩ w where
 lt _ _ h:=by simp[Gh.empty]at h
 inj _ _ _ h:=by simp[Gh.empty]at h
 obj _ _ _ h:=by simp[Gh.empty]at h
 rf _ _ h:=by simp[Gh.empty]at h
 og _ _ _ _ h:=by simp[Gh.empty]at h
 s8 _ _ _ h:=by simp[Gh.empty]at h
 u5:=h
 vg _ _ _ h:=by simp[Gh.empty]at h
 u9 _ _ _ h:=by simp[Gh.empty]at h
 kn b hb:=⟨(hk b hb).1,by rintro(⟨i,h⟩|⟨id,q,h,_⟩)<;>simp[Gh.empty]at h,(hk b hb).2⟩
theorem Inv.known {g:Gh} {s:ASt} {w:World} (h:Inv g s w):Kn w:=λb hb=>⟨(h.kn b hb).1,(h.kn b hb).2.2⟩
theorem Inv.knE {g:Gh} {s:ASt} {w:World} (h:Inv g s w) {g':Gh} {s':ASt} {w':World} (hE:Ext g s w g' s' w'):∀b,KB b->b<w'.heap.size /\ ¬g'.has b/\KO b w'.heap[b]? := λb hb=>by
 obtain⟨h1,h2,h3⟩:=h.kn b hb
 obtain⟨h4,h5⟩:=hE.obj b h1 h2
 exact⟨dq h1 hE.size,h5,by rw[h4];exact h3⟩
theorem Inv.yb {g:Gh} {s:ASt} {w:World} (h:Inv g s w) {b:Nat} (hb:g.has b):b<w.heap.size:=by
 rcases hb with⟨i,hi⟩|⟨id,o,ho,hob⟩
 ·exact(h.lt i b hi).2
 ·obtain⟨_,_,c,el,hc,_⟩:=h.rf id o ho
  subst hob
  exact(Array.getElem?_eq_some_iff.1 hc).1
theorem Inv.Cf {g:Gh} {s:ASt} {w:World} (hI:Inv g s w) {b o:Nat} (h:g.wr s b o):b<w.heap.size:=by
 rcases h with⟨i,l,h,_⟩|⟨id,q,h,hb,_⟩|h
 ·exact hI.yb (.inl ⟨i,h⟩)
 ·exact hI.yb (.inr ⟨id,q,h,hb⟩)
 ·exact hI.u5 _ _ h
end Go.Proofs.Eng
namespace Go.Proofs.Eng
variable [DrK]
theorem l5 (b o n:Nat):(⟨b,o,none⟩:Addr).add n=⟨b,o+n,none⟩:=by unfold Addr.add;split<;>simp_all
section
variable {P:Program} {g:Gh} {s:ASt} {w:World}
theorem gu {t:TypeId} {d:TypeDesc} (h:P.underlying t=some d) (w:World):(underlying t).run P w = .ok d w:=run_underlying h w
theorem Ah {t:TypeId} {i:TypeInfo} (h:P.info? t=some i) (w:World):(typeInfo t).run P w = .ok i w:=by simp[typeInfo,program,Sem.run,h]
theorem nj {t:TypeId} {i:TypeInfo} (h:P.info? t=some i) (w:World):(sizeOf t).run P w = .ok i.size w:=by simp[sizeOf,Ah h]
theorem vd {t:TypeId} {i:TypeInfo} {z:Value} (h:P.info? t=some i) (hz:i.zero=some z) (w:World):(zeroValue t).run P w = .ok z w:=by simp[zeroValue,Ah h,hz]
theorem jm {t:TypeId} {ag:Bool} {n:Nat} (h:ru P t=some (ag,n)) :
  (∀w,(isAgg t).run P w = .ok ag w)/\(∀w,(sizeOf t).run P w = .ok n w)/\0<n/\(ag=false->n=1) /\ ∃i,P.info? t=some i/\i.size=n:=by
 unfold ru at h
 split at h
 ·rename_i fs i hu hi
  split at h
  ·simp at h
  ·simp only[fe,ff]at h
   obtain⟨rfl,rfl⟩:=h
   exact⟨λw=>by simp[isAgg,gu hu],λw=>nj hi w,by omega,by simp,i,hi,rfl⟩
 ·rename_i k e i hu hi
  split at h
  ·simp at h
  ·simp only[fe,ff]at h
   obtain⟨rfl,rfl⟩:=h
   exact⟨λw=>by simp[isAgg,gu hu],λw=>nj hi w,by omega,by simp,i,hi,rfl⟩
 ·rename_i d i h1 h2 hu hi
  split at h
  ·simp only[fe,ff]at h
   obtain⟨rfl,rfl⟩:=h
   rename_i hn
   refine⟨λw => ?_,λw=>by rw[nj hi w,hn],by omega,by simp,i,hi,hn⟩
   simp only[isAgg,Sem.run_bind,gu hu,Result.andThen_ok]
   cases d<;>first|rfl|exact(h1 _ rfl).elim|exact(h2 _ _ rfl).elim
  ·simp at h
 ·simp at h
theorem Ec {v:Value} {a:AV} (h:Bk v=some a):Rep g s w a v:=by
 unfold Bk at h
 split at h
 ·simp only[fe]at h;subst h
  exact .sl (b:=0) (o:=0) [] rfl (λk a c h=>by simp[flat]at h) (λk c h=>by simp at h) (by simp) rfl (di _) ⟨rfl,rfl,rfl⟩
 ·split at h
  ·simp only[fe]at h;subst h;exact .v ‹_›
  ·simp at h
theorem sx {α β:Type} {f:α->Option β}:∀{l:List α} {r:List β},il f l=some r->l.length=r.length /\ ∀(k:Nat) (x:α) (y:β),l[k]? = some x->r[k]? = some y->f x=some y
 | [],r,h=>by simp[il]at h;subst h;simp
 | x::xs,r,h=>by
  simp only[il]at h
  split at h
  ·rename_i y hy
   split at h
   ·rename_i ys hys
    simp only[fe]at h;subst h
    obtain⟨h1,h2⟩:=sx hys
    refine⟨by simp[h1],λk x' y' hx hy' => ?_⟩
    cases k with
    | zero=>simp at hx hy';subst hx;subst hy';exact hy
    | succ k=>exact h2 k x' y' (by simpa using hx) (by simpa using hy')
   ·simp at h
  ·simp at h
theorem l7 {v:Value} {a:AV} (h:ofConst v=some a):Rep g s w a v:=by
 unfold ofConst at h
 split at h
 ·rename_i cs
  cases hm:il Bk cs.toList with
  | none=>rw[hm]at h;simp at h
  | some l=>
   rw[hm]at h;simp at h;subst h
   obtain⟨h1,h2⟩:=sx hm
   have:=Rep.agg (g:=g) (s:=s) (w:=w) (l:=l) cs.toList h1.symm (λk a c ha hc=>Ec (h2 k c a hc ha))
   simpa using this
 ·exact Ec h
theorem fx {x:Operand} {y:X} {tm:List AV} {a:Act} {v:AV} (h:gh x=some y) (he:evX tm y=some v) (ht:ga g s w tm a.tmps.toList):Rep g s w v (a.eval x):=by
 cases x with
 | tmp t=>
  simp only[gh,fe]at h;subst h
  simp only[evX]at he
  obtain⟨c,hc,hr⟩:=ht.get he
  simp only[Act.eval]
  rw[Array.getElem?_toList]at hc
  simpa[Array.getD_eq_getD_getElem?,hc]using hr
 | const u=>
  simp only[gh]at h
  cases ho:ofConst u with
  | none=>rw[ho]at h;simp at h
  | some av=>
   rw[ho]at h;simp at h;subst h
   simp only[evX,fe]at he;subst he
   exact l7 ho
 | global _=>simp[gh]at h
 | func f=>
  simp only[gh,fe]at h;subst h
  simp only[evX,fe]at he;subst he
  exact .fn [] rfl (λk a c h=>by simp at h)
theorem lu {t:TypeId} {z:AV} (h:uh P t=some z):∃zv i,P.info? t=some i/\i.zero=some zv/\ofConst zv=some z:=by
 unfold uh at h
 cases hi:P.info? t with
 | none=>simp[hi]at h
 | some i=>
  cases hz:i.zero with
  | none=>simp[hi,hz]at h
  | some zv=>exact⟨zv,i,rfl,hz,by simpa[hi,hz]using h⟩
theorem qz {e:TypeId} {ag:Bool} {n:Nat} {z:AV} (h:tj P e=some (ag,n,z)):ru P e=some (ag,n)/\uh P e=some z/\z.cells.length=n /\ ∃i,P.info? e=some i/\(i.bytes<=65536/\(i.size=1->i.bytes<=24))/\i.size=n:=by
 unfold tj at h
 split at h
 ·rename_i ag' n' i z' h1 h2 h3
  split at h
  ·rename_i hc
   simp only[fe,ff]at h
   obtain⟨rfl,rfl,rfl⟩:=h
   obtain⟨_,_,_,_,i',hi',hn'⟩:=jm h1
   rw[h2]at hi';cases hi'
   exact⟨h1,h3,hc.2,i,h2,⟨hc.1.1,λh=>hc.1.2 (by rw[<- hn'];exact h)⟩,hn'⟩
  ·simp at h
 ·simp at h
theorem Cp {t:TypeId} {ag:Bool} {n b o off:Nat} {l:List AV} {cs:List Value} {v:AV} (hT:ru P t=some (ag,n)) (hl:ga g s w l cs) (hc:∀k c,cs[k]? = some c->w.cell? ⟨b,o+k,none⟩=some c)
  (hp:x8 ag n (l.drop off)=some v):∃u,(loadVar t ⟨b,o+off,none⟩).run P w = .ok u w/\Rep g s w v u:=by
 obtain⟨h1,h2,h3,h4,_⟩:=jm hT
 cases ag with
 | false=>
  simp only[x8,dz,if_false,List.head?_drop]at hp
  obtain⟨c,hcc,hr⟩:=hl.get hp
  refine⟨c, ?_,hr⟩
  simp only[loadVar,Sem.run_bind,h1,Result.andThen_ok]
  simp[hc off c hcc]
 | true=>
  simp only[x8,if_true]at hp
  split at hp
  ·rename_i hn
   simp only[fe]at hp;subst hp
   have hlen:((cs.drop off).take n).length=n:=by simp only[b7,b8];rw[b8]at hn;rw[<- hl.1];omega
   refine⟨.agg ((cs.drop off).take n).toArray, ?_, ?_⟩
   ·simp only[loadVar,Sem.run_bind,h1,Result.andThen_ok,if_true,h2]
    have:=run_loadCells_list (P:=P) (w:=w) ⟨b,o+off,none⟩ ((cs.drop off).take n) (λj c hj=>by
     rw[l5,dv]
     rw[bc]at hj
     split at hj
     ·rw[ba]at hj;exact hc _ _ hj
     ·simp at hj)
    rw[hlen]at this
    simp[this]
   ·have:=(hl.drop off).take n
    exact .agg _ this.1 this.2
  ·simp at hp
theorem Inv.ptr {g:Gh} {s:ASt} {w:World} (h:Inv g s w) {i b:Nat} {fz:Bool} {l:List AV} (hi:g.mu i=some b) (ho:s.H[i]? = some (.cells fz l)) :
  ∃cs el,(∃rest:List Value,w.heap[b]? = some (.cells (cs++rest).toArray el (0,0)))/\ga g s w l cs /\ ∀k c,cs[k]? = some c->w.cell? ⟨b,0+k,none⟩=some c:=by
 obtain⟨cs,el,⟨rest,h1⟩,h2⟩:=h.obj i b _ hi ho
 refine⟨cs,el,⟨rest,h1⟩,h2,λk c hk => ?_⟩
 have:(cs++rest)[k]? = some c:=by rw[ae (List.getElem?_eq_some_iff.1 hk).1];exact hk
 simp only[World.cell?,h1,dp]
 simpa using this
theorem Dq {t:TypeId} {ag:Bool} {n:Nat} {pv:AV} {p:Value} {v:AV} (hI:Inv g s w) (hT:ru P t=some (ag,n)) (hp:Rep g s w pv p) (hl:sf s ag n pv=some v) :
  ∃u,(Instr.loadAt t p).run P w = .ok u w/\Rep g s w v u:=by
 cases hp with
 | ptr h=>
  simp only[sf]at hl
  split at hl
  ·rename_i fz l ho
   obtain⟨cs,el,_,h2,h3⟩:=hI.ptr h ho
   obtain⟨u,hu,hr⟩:=Cp hT h2 h3 hl
   exact⟨u,by simpa[Instr.loadAt,Instr.sureAddr]using hu,hr⟩
  ·simp at hl
 | ip cs hn hr hc=>
  simp only[sf]at hl
  obtain⟨u,hu,hr⟩:=Cp hT ⟨hn,hr⟩ (λk c hk=>(hc k c hk).1) hl
  exact⟨u,by simpa[Instr.loadAt,Instr.sureAddr]using hu,hr⟩
 | _=>simp[sf]at hl
end
end Go.Proofs.Eng
namespace Go.Proofs.Eng
variable [DrK]
section
variable {P:Program} {g:Gh} {s:ASt} {w:World} {tm:List AV} {a:Act} {o:Oper}
def RD (P:Program) (g:Gh) (s:ASt) (w:World) (a:Act) (o:Oper) (v:AV):Prop:=∃u,(execOp a.eval o).run P w = .ok (.value u) w/\Rep g s w v u
theorem a43 {x:Operand} {y:X} {v:AV} (ho:o.op = .move x\/o.op = .assign x) (hx:gh x=some y) (he:evX tm y=some v) (ht:ga g s w tm a.tmps.toList):RD P g s w a o v:=
 ⟨a.eval x,by rcases ho with ho|ho<;>simp[execOp,ho],fx hx he ht⟩
theorem Rep.qc {b:Bool} {u:Value} (h:Rep g s w (.v (.bool b)) u):u = .bool b:=by cases h;rfl
theorem Rep.Oa {k:IntKind} {n:Int} {u:Value} (h:Rep g s w (.v (.int k n)) u):u = .int k n:=by cases h;rfl
theorem Rep.O7 {b:ByteArray} {u:Value} (h:Rep g s w (.v (.string b)) u):u = .string b:=by cases h;rfl
theorem Rep.ke {x u:Value} (h:Rep g s w (.v x) u):u=x:=by cases h;rfl
theorem Rep.bool (b:Bool):Rep g s w (.v (.bool b)) (.bool b):=.v rfl
theorem Rep.int (k:IntKind) (n:Int):Rep g s w (.v (.int k n)) (.int k n):=.v rfl
theorem Rep.str (b:ByteArray):Rep g s w (.v (.string b)) (.string b):=.v rfl
theorem Rep.undef:Rep g s w .undef undef:=.tup [] rfl (λk a c h=>by simp at h)
theorem Z5 {c x y:Operand} {c' x' y':X} {b:Bool} {u v:AV} (ho:o.op = .pick c x y) (hc:gh c=some c') (hx:gh x=some x') (hy:gh y=some y')
  (ec:evX tm c'=some (.v (.bool b))) (ex:evX tm x'=some u) (ey:evX tm y'=some v) (ht:ga g s w tm a.tmps.toList):RD P g s w a o (if b then u else v):=by
 have h1:=(fx hc ec ht).qc
 refine⟨if b then a.eval x else a.eval y, ?_, ?_⟩
 ·simp[execOp,ho,h1,asBool]
 ·cases b
  ·exact fx hy ey ht
  ·exact fx hx ex ht
theorem Xj {t:TypeId} {x:Operand} {y:X} {ag:Bool} {n:Nat} {pv v:AV} (ho:o.op = .load t x) (hT:ru P t=some (ag,n)) (hx:gh x=some y) (he:evX tm y=some pv) (hl:sf s ag n pv=some v)
  (hI:Inv g s w) (ht:ga g s w tm a.tmps.toList):RD P g s w a o v:=by
 obtain⟨u,hu,hr⟩:=Dq hI hT (fx hx he ht) hl
 exact⟨u,by simp[execOp,ho,hu],hr⟩
theorem Rep.mj {i off:Nat} {u:Value} (h:Rep g s w (.ptr i off) u):∃b,g.mu i=some b/\u = .pointer (some ⟨b,off,none⟩):=by
 cases h with|ptr h=>exact⟨_,h,rfl⟩
theorem Rep.Bq {l:List AV} {off:Nat} {u:Value} (h:Rep g s w (.ip l off) u):∃b o cs,u = .pointer (some ⟨b,o+off,none⟩)/\ga g s w l cs /\ ∀k c,cs[k]? = some c->oi g s w b (o+k) c:=by
 cases h with|ip cs hn hr hc=>exact⟨_,_,cs,rfl,⟨hn,hr⟩,hc⟩
theorem Rep.n8 {l:List AV} {t:Tl} {u:Value} (h:Rep g s w (.sl l t) u):∃x cap b o cs,u = .slice x l.length cap/\ga g s w (flat l) cs/\(∀k c,cs[k]? = some c->oi g s w b (o+k) c)/\(l ≠ []->x=some ⟨b,o,none⟩)/\l.length<=cap/\Dx g s l.length (flat l).length x cap t:=by
 cases h with|sl cs hn hr hc ha hln kh ht=>subst hln;exact⟨_,_,_,_,cs,rfl,⟨hn,hr⟩,hc,ha,kh,ht⟩
theorem Rep.wc {i off len es:Nat} {ag:Bool} {u:Value} (h:Rep g s w (.bs i off len es ag) u):∃b cap,g.mu i=some b/\u = .slice (some ⟨b,off,none⟩) len cap/\len<=cap /\ ∃(c:Array Value) (el:TypeId) (fz:Nat × Nat),w.heap[b]? = some (.cells c el fz)/\off+cap*es=c.size:=by
 cases h with|bs h kh hz=>exact⟨_,_,h,rfl,kh,hz⟩
theorem Rep.a1m {i off es:Nat} {u:Value} (h:Rep g s w (.cp i off es) u):∃b n:Nat,g.mu i=some b/\u = .int .i64 n/\0<es /\ ∃(c:Array Value) (el:TypeId) (fz:Nat × Nat),w.heap[b]? = some (.cells c el fz)/\off+n*es=c.size:=by
 cases h with|cp h hz hp=>exact⟨_,_,h,rfl,hp,hz⟩
theorem Rep.M8 {i:Nat} {u:Value} (h:Rep g s w (.mp i) u):∃b,g.mu i=some b/\u = .map (some b):=by
 cases h with|mp h=>exact⟨_,h,rfl⟩
theorem Rep.I1 {f:FuncId} {l:List AV} {u:Value} (h:Rep g s w (.fn f l) u):∃cs:List Value,u = .func (.func f) #[] cs.toArray/\ga g s w l cs:=by
 cases h with|fn cs hn hr=>exact⟨cs,rfl,hn,hr⟩
theorem Rep.Dc {l:List AV} {u:Value} (h:Rep g s w (.agg l) u):∃cs:List Value,u = .agg cs.toArray/\ga g s w l cs:=by
 cases h with|agg cs hn hr=>exact⟨cs,rfl,hn,hr⟩
theorem Rep.Mm {f:FuncId} {l:List AV} {u:Value} (h:Rep g s w (.bm f l) u):∃cs:List Value,u = .func (.func f) cs.toArray #[]/\ga g s w l cs:=by
 cases h with|bm cs hn hr=>exact⟨cs,rfl,hn,hr⟩
theorem Rep.I7 {l:List AV} {u:Value} (h:Rep g s w (.tup l) u):∃cs:List Value,u = .tuple cs.toArray/\ga g s w l cs:=by
 cases h with|tup cs hn hr=>exact⟨cs,rfl,hn,hr⟩
theorem Rep.tc {t:TypeId} {x:AV} {u:Value} (h:Rep g s w (.iface t x) u):∃c,u = .iface t c/\Rep g s w x c:=by
 cases h with|iface h=>exact⟨_,rfl,h⟩
theorem A9 {x:Operand} {y:X} {v:AV} (ho:o.op = .nilCheck x) (hx:gh x=some y) (he:evX tm y=some v) (hv:(∃i o,v = .ptr i o)\/(∃l o,v = .ip l o)\/(∃f l,v = .fn f l)\/(∃f l,v = .bm f l))
  (ht:ga g s w tm a.tmps.toList):RD P g s w a o v:=by
 have h:=fx hx he ht
 refine⟨a.eval x, ?_,h⟩
 rcases hv with⟨i,o,rfl⟩|⟨l,o,rfl⟩|⟨f,l,rfl⟩|⟨f,l,rfl⟩
 ·obtain⟨b,_,hu⟩:=h.mj;simp[execOp,ho,hu]
 ·obtain⟨b,o,cs,hu,_⟩:=h.Bq;simp[execOp,ho,hu]
 ·obtain⟨cs,hu,_⟩:=h.I1;simp[execOp,ho,hu]
 ·obtain⟨cs,hu,_⟩:=h.Mm;simp[execOp,ho,hu]
theorem np {op:BinOp} {t:TypeId} {x y:Operand} {u v:Value} (h:¬(u = .nilIface/\v = .nilIface)) (h':∀c d,¬(u = .agg c/\v = .agg d)) (w:World):(eqGuard op t x y u v).run P w = .ok () w:=by
 have key:∀(A:Sem Unit) (B:Array Value->Array Value->Sem Unit),((match u,v with | .nilIface,.nilIface=>A | .agg c,.agg d=>B c d|_,_=>pure ()).run P w = .ok () w):=by
  intro A B
  split
  ·exact absurd ⟨rfl,rfl⟩ h
  ·exact absurd ⟨rfl,rfl⟩ (h' _ _)
  ·rfl
 unfold eqGuard
 cases op<;>first|rfl|exact key _ _
theorem S9 {op:BinOp} {k:IntKind} {x y:Int} {t:TypeId} {v:AV} (h:vv op k x y=some v) (w:World):∃u,(binOp op t (.int k x) (.int k y)).run P w = .ok u w/\Rep g s w v u:=by
  cases op<;>simp only[vv,fe,reduceCtorEq]at h <;>
    first
    | (subst h;exact⟨_,by simp[binOp,Op.intArith,Op.intBits,Op.intCmp];try rfl,.v rfl⟩)
    | (split at h
       · simp at h
       · simp only[fe]at h;subst h;exact⟨_,by simp[binOp,Op.intDiv, *];try rfl,.v rfl⟩)
theorem Ua {op:BinOp} {x y:ByteArray} {t:TypeId} {v:AV} (h:Eu op x y=some v) (w:World):∃u,(binOp op t (.string x) (.string y)).run P w = .ok u w/\Rep g s w v u:=by
  cases op<;>simp only[Eu,fe,reduceCtorEq]at h <;>
    first
    | (subst h;exact⟨_,by simp[binOp,Op.stringOp];try rfl,.v rfl⟩)
    | (split at h
       · simp only[fe]at h;subst h
         rename_i hs
         refine⟨.string (x++y), ?_,.v rfl⟩
         have:¬((x.size+y.size:Nat):Int)>IntKind.i64.max:=by
           have:IntKind.i64.max=9223372036854775807:=by decide
           omega
         simp only[binOp,Op.stringOp,if_neg this,Sem.run_pure]
       · simp at h)
theorem Rm {op:BinOp} {x y v:AV} {p q:Value} {t:TypeId} (h:Fc op x y=some v) (hx:Rep g s w x p) (hy:Rep g s w y q) :
  (∃u,(binOp op t p q).run P w = .ok u w/\Rep g s w v u) /\ ¬(p = .nilIface/\q = .nilIface) /\ ∀c d,¬(p = .agg c/\q = .agg d):=by
 unfold Fc at h
 split at h
 ·rename_i k x k' y
  cases hx.Oa;cases hy.Oa
  refine⟨?_,by simp,by simp⟩
  split at h
  ·split at h
   ·rename_i hb
    simp only[fe]at h;subst h
    exact⟨_,by simp[binOp,Op.shift,show ¬y<0 by omega],.v rfl⟩
   ·simp at h
  ·split at h
   ·rename_i hb
    simp only[fe]at h;subst h
    exact⟨_,by simp[binOp,Op.shift,show ¬y<0 by omega],.v rfl⟩
   ·simp at h
  ·split at h
   ·rename_i hk;subst hk;exact S9 h w
   ·simp at h
 ·cases hx.O7;cases hy.O7
  exact⟨Ua h w,by simp,by simp⟩
 ·simp at h
theorem a2j {op:BinOp} {t t':TypeId} {x y:Operand} {x' y':X} {u v r:AV} (ho:o.op = .binOp op t x y t') (hx:gh x=some x') (hy:gh y=some y') (ex:evX tm x'=some u) (ey:evX tm y'=some v)
  (hb:Fc op u v=some r) (ht:ga g s w tm a.tmps.toList):RD P g s w a o r:=by
 obtain⟨⟨q,hq,hr⟩,h1,h2⟩:=Rm (P:=P) (t:=t) hb (fx hx ex ht) (fx hy ey ht)
 exact⟨q,by simp[execOp,ho,np h1 h2,hq],hr⟩
theorem r6 {op:BinOp} {neg:Bool} {t:TypeId} {p q:Value} {r:Bool} (hop:op=if neg then .neq else .eql) (hp:(∀k n,p ≠ .int k n)/\(∀k n,p ≠ .float k n)/\(∀k n m,p ≠ .complex k n m)/\(∀b,p ≠ .string b))
  (h:(Op.equal t p q).run P w = .ok r w):(binOp op t p q).run P w = .ok (.bool (neg ^^ r)) w:=by
 obtain⟨h1,h2,h3,h4⟩:=hp
 cases neg
 ·simp only[dz,if_false]at hop;subst hop
  cases p<;>first|exact absurd rfl (h1 _ _)|exact absurd rfl (h2 _ _)|exact absurd rfl (h3 _ _ _)|exact absurd rfl (h4 _)|simp[binOp,h]
 ·simp only[if_true]at hop;subst hop
  cases p<;>first|exact absurd rfl (h1 _ _)|exact absurd rfl (h2 _ _)|exact absurd rfl (h3 _ _ _)|exact absurd rfl (h4 _)|simp[binOp,h]
theorem Hc {t:TypeId} (hT:P.underlying t=some .bool) (d:Nat) (u v:Bool):(Op.equalIn (d+1) t (.bool u) (.bool v)).run P w = .ok (u==v) w:=by
 rw[Op.equalIn];simp[gu hT]
theorem Gy {t u:TypeId} {c:Value} {ms:Array (String × TypeId)} (hT:P.underlying t=some (.interface ms)) (d:Nat):(Op.equalIn (d+1) t .nilIface (.iface u c)).run P w = .ok false w:=by
 rw[Op.equalIn];simp[gu hT]
theorem Hg {t u:TypeId} {c:Value} {ms:Array (String × TypeId)} (hT:P.underlying t=some (.interface ms)) (d:Nat):(Op.equalIn (d+1) t (.iface u c) .nilIface).run P w = .ok false w:=by
 rw[Op.equalIn];simp[gu hT]
theorem I6 {t:TypeId} {ms:Array (String × TypeId)} (hT:P.underlying t=some (.interface ms)) (d:Nat):(Op.equalIn (d+1) t .nilIface .nilIface).run P w = .ok true w:=by
 rw[Op.equalIn];simp[gu hT]
theorem F8 {t e:TypeId} (hT:P.underlying t=some (.slice e)) (d:Nat) (x:Option Addr) (n m k l:Nat):(Op.equalIn (d+1) t (.slice x n m) (.slice none k l)).run P w = .ok x.isNone w:=by
 rw[Op.equalIn];cases x<;>simp[gu hT]
theorem W5 {op:BinOp} {neg:Bool} {t t':TypeId} {x y:Operand} {x' y':X} {u v:Bool} (ho:o.op = .binOp op t x y t') (hop:op=if neg then .neq else .eql) (hT:P.underlying t=some .bool) (hx:gh x=some x') (hy:gh y=some y')
  (ex:evX tm x'=some (.v (.bool u))) (ey:evX tm y'=some (.v (.bool v))) (ht:ga g s w tm a.tmps.toList):RD P g s w a o (.bool (neg ^^ (u==v))):=by
 have h1:=(fx hx ex ht).qc
 have h2:=(fx hy ey ht).qc
 refine⟨.bool (neg ^^ (u==v)), ?_,.v rfl⟩
 have hb:=r6 (P:=P) (w:=w) (t:=t) (p:=.bool u) (q:=.bool v) (r:=u==v) hop ⟨by simp,by simp,by simp,by simp⟩ (Hc hT 9999 u v)
 simp only[execOp,ho,h1,h2,Sem.run_bind,np (P:=P) (u:=.bool u) (v:=.bool v) (by simp) (by simp),Result.andThen_ok,hb,Sem.run_pure]
theorem U4 {op:BinOp} {neg:Bool} {t t':TypeId} {x y:Operand} {x' y':X} {u v:AV} {r:Bool} {ms:Array (String × TypeId)} (ho:o.op = .binOp op t x y t') (hop:op=if neg then .neq else .eql) (hT:P.underlying t=some (.interface ms)) (hx:gh x=some x') (hy:gh y=some y')
  (ex:evX tm x'=some u) (ey:evX tm y'=some v) (hr:Km y'.isC u v=some r) (ht:ga g s w tm a.tmps.toList):RD P g s w a o (.bool (neg ^^ r)):=by
 have h1:=fx hx ex ht
 have h2:=fx hy ey ht
 refine⟨.bool (neg ^^ r), ?_,.v rfl⟩
 unfold Km at hr
 split at hr
 ·rename_i T _
  obtain⟨c,h2,_⟩:=h2.tc
  have h1:=h1.ke
  simp only[fe]at hr;subst hr
  have hb:=r6 (P:=P) (w:=w) (t:=t) (p:=.nilIface) (q:=.iface T c) (r:=false) hop ⟨by simp,by simp,by simp,by simp⟩ (Gy hT 9999)
  simp only[execOp,ho,h1,h2,Sem.run_bind,np (P:=P) (u:=.nilIface) (v:=.iface T c) (by simp) (by simp),Result.andThen_ok,hb,Sem.run_pure]
 ·rename_i T _
  obtain⟨c,h1,_⟩:=h1.tc
  have h2:=h2.ke
  simp only[fe]at hr;subst hr
  have hb:=r6 (P:=P) (w:=w) (t:=t) (p:=.iface T c) (q:=.nilIface) (r:=false) hop ⟨by simp,by simp,by simp,by simp⟩ (Hg hT 9999)
  simp only[execOp,ho,h1,h2,Sem.run_bind,np (P:=P) (u:=.iface T c) (v:=.nilIface) (by simp) (by simp),Result.andThen_ok,hb,Sem.run_pure]
 ·have h1:=h1.ke
  have h2:=h2.ke
  split at hr
  ·rename_i hC
   simp only[fe]at hr;subst hr
   have hyc:∃c,y = .const c:=by
    cases y with
    | const c=>exact⟨c,rfl⟩
    | tmp t=>simp only[gh,fe]at hy;subst hy;simp[X.isC]at hC
    | func f=>simp only[gh,fe]at hy;subst hy;simp[evX]at ey
    | global _=>simp[gh]at hy
   obtain⟨c,rfl⟩:=hyc
   have hb:=r6 (P:=P) (w:=w) (t:=t) (p:=.nilIface) (q:=.nilIface) (r:=true) hop ⟨by simp,by simp,by simp,by simp⟩ (I6 hT 9999)
   have hgd:(eqGuard op t x (.const c) .nilIface .nilIface).run P w = .ok () w:=by
    unfold eqGuard
    cases op<;>simp[Sem.run_pure]
   simp only[execOp,ho,h1,h2,Sem.run_bind,hgd,Result.andThen_ok,hb,Sem.run_pure]
  ·simp at hr
 ·simp at hr
theorem Vh {op:BinOp} {neg:Bool} {t t' e:TypeId} {x y:Operand} {x' y':X} {u v:AV} {r:Bool} (ho:o.op = .binOp op t x y t') (hop:op=if neg then .neq else .eql) (hT:P.underlying t=some (.slice e)) (hx:gh x=some x') (hy:gh y=some y')
  (ex:evX tm x'=some u) (ey:evX tm y'=some v) (hr:Kq u v=some r) (ht:ga g s w tm a.tmps.toList):RD P g s w a o (.bool (neg ^^ r)):=by
 have h1:=fx hx ex ht
 have h2:=fx hy ey ht
 refine⟨.bool (neg ^^ r), ?_,.v rfl⟩
 have key:∃p n m k l,a.eval x = .slice p n m/\a.eval y = .slice none k l/\r=p.isNone:=by
  unfold Kq at hr
  split at hr
  all_goals try (simp at hr;done)
  all_goals
   simp only[fe]at hr;subst hr
   obtain⟨y',k,_,_,_,e2,_,_,_,_,e4⟩:=h2.n8
   obtain⟨rfl,_,rfl⟩:=e4
  ·obtain⟨x',n,_,_,_,e1,_,_,_,_,e3⟩:=h1.n8
   obtain⟨rfl,_,rfl⟩:=e3
   exact⟨_,_,_,_,_,e1,e2,rfl⟩
  ·obtain⟨x',n,_,_,_,e1,_,_,e3,_⟩:=h1.n8
   exact⟨_,_,_,_,_,e1,e2,by rw[e3 (by simp)];rfl⟩
  ·obtain⟨b,cap,_,e1,_⟩:=h1.wc
   exact⟨_,_,_,_,_,e1,e2,rfl⟩
 obtain⟨p,n,m,k,l,e1,e2,rfl⟩:=key
 have hb:=r6 (P:=P) (w:=w) (t:=t) (p:=.slice p n m) (q:=.slice none k l) (r:=p.isNone) hop ⟨by simp,by simp,by simp,by simp⟩ (F8 hT 9999 p n m k l)
 simp only[execOp,ho,e1,e2,Sem.run_bind,np (P:=P) (u:=.slice p n m) (v:=.slice none k l) (by simp) (by simp),Result.andThen_ok,hb,Sem.run_pure]
theorem a6h {op:UnOp} {t:TypeId} {x:Operand} {y:X} {u v:AV} (ho:o.op = .unOp op t x) (hx:gh x=some y) (he:evX tm y=some u) (hu:unA op u=some v) (ht:ga g s w tm a.tmps.toList):RD P g s w a o v:=by
 have h:=fx hx he ht
 unfold unA at hu
 split at hu
 ·simp only[fe]at hu;subst hu
  have h:=h.ke
  exact⟨_,by simp[execOp,ho,h,Op.unary,Op.intArith],.v rfl⟩
 ·simp only[fe]at hu;subst hu
  have h:=h.ke
  exact⟨_,by simp[execOp,ho,h,Op.unary],.v rfl⟩
 ·simp at hu
theorem a0v {t t':TypeId} {k k' k0:IntKind} {n:Int} {x:Operand} {y:X} (ho:o.op = .convert t t' x) (hs:P.underlying t=some (.int k0)) (hd:P.underlying t'=some (.int k)) (hx:gh x=some y) (he:evX tm y=some (.v (.int k' n)))
  (ht:ga g s w tm a.tmps.toList):RD P g s w a o (.v (.int k (k.wrap n))):=by
 have h:=(fx hx he ht).ke
 exact⟨_,by simp[execOp,ho,h,convert,gu hs,gu hd,Conv.intToInt],.v rfl⟩
theorem Ze {t:TypeId} {d:TypeDesc} {x:Operand} {y:X} {v:AV} (ho:o.op = .makeInterface t x) (hT:P.underlying t=some d) (hd:∀ms,d ≠ .interface ms) (hx:gh x=some y) (he:evX tm y=some v)
  (ht:ga g s w tm a.tmps.toList):RD P g s w a o (.iface t v):=by
 refine⟨.iface t (a.eval x), ?_,.iface (fx hx he ht)⟩
 simp only[execOp,ho,Instr.makeInterface,Sem.run_bind,gu hT,Result.andThen_ok]
 cases d<;>first|rfl|exact absurd rfl (hd _)
theorem B6 {xs:List Operand} {ys:List X} {vs:List AV} (h:il gh xs=some ys) (he:il (evX tm) ys=some vs) (ht:ga g s w tm a.tmps.toList):ga g s w vs (xs.map a.eval):=by
 obtain⟨h1,h2⟩:=sx h
 obtain⟨h3,h4⟩:=sx he
 refine⟨by simp[h1,h3],λk v c hv hc => ?_⟩
 rw[bh]at hc
 cases hx:xs[k]? with
 | none=>simp[hx]at hc
 | some x=>
  simp[hx]at hc;subst hc
  have hk:k<ys.length:=by rw[<- h1];exact(List.getElem?_eq_some_iff.1 hx).1
  have hy:ys[k]? = some ys[k]:=aa hk
  exact fx (h2 k x _ hx hy) (h4 k _ v hy hv) ht
theorem X3 {f:FuncId} {first caps:Array Operand} {ys:List X} {vs:List AV} (ho:o.op = .makeFunc (.func f) first caps) (hf:caps.size=0) (hx:il gh first.toList=some ys) (he:il (evX tm) ys=some vs)
  (ht:ga g s w tm a.tmps.toList):RD P g s w a o (.bm f vs):=by
 have h:=B6 hx he ht
 have hf':caps = #[]:=by simpa using hf
 refine⟨.func (.func f) (first.toList.map a.eval).toArray #[], ?_,.bm _ h.1 h.2⟩
 simp[execOp,ho,Instr.makeFunc,hf']
 rw[<- dx (xs:=Array.map a.eval first)];simp
theorem a0m {f:FuncId} {first caps:Array Operand} {ys:List X} {vs:List AV} (ho:o.op = .makeFunc (.func f) first caps) (hf:first.size=0) (hx:il gh caps.toList=some ys) (he:il (evX tm) ys=some vs)
  (ht:ga g s w tm a.tmps.toList):RD P g s w a o (.fn f vs):=by
 have h:=B6 hx he ht
 have hf':first = #[]:=by simpa using hf
 refine⟨.func (.func f) #[] (caps.toList.map a.eval).toArray, ?_,.fn _ h.1 h.2⟩
 simp[execOp,ho,Instr.makeFunc,hf']
 rw[<- dx (xs:=Array.map a.eval caps)];simp
end
end Go.Proofs.Eng
namespace Go.Proofs.Eng
open Go.RowKit
variable [DrK]
section
variable {P:Program} {g:Gh} {s:ASt} {w:World}
theorem ks (w:World) (ob:Obj):(w.alloc ob).heap.size=w.heap.size+1:=Array.size_push ..
theorem je (w:World) (ob:Obj):(w.alloc ob).heap[w.heap.size]? = some ob:=Array.getElem?_push_size ..
theorem Dn (w:World) (ob:Obj) (b o:Nat) (h:b<w.heap.size):(w.alloc ob).cell? ⟨b,o,none⟩=w.cell? ⟨b,o,none⟩:=by
 exact World.cell?_of_block (w:=w) (a:=⟨b,o,none⟩) (Below.heap_alloc w ob b h)
theorem Inv.jb {w':World} (hI:Inv g s w) (e:Ext g s w g s w') (hb:∀b,g.has b->w'.heap[b]? = w.heap[b]?):Inv g s w' where
 lt i b h:=⟨(hI.lt i b h).1,dq (hI.lt i b h).2 e.size⟩
 inj:=hI.inj
 obj i b o h ho:=by
  have:=hI.obj i b o h ho
  have hbk:=hb b (.inl ⟨i,h⟩)
  cases o with
  | cells fz l=>obtain⟨cs,el,h1,h2⟩:=this;exact⟨cs,el,h1.imp λ_ h=>hbk.trans h,h2.mono e⟩
  | map es=>obtain⟨ents,clk,h1,h2,h3⟩:=this;exact⟨ents,clk,hbk.trans h1,h2.mono e,h3.mono e⟩
  | dead=>trivial
 rf id o h:=by
  obtain⟨h1,h2,c,el,h3,h4⟩:=hI.rf id o h
  exact⟨h1,h2,c,el,(hb _ (.inr ⟨id,o,h,rfl⟩)).trans h3,h4⟩
 og:=hI.og
 s8:=hI.s8
 u5 b o h:=dq (hI.u5 b o h) e.size
 vg:=hI.vg
 u9:=hI.u9
 kn:=hI.knE e
theorem Ext.same {w':World} (hs:w.heap.size<=w'.heap.size) (hb:∀b,b<w.heap.size->w'.heap[b]? = w.heap[b]?) (h1:w'.os=w.os) (h2:w'.tape=w.tape) (h3:w'.output=w.output/\(DrK.d->w.drawn<=w'.drawn)):Ext g s w g s w' where
 mu _ _ h:=h
 T _ v h:=⟨v,h,di _,λ_=>rfl⟩
 size:=hs
 sz:=.same hb
 cell b o hlt _:=World.cell?_of_block (w:=w) (a:=⟨b,o,none⟩) (hb b hlt)
 wr _ _ _ h:=h
 obj b hlt h:=⟨hb b hlt,h⟩
 fb:=rfl
 os:=h1
 tape:=h2
 output:=h3
theorem Inv.same {w':World} (hI:Inv g s w) (hs:w.heap.size<=w'.heap.size) (hb:∀b,b<w.heap.size->w'.heap[b]? = w.heap[b]?) (h1:w'.os=w.os) (h2:w'.tape=w.tape) (h3:w'.output=w.output/\(DrK.d->w.drawn<=w'.drawn)):Inv g s w':=
 hI.jb (Ext.same hs hb h1 h2 h3) λb h=>hb b (hI.yb h)
theorem Ext.alloc (g:Gh) (s:ASt) (w:World) (ob:Obj):Ext g s w g s (w.alloc ob):=.same (by rw[ks];omega) (λb h=>Below.heap_alloc w ob b h) rfl rfl ⟨rfl,λ_=>di _⟩
theorem Inv.alloc (hI:Inv g s w) (ob:Obj):Inv g s (w.alloc ob):=hI.same (by rw[ks];omega) (λb h=>Below.heap_alloc w ob b h) rfl rfl ⟨rfl,λ_=>di _⟩
theorem Ext.drawn (g:Gh) (s:ASt) (w:World) (n:Nat) (hn:w.drawn<=n:=by omega):Ext g s w g s {w with drawn:=n}:=.same (di _) (λ_ _=>rfl) rfl rfl ⟨rfl,λ_=>hn⟩
theorem Inv.drawn (hI:Inv g s w) (n:Nat) (hn:w.drawn<=n:=by omega):Inv g s {w with drawn:=n}:=hI.same (di _) (λ_ _=>rfl) rfl rfl ⟨rfl,λ_=>hn⟩
theorem Mp (hI:Inv g s w) (cs:List Value) (t:TypeId) (k:Nat) (c:Value) (hk:cs[k]? = some c):oi g s (w.alloc (.cells cs.toArray t)) w.heap.size (0+k) c:=by
 refine⟨?_,λh => ?_⟩
 ·show (match (w.heap.push (Obj.cells cs.toArray t))[w.heap.size]? with|some (.cells c _ _)=>if (none:Option Nat).isSome then none else c[0+k]? | _=>none)=some c
  rw[Array.getElem?_push_size]
  simpa using hk
 ·exact absurd (hI.Cf h) (Nat.lt_irrefl _)
theorem Xn (hI:Inv g s w) (ob:fq) {b o:Nat} (h:g.wr {s with H:=s.H++[ob]} b o):g.wr s b o:=by
 rcases h with⟨i,l,h1,h2⟩|h
 ·refine .inl ⟨i,l,h1, ?_⟩
  rwa [ae (hI.lt i b h1).1]at h2
 ·exact .inr h
theorem Ext.grow (hI:Inv g s w) (ob:fq):Ext g s w g {s with H:=s.H++[ob]} w where
 mu _ _ h:=h
 T _ v h:=⟨v,h,di _,λ_=>rfl⟩
 size:=di _
 sz:=.refl _
 cell _ _ _ _:=rfl
 wr _ _ _ h h':=h (Xn hI ob h')
 obj _ _ h:=⟨rfl,h⟩
 fb:=rfl
 os:=rfl
 tape:=rfl
 output:=⟨rfl,λ_=>di _⟩
theorem Inv.grow (hI:Inv g s w) (ob:fq):Inv g {s with H:=s.H++[ob]} w where
 lt i b h:=⟨by simp;exact Nat.lt_succ_of_lt (hI.lt i b h).1,(hI.lt i b h).2⟩
 inj i j b h h':=by
  show i=j\/(s.H++[ob])[i]? = some .dead\/(s.H++[ob])[j]? = some .dead
  rw[ae (hI.lt i b h).1,ae (hI.lt j b h').1]
  exact hI.inj i j b h h'
 obj i b o h ho:=by
  rw[ae (hI.lt i b h).1]at ho
  have:=hI.obj i b o h ho
  have e:=Ext.grow hI ob
  cases o with
  | cells fz l=>obtain⟨cs,el,h1,h2⟩:=this;exact⟨cs,el,h1,h2.mono e⟩
  | map es=>obtain⟨ents,clk,h1,h2,h3⟩:=this;exact⟨ents,clk,h1,h2.mono e,h3.mono e⟩
  | dead=>trivial
 rf:=hI.rf
 og:=hI.og
 s8:=hI.s8
 u5 b o h:=hI.u5 b o h
 vg:=hI.vg
 u9:=hI.u9
 kn:=hI.knE (Ext.grow hI ob)
theorem oe (hI:Inv g s w):g.mu s.H.length=none:=by
 cases h:g.mu s.H.length with
 | none=>rfl
 | some b=>exact absurd (hI.lt _ _ h).1 (Nat.lt_irrefl _)
def Gh.bind (g:Gh) (i b:Nat):Gh:={g with mu:=λj=>if j=i then some b else g.mu j}
theorem Ext.bind (hI:Inv g s w) {i:Nat} (hi:g.mu i=none) (ob:Obj):Ext g s w (g.bind i w.heap.size) s (w.alloc ob) where
 mu j b h:=by
  simp only[Gh.bind];split
  ·subst j;rw[hi]at h;cases h
  ·exact h
 T _ v h:=⟨v,h,di _,λ_=>rfl⟩
 size:=by rw[ks];omega
 sz:=.same λb hb=>Below.heap_alloc w ob b hb
 cell b o hlt _:=Dn w ob b o hlt
 wr b o hlt h h':=by
  rcases h' with⟨j,l,h1,h2⟩|h'
  ·simp only[Gh.bind]at h1
   split at h1
   ·cases h1;omega
   ·exact h (.inl ⟨j,l,h1,h2⟩)
  ·exact h (.inr h')
 obj b hlt h:=⟨Below.heap_alloc w ob b hlt,λh'=>by
  rcases h' with⟨j,h1⟩|h'
  ·simp only[Gh.bind]at h1
   split at h1
   ·cases h1;omega
   ·exact h (.inl ⟨j,h1⟩)
  ·exact h (.inr h')⟩
 fb:=rfl
 os:=rfl
 tape:=rfl
 output:=⟨rfl,λ_=>di _⟩
theorem Inv.bind (hI:Inv g s w) {i:Nat} (hi:g.mu i=none) (hlt:i<s.H.length) (ob:Obj)
  (hob:∀a,s.H[i]? = some a->Ih (g.bind i w.heap.size) s (w.alloc ob) w.heap.size a):Inv (g.bind i w.heap.size) s (w.alloc ob) where
 lt j b h:=by
  simp only[Gh.bind]at h
  split at h
  ·cases h;subst j;exact⟨hlt,by rw[ks];omega⟩
  ·exact⟨(hI.lt j b h).1,by have:=(hI.lt j b h).2;rw[ks];omega⟩
 inj j k b h h':=by
  simp only[Gh.bind]at h h'
  split at h<;>split at h'
  ·subst j;subst k;exact .inl rfl
  ·cases h;exact absurd (hI.lt k _ h').2 (Nat.lt_irrefl _)
  ·cases h';exact absurd (hI.lt j _ h).2 (Nat.lt_irrefl _)
  ·exact hI.inj j k b h h'
 obj j b o h ho:=by
  simp only[Gh.bind]at h
  split at h
  ·cases h;subst j;exact hob o ho
  ·have:=hI.obj j b o h ho
   have e:=Ext.bind hI hi ob
   have hb:=Below.heap_alloc w ob b (hI.lt j b h).2
   cases o with
   | cells fz l=>obtain⟨cs,el,h1,h2⟩:=this;exact⟨cs,el,h1.imp λ_ h=>hb.trans h,h2.mono e⟩
   | map es=>obtain⟨ents,clk,h1,h2,h3⟩:=this;exact⟨ents,clk,hb.trans h1,h2.mono e,h3.mono e⟩
   | dead=>trivial
 rf id o h:=by
  obtain⟨h1,h2,c,el,h3,h4⟩:=hI.rf id o h
  exact⟨h1,h2,c,el,(Below.heap_alloc w ob _ (Array.getElem?_eq_some_iff.1 h3).1).trans h3,h4⟩
 og:=hI.og
 s8 id o j h h':=by
  simp only[Gh.bind]at h'
  split at h'
  ·simp only[fe]at h'
   obtain⟨_,_,c,el,h3,_⟩:=hI.rf id o h
   have:=(Array.getElem?_eq_some_iff.1 h3).1
   omega
  ·exact hI.s8 id o j h h'
 u5 b o h:=by have:=hI.u5 b o h;rw[ks];omega
 vg j b o h hf:=by
  simp only[Gh.bind]at h
  split at h
  ·cases h;exact absurd (hI.u5 _ _ hf) (Nat.lt_irrefl _)
  ·exact hI.vg j b o h hf
 u9:=hI.u9
 kn:=hI.knE (Ext.bind hI hi ob)
theorem Gq (hI:Inv g s w) {l:List AV} {cs:List Value} (hr:ga g s w l cs) (t:TypeId) :
  let s':ASt:={s with H:=s.H++[.cells false l]}
  let g':=g.bind s.H.length w.heap.size
  let w':=w.alloc (.cells cs.toArray t)
  Inv g' s' w'/\Ext g s w g' s' w'/\Rep g' s' w' (.ptr s.H.length 0) (.pointer (some ⟨w.heap.size,0,none⟩)):=by
 intro s' g' w'
 have hg:=hI.grow (.cells false l)
 have eg:=Ext.grow hI (.cells false l)
 have hn:=oe hI
 have eb:=Ext.bind hg hn (.cells cs.toArray t)
 refine⟨hg.bind hn (by simp) _ λa ha => ?_,eg.trans eb,.ptr (by simp[g',Gh.bind])⟩
 simp at ha
 subst ha
 exact⟨cs,t,⟨[],by simpa using je _ _⟩,(hr.mono eg).mono eb⟩
theorem Ext.write (hI:Inv g s w) {i b:Nat} {ob:fq} {w':World} (hz:x9 w w') (hi:g.mu i=some b) (hob:(∃l l',s.H[i]? = some (.cells false l)/\ob = .cells false l')\/(∃m m',s.H[i]? = some (.map m)/\ob = .map m'))
  (hs:w'.heap.size=w.heap.size) (hb:∀c,c ≠ b->w'.heap[c]? = w.heap[c]?) (hm:(∃m,s.H[i]? = some (.map m)) -> ∀o,w'.cell? ⟨b,o,none⟩=w.cell? ⟨b,o,none⟩) (h1:w'.os=w.os) (h2:w'.tape=w.tape) (h3:w'.output=w.output/\(DrK.d->w.drawn<=w'.drawn)) :
  Ext g s w g {s with H:=s.H.set i ob} w' where
 mu _ _ h:=h
 T _ v h:=⟨v,h,di _,λ_=>rfl⟩
 size:=Nat.le_of_eq hs.symm
 sz:=hz
 cell c o _ h:=by
  by_cases hc:c=b
  ·subst hc
   rcases hob with⟨l,l',hl,_⟩|⟨m,m',hl,_⟩
   ·exact absurd (.inl ⟨i,l,hi,hl⟩) h
   ·exact hm ⟨m,hl⟩ o
  ·exact World.cell?_of_block (w:=w) (a:=⟨c,o,none⟩) (hb c hc)
 wr c o _ h h':=by
  rcases h' with⟨j,l,e1,e2⟩|h'
  ·by_cases hj:j=i
   ·subst hj
    rcases hob with⟨l0,l',hl,_⟩|⟨m,m',hl,rfl⟩
    ·exact h (.inl ⟨j,l0,e1,hl⟩)
    ·rw[b9]at e2
     simp only[if_true]at e2
     split at e2<;>simp at e2
   ·rw[b9,if_neg (Ne.symm hj)]at e2
    exact h (.inl ⟨j,l,e1,e2⟩)
  ·exact h (.inr h')
 obj c _ h:=⟨hb c λe=>h (.inl ⟨i,by rw[hi,e]⟩),h⟩
 fb:=rfl
 os:=h1
 tape:=h2
 output:=h3
theorem Inv.write (hI:Inv g s w) {i b:Nat} {ob:fq} {w':World} (hi:g.mu i=some b) (hd:s.H[i]? ≠ some .dead) (e:Ext g s w g {s with H:=s.H.set i ob} w')
  (hb:∀c,c ≠ b->w'.heap[c]? = w.heap[c]?) (hr:Ih g {s with H:=s.H.set i ob} w' b ob):Inv g {s with H:=s.H.set i ob} w' where
 lt j c h:=⟨by simpa using (hI.lt j c h).1,dq (hI.lt j c h).2 e.size⟩
 inj j k c h h':=by
  have key:∀m:Nat,s.H[m]? = some .dead->(s.H.set i ob)[m]? = some .dead:=λm hm=>by
   rw[b9,if_neg (λe=>hd (by rw[e];exact hm))];exact hm
  rcases hI.inj j k c h h' with h1|h1|h1
  ·exact .inl h1
  ·exact .inr (.inl (key j h1))
  ·exact .inr (.inr (key k h1))
 obj j c o h ho:=by
  by_cases hj:j=i
  ·subst hj
   rw[hi]at h;cases h
   rw[b9]at ho
   simp only[if_true]at ho
   split at ho
   ·cases ho;exact hr
   ·cases ho
  ·rw[b9,if_neg (Ne.symm hj)]at ho
   by_cases hod:o = .dead
   ·subst hod;trivial
   have hcb:c ≠ b:=λe=>by
    rcases hI.inj j i c h (by rw[hi,e])with h1|h1|h1
    ·exact hj h1
    ·rw[ho]at h1;exact hod (Option.some.inj h1)
    ·exact hd h1
   have:=hI.obj j c o h ho
   cases o with
   | cells fz l=>obtain⟨cs,el,h1,h2⟩:=this;exact⟨cs,el,h1.imp λ_ h=>(hb c hcb).trans h,h2.mono e⟩
   | map es=>obtain⟨ents,clk,h1,h2,h3⟩:=this;exact⟨ents,clk,(hb c hcb).trans h1,h2.mono e,h3.mono e⟩
   | dead=>trivial
 rf id o h:=by
  obtain⟨h1,h2,c,el,h3,h4⟩:=hI.rf id o h
  exact⟨h1,h2,c,el,(hb _ λe=>hI.s8 id o i h (by rw[hi,e])).trans h3,h4⟩
 og:=hI.og
 s8:=hI.s8
 u5 b o h:=dq (hI.u5 b o h) e.size
 vg:=hI.vg
 u9:=hI.u9
 kn:=hI.knE e
end
end Go.Proofs.Eng
namespace Go.Proofs.Eng
open Go.RowKit
variable [DrK]
section
variable {P:Program} {g:Gh} {s:ASt} {w:World} {tm:List AV} {a:Act} {o:Oper}
theorem Lq {α:Type} (l:List α) (o:Nat) (x:α) (xs:List α) (h:o<l.length):setAt l o (x::xs)=setAt (l.set o x) (o+1) xs:=by
 unfold setAt
 have h1:(l.set o x).take (o+1)=l.take o++[x]:=by
  rw[bj,List.take_set_of_le (by omega)]
  simp[h]
 have h2:(l.set o x).drop (o+1+xs.length)=l.drop (o+1+xs.length):=List.drop_set_of_lt (by omega)
 rw[h1,h2]
 simp[dv,Nat.add_comm 1]
theorem E0:∀(xs:List Value) (off k:Nat) (cells:Array Value),off+k+xs.length<=cells.size ->
  ((xs.zipIdx k).foldl (λcs (cj:Value × Nat)=>cs.setIfInBounds (off+cj.2) cj.1) cells).toList=setAt cells.toList (off+k) xs
 | [],off,k,cells,_=>by simp[setAt]
 | x::xs,off,k,cells,h=>by
  simp only[ak]at h
  simp only[List.zipIdx_cons,dc]
  rw[E0 xs off (k+1) _ (by simp;omega),Lq _ _ _ _ (by simp;omega)]
  simp[dv]
theorem ga.setAt {l m:List AV} {cs ds:List Value} (h:ga g s w l cs) (k:ga g s w m ds) (o:Nat):ga g s w (setAt l o m) (Go.Proofs.Eng.setAt cs o ds):=by
 unfold Go.Proofs.Eng.setAt
 rw[<- k.1]
 exact((h.take o).append k).append (h.drop _)
theorem Dv {place:Nat->Option (Nat × Nat)} (ht:ga g s w tm a.tmps.toList):∀{parts:List (Nat × Operand)} {ps:List (Nat × Nat × X)} {cells:List AV} {vc:Array Value} {r:List AV},
  il (th place) parts=some ps->ui tm cells ps=some r->ga g s w cells vc.toList ->
  ∃rc:Array Value,Instr.fill place vc (parts.map λ(i,x)=>(i,a.eval x))=some rc/\ga g s w r rc.toList
 | [],ps,cells,vc,r,h,hf,hr=>by
  simp only[il,fe]at h;subst h
  simp only[ui,fe]at hf;subst hf
  exact⟨vc,rfl,hr⟩
 | (i,x)::parts,ps,cells,vc,r,h,hf,hr=>by
  simp only[il]at h
  split at h
  ·rename_i y hy
   split at h
   ·rename_i ys hys
    simp only[fe]at h;subst h
    unfold th at hy
    split at hy
    ·rename_i off n X hp hX
     simp only[fe]at hy;subst hy
     simp only[ui]at hf
     split at hf
     ·rename_i v hv
      split at hf
      ·rename_i hc
       obtain⟨hc1,hc2,hc3⟩:=hc
       have hrv:=(fx hX hv ht).cells (by intro e;rw[e]at hc3;simp[AV.known]at hc3)
       have hlen:(a.eval x).cells.size=n:=by have:=hrv.1;rw[hc1]at this;simpa using this.symm
       have hsz:off+n<=vc.size:=by have:=hr.1;simp at this;omega
       have hset:=hr.setAt hrv off
       have hfold:=E0 (a.eval x).cells.toList off 0 vc (by simp;omega)
       simp only[Nat.add_zero]at hfold
       rw[<- hfold]at hset
       obtain⟨rc,h1,h2⟩:=Dv ht hys hf hset
       refine⟨rc, ?_,h2⟩
       simp only[bq,Instr.fill]
       simp only at hp
       rw[hp]
       simp only[hlen,ne_eq,not_true,decide_false,Bool.false_or,decide_eq_true_eq,show ¬off+n>vc.size by omega,if_false]
       have e:(a.eval x).cells.zipIdx.foldl (λcs (x:Value × Nat)=>cs.setIfInBounds (off+x.2) x.1) vc=((a.eval x).cells.toList.zipIdx 0).foldl (λcs (cj:Value × Nat)=>cs.setIfInBounds (off+cj.2) cj.1) vc:=by
        rw[<- Array.foldl_toList,Array.toList_zipIdx]
       rw[e]
       exact h1
      ·simp at hf
     ·simp at hf
    ·simp at hy
   ·simp at h
  ·simp at h
theorem Ix {t:TypeId} {parts:Array (Nat × Operand)} {zv:Value} {it:TypeInfo} {z:List AV} {place:Nat->Option (Nat × Nat)} {ps:List (Nat × Nat × X)} {r:List AV} (ho:o.op = .build t parts)
  (hi:P.info? t=some it) (hz:it.zero=some zv) (hzz:ofConst zv=some (.agg z)) (hp:il (th place) parts.toList=some ps) (hf:ui tm z ps=some r)
  (hb:∀vs,P.built t vs=Instr.fill place zv.cells vs) (ht:ga g s w tm a.tmps.toList):RD P g s w a o (.agg r):=by
 have hzr:ga g s w z zv.cells.toList:=(l7 (g:=g) (s:=s) (w:=w) hzz).cells (by simp)
 obtain⟨rc,h1,h2⟩:=Dv ht hp hf hzr
 refine⟨.agg rc, ?_, ?_⟩
 ·have:=run_build (P:=P) w t (parts.map λ(i,x)=>(i,a.eval x)) rc (by rw[hb];simpa using h1)
  simp[execOp,ho,this]
 ·have:=Rep.agg (g:=g) (s:=s) (w:=w) rc.toList h2.1 h2.2
  simpa using this
theorem Jh {t:TypeId} {fs:Array Field} {fd:Field} {f:Nat} {x:Operand} {y:X} {ag:Bool} {n:Nat} {pv v:AV} (ho:o.op = .fieldAddr t x f) (hT:P.underlying t=some (.struct fs)) (hf:fs[f]? = some fd) (hA:ru P fd.type=some (ag,n))
  (hx:gh x=some y) (he:evX tm y=some pv) (hv:(∃i off,pv = .ptr i off/\v = .ptr i (off+fd.offset))\/(∃l off,pv = .ip l off/\v = .ip l (off+fd.offset)))
  (ht:ga g s w tm a.tmps.toList):RD P g s w a o v:=by
 have h:=fx hx he ht
 obtain⟨_,_,_,_,i',hi',hn'⟩:=jm hA
 have key:∀b off,(fieldPlace ⟨b,off,none⟩ fd).run P w = .ok ⟨b,off+fd.offset,none⟩ w:=by
  intro b off
  obtain⟨_,h2,h3,_⟩:=jm hA
  simp[fieldPlace,h2,show ¬n=0 by omega,l5]
 rcases hv with⟨i,off,rfl,rfl⟩|⟨l,off,rfl,rfl⟩
 ·obtain⟨b,h1,hu⟩:=h.mj
  exact⟨_,by simp[execOp,ho,hu,Instr.fieldAt,gu hT,hf,Instr.sureAddr,key],.ptr h1⟩
 ·obtain⟨b,oo,cs,hu,h1,h2⟩:=h.Bq
  exact⟨_,by simp[execOp,ho,hu,Instr.fieldAt,gu hT,hf,Instr.sureAddr,key,dv],.ip cs h1.1 h1.2 h2⟩
theorem lh {l:List AV} {es:Nat} (h:∀x ∈ l,x.cells.length=es):(flat l).length=l.length*es:=by
 induction l with
 | nil=>simp[flat]
 | cons x l ih=>
  have:=ih λy hy=>h y (by simp[hy])
  unfold flat at this ⊢
  simp only[List.flatMap_cons,ah,ak,h x (by simp),this,Nat.succ_mul]
  omega
theorem flat_get {es:Nat}:∀{l:List AV} (h:∀x ∈ l,x.cells.length=es) {n j:Nat} {e:AV},l[n]? = some e->j<es->(flat l)[n*es+j]? = e.cells[j]?
 | [],_,n,j,e,he,_=>by simp at he
 | x::l,h,0,j,e,he,hj=>by
  simp at he;subst he
  unfold flat
  rw[List.flatMap_cons,ae (by rw[h x (by simp)];omega)]
  simp
 | x::l,h,n+1,j,e,he,hj=>by
  have:=flat_get (l:=l) (λy hy=>h y (by simp[hy])) (n:=n) (j:=j) (e:=e) (by simpa using he) hj
  unfold flat at this ⊢
  rw[List.flatMap_cons,af (by rw[h x (by simp),Nat.succ_mul];omega),h x (by simp),<- this]
  congr 1
  rw[Nat.succ_mul];omega
theorem Db {l:List AV} {es:Nat} (h:(l.all λx=>x.cells.length==es)=true):∀x ∈ l,x.cells.length=es:=by
 intro x hx;have:=aw.1 h x hx;simpa using this
theorem Qy {t e:TypeId} {x ix:Operand} {x' ix':X} {ag:Bool} {es:Nat} {l:List AV} {tl:Tl} {k:IntKind} {n:Int} {el:AV} (ho:o.op = .indexAddr t x ix) (hT:P.underlying t=some (.slice e)) (hA:ru P e=some (ag,es))
  (hx:gh x=some x') (hix:gh ix=some ix') (ex:evX tm x'=some (.sl l tl)) (eix:evX tm ix'=some (.v (.int k n))) (hn:0<=n) (hl:(l.all λx=>x.cells.length==es)=true) (hel:l[n.toNat]? = some el)
  (ht:ga g s w tm a.tmps.toList):RD P g s w a o (.ip el.cells 0):=by
 obtain⟨p,cap,b,off,cs,hu,hr,hc,hp,_,_⟩:=(fx hx ex ht).n8
 have hi:=(fx hix eix ht).ke
 obtain⟨_,h2,h3,_⟩:=jm hA
 have hl':=Db hl
 have hlt:n.toNat<l.length:=(List.getElem?_eq_some_iff.1 hel).1
 have hpe:=hp (by rintro rfl;simp at hlt)
 have hee:el.cells.length=es:=hl' el (aq hel)
 have hfl:=lh hl'
 have hle:n.toNat*es+es<=l.length*es:=by
  have:(n.toNat+1)*es<=l.length*es:=Nat.mul_le_mul_right _ hlt
  rw[Nat.succ_mul]at this;exact this
 have hcsl:cs.length=l.length*es:=by rw[<- hr.1,hfl]
 refine⟨.pointer (some ⟨b,off+n.toNat*es+0,none⟩), ?_, ?_⟩
 ·subst hpe
  simp only[execOp,ho,hu,hi,Instr.indexAt,asIntOf,Sem.run_bind,Sem.run_pure,Result.andThen_ok,gu hT]
  simp only[show (0<=n/\n<(l.length:Int))from⟨hn,by omega⟩,and_self,if_true,Sem.run_bind,h2,Result.andThen_ok,Sem.run_pure,l5]
  rfl
 ·refine .ip ((cs.drop (n.toNat*es)).take es) (by simp[hee,hcsl];omega) (λj a' c hj hcj => ?_) (λj c hj => ?_)
  ·have hjl:j<es:=by rw[<- hee];exact(List.getElem?_eq_some_iff.1 hj).1
   rw[bc,if_pos hjl,ba]at hcj
   exact hr.2 _ a' c (by rw[flat_get hl' hel hjl];exact hj) hcj
  ·rw[bc]at hj
   split at hj
   ·rw[ba]at hj
    have:=hc _ _ hj
    rwa [<- dv]at this
   ·simp at hj
theorem Qr {t e:TypeId} {x ix:Operand} {x' ix':X} {ag ag':Bool} {es i off len:Nat} {k:IntKind} {n:Int} (ho:o.op = .indexAddr t x ix) (hT:P.underlying t=some (.slice e)) (hA:ru P e=some (ag,es))
  (hx:gh x=some x') (hix:gh ix=some ix') (ex:evX tm x'=some (.bs i off len es ag')) (eix:evX tm ix'=some (.v (.int k n))) (hn:0<=n) (hl:n<len)
  (ht:ga g s w tm a.tmps.toList):RD P g s w a o (.ptr i (off+n.toNat*es)):=by
 obtain⟨b,cap,hb,hu,_,_⟩:=(fx hx ex ht).wc
 have hi:=(fx hix eix ht).ke
 obtain⟨_,h2,h3,_⟩:=jm hA
 refine⟨.pointer (some ⟨b,off+n.toNat*es,none⟩), ?_,.ptr hb⟩
 simp only[execOp,ho,hu,hi,Instr.indexAt,asIntOf,Sem.run_bind,Sem.run_pure,Result.andThen_ok,gu hT]
 simp only[show (0<=n/\n<(len:Int))from⟨hn,hl⟩,and_self,if_true,Sem.run_bind,h2,Result.andThen_ok,Sem.run_pure,l5]
theorem Gr {t e:TypeId} {x ix:Operand} {x' ix':X} {ag:Bool} {es len:Nat} {pv v:AV} {k:IntKind} {n:Int} (ho:o.op = .indexAddr t x ix) (hT:P.underlying t=some (.array len e)) (hA:ru P e=some (ag,es))
  (hx:gh x=some x') (hix:gh ix=some ix') (ex:evX tm x'=some pv) (eix:evX tm ix'=some (.v (.int k n))) (hn:0<=n) (hl:n<len)
  (hv:(∃i off,pv = .ptr i off/\v = .ptr i (off+n.toNat*es))\/(∃l off,pv = .ip l off/\v = .ip l (off+n.toNat*es)))
  (ht:ga g s w tm a.tmps.toList):RD P g s w a o v:=by
 have h:=fx hx ex ht
 have hi:=(fx hix eix ht).ke
 obtain⟨_,h2,h3,_⟩:=jm hA
 rcases hv with⟨i,off,rfl,rfl⟩|⟨l,off,rfl,rfl⟩
 ·obtain⟨b,hb,hu⟩:=h.mj
  refine⟨.pointer (some ⟨b,off+n.toNat*es,none⟩), ?_,.ptr hb⟩
  simp only[execOp,ho,hu,hi,Instr.indexAt,asIntOf,Sem.run_bind,Sem.run_pure,Result.andThen_ok,gu hT,Instr.sureAddr]
  simp only[show (0<=n/\n<(len:Int))from⟨hn,hl⟩,and_self,if_true,Sem.run_bind,h2,Result.andThen_ok,Sem.run_pure,l5]
 ·obtain⟨b,oo,cs,hu,h5,h6⟩:=h.Bq
  refine⟨.pointer (some ⟨b,oo+(off+n.toNat*es),none⟩), ?_,.ip cs h5.1 h5.2 h6⟩
  simp only[execOp,ho,hu,hi,Instr.indexAt,asIntOf,Sem.run_bind,Sem.run_pure,Result.andThen_ok,gu hT,Instr.sureAddr]
  simp only[show (0<=n/\n<(len:Int))from⟨hn,hl⟩,and_self,if_true,Sem.run_bind,h2,Result.andThen_ok,Sem.run_pure,l5,dv]
theorem Rd {t:TypeId} {ag:Bool} {n:Nat} {l:List AV} {cs:List Value} {off:Nat} {v:AV} (hA:ru P t=some (ag,n)) (hl:ga g s w l cs) (hp:x8 ag n (l.drop off)=some v) :
  ∃u,(part t cs.toArray off).run P w = .ok u w/\Rep g s w v u:=by
 obtain⟨h1,h2,h3,h4,_⟩:=jm hA
 cases ag with
 | false=>
  simp only[x8,dz,if_false,List.head?_drop]at hp
  obtain⟨c,hcc,hr⟩:=hl.get hp
  exact⟨c,by simp[part,h1,hcc],hr⟩
 | true=>
  simp only[x8,if_true]at hp
  split at hp
  ·simp only[fe]at hp;subst hp
   have:=(hl.drop off).take n
   exact⟨.agg ((cs.drop off).take n).toArray,by simp[part,h1,h2,List.extract_eq_take_drop],.agg _ this.1 this.2⟩
  ·simp at hp
theorem Wv {t e:TypeId} {x ix:Operand} {x' ix':X} {ag:Bool} {es len:Nat} {l:List AV} {v:AV} {k:IntKind} {n:Int} (ho:o.op = .index t x ix) (hT:P.underlying t=some (.array len e)) (hA:ru P e=some (ag,es))
  (hx:gh x=some x') (hix:gh ix=some ix') (ex:evX tm x'=some (.agg l)) (eix:evX tm ix'=some (.v (.int k n))) (hn:0<=n) (hl:n<len) (hp:x8 ag es (l.drop (n.toNat*es))=some v)
  (ht:ga g s w tm a.tmps.toList):RD P g s w a o v:=by
 obtain⟨cs,hu,hr⟩:=(fx hx ex ht).Dc
 have hi:=(fx hix eix ht).ke
 obtain⟨_,h2,_⟩:=jm hA
 obtain⟨u,h5,h6⟩:=Rd (P:=P) hA hr hp
 refine⟨u, ?_,h6⟩
 simp only[execOp,ho,hu,hi,Instr.index,asIntOf,Sem.run_bind,Sem.run_pure,Result.andThen_ok,gu hT]
 simp only[show (0<=n/\n<(len:Int))from⟨hn,hl⟩,and_self,if_true,Sem.run_bind,h2,Result.andThen_ok,h5,Sem.run_pure]
theorem Ye {t:TypeId} {x ix:Operand} {x' ix':X} {b:ByteArray} {k:IntKind} {n:Int} {c:UInt8} (ho:o.op = .index t x ix) (hT:P.underlying t=some .string)
  (hx:gh x=some x') (hix:gh ix=some ix') (ex:evX tm x'=some (.v (.string b))) (eix:evX tm ix'=some (.v (.int k n))) (hn:0<=n) (hc:b.toList[n.toNat]? = some c)
  (ht:ga g s w tm a.tmps.toList):RD P g s w a o (.v (.int .u8 c.toNat)):=by
 have hu:=(fx hx ex ht).ke
 have hi:=(fx hix eix ht).ke
 have hb:b[n.toNat]? = some c:=by
  have e:b.toList=b.data.toList:=ByteArray.toList_eq b
  rw[e,Array.getElem?_toList]at hc
  obtain⟨h1,h2⟩:=Array.getElem?_eq_some_iff.1 hc
  have h1':n.toNat<b.size:=h1
  rw[getElem?_pos b n.toNat h1']
  exact congrArg some h2
 refine⟨.int .u8 c.toNat, ?_,.v rfl⟩
 simp only[execOp,ho,hu,hi,Instr.index,asIntOf,Sem.run_bind,Sem.run_pure,Result.andThen_ok,gu hT,hn,if_true,hb]
theorem a3l {x:Operand} {y:X} {i:Nat} {l:List AV} {v:AV} (ho:o.op = .extract x i) (hx:gh x=some y) (ex:evX tm y=some (.tup l)) (hv:l[i]? = some v) (ht:ga g s w tm a.tmps.toList):RD P g s w a o v:=by
 obtain⟨cs,hu,hr⟩:=(fx hx ex ht).I7
 obtain⟨c,hc,hrc⟩:=hr.get hv
 exact⟨c,by simp[execOp,ho,hu,Instr.extract,hc],hrc⟩
theorem Ny {t e ty:TypeId} {x:Operand} {y:X} {pv:AV} {n:Nat} (ho:o.op = .call {callee:=.builtin .len,args := #[x],argTypes := #[t]}) (hT:P.underlying t=some (.slice e)) (hx:gh x=some y) (ex:evX tm y=some pv)
  (hv:(∃l tl,pv = .sl l tl/\n=l.length)\/(∃i off es ag,pv = .bs i off n es ag)) (ht:ga g s w tm a.tmps.toList):RD P g s w a o (.int n):=by
 have h:=fx hx ex ht
 have key:∃p cap,a.eval x = .slice p n cap:=by
  rcases hv with⟨l,tl,rfl,rfl⟩|⟨i,off,es,ag,rfl⟩
  ·obtain⟨p,cap,_,_,_,hu,_⟩:=h.n8;exact⟨p,cap,hu⟩
  ·obtain⟨b,cap,_,hu,_⟩:=h.wc;exact⟨_,cap,hu⟩
 obtain⟨p,cap,hu⟩:=key
 exact⟨.int .i64 n,by simp[execOp,ho,hu,resolve,invoke,builtin,Builtin.len_,gu hT,goInt],.v rfl⟩
theorem Xr {t ty:TypeId} {x:Operand} {y:X} {b:ByteArray} (ho:o.op = .call {callee:=.builtin .len,args := #[x],argTypes := #[t]}) (hT:P.underlying t=some .string) (hx:gh x=some y) (ex:evX tm y=some (.v (.string b)))
  (ht:ga g s w tm a.tmps.toList):RD P g s w a o (.int b.size):=by
 have hu:=(fx hx ex ht).ke
 exact⟨.int .i64 b.size,by simp[execOp,ho,hu,resolve,invoke,builtin,Builtin.len_,gu hT,goInt],.v rfl⟩
theorem a1q {ts:Array TypeId} {x y:Operand} {x' y':X} {k k':IntKind} {m n:Int} (ho:o.op = .call {callee:=.builtin .max,args := #[x,y],argTypes:=ts}) (hx:gh x=some x') (hy:gh y=some y')
  (ex:evX tm x'=some (.v (.int k m))) (ey:evX tm y'=some (.v (.int k' n))) (ht:ga g s w tm a.tmps.toList):RD P g s w a o (.v (.int k (if n>m then n else m))):=by
 have h1:=(fx hx ex ht).ke
 have h2:=(fx hy ey ht).ke
 exact⟨_,by simp[execOp,ho,h1,h2,resolve,invoke,builtin,Builtin.max_,Builtin.max2],.v rfl⟩
theorem a2k {ts:Array TypeId} {x y:Operand} {x' y':X} {k k':IntKind} {m n:Int} (ho:o.op = .call {callee:=.builtin .min,args := #[x,y],argTypes:=ts}) (hx:gh x=some x') (hy:gh y=some y')
  (ex:evX tm x'=some (.v (.int k m))) (ey:evX tm y'=some (.v (.int k' n))) (ht:ga g s w tm a.tmps.toList):RD P g s w a o (.v (.int k (if n<m then n else m))):=by
 have h1:=(fx hx ex ht).ke
 have h2:=(fx hy ey ht).ke
 exact⟨_,by simp[execOp,ho,h1,h2,resolve,invoke,builtin,Builtin.min_,Builtin.min2],.v rfl⟩
end
end Go.Proofs.Eng
namespace Go.Proofs.Eng
open Go.RowKit
variable [DrK]
section
variable {P:Program} {g:Gh} {s:ASt} {w:World} {tm:List AV} {a:Act} {o:Oper}
theorem El {sl:Bool} {lo hi mx:Option Operand} {lo' hi' mx':Option X} {len cap l h:Nat} {m? : Option Nat} (hlo:m4 lo=some lo') (hhi:m4 hi=some hi') (hmx:m4 mx=some mx')
  (el:jd len 0 lo' tm=some l) (eh:jd len len hi' tm=some h) (em:(mx'=none/\m? = none) \/ ∃y m,mx'=some y/\m? = some m/\jd len 0 (some y) tm=some m/\h<=m) (hmh:mx ≠ none->hi ≠ none) (hlh:l<=h) (hh:h<=len) (kh:len<=cap) (ht:ga g s w tm a.tmps.toList) :
  (Instr.sliceBounds sl len cap (lo.map a.eval) (hi.map a.eval) (mx.map a.eval)).run P w = .ok (l,h,m?.getD cap) w:=by
 have bnd:∀{x:Option Operand} {x':Option X} {d m top:Nat} {code:BoundsCode},m4 x=some x'->jd len d x' tm=some m->x ≠ none->m<=top -> ∃y,x=some y/\(Instr.sliceBound (a.eval y) top code).run P w = .ok m w:=by
  intro x x' d m top code hx hb hne hle
  cases x with
  | none=>exact absurd rfl hne
  | some y=>
   simp only[m4]at hx
   cases hy:gh y with
   | none=>rw[hy]at hx;simp at hx
   | some y'=>
    rw[hy]at hx;simp at hx;subst hx
    simp only[jd]at hb
    split at hb
    ·rename_i k n he
     split at hb
     ·rename_i hc
      simp only[fe]at hb;subst hb
      have hu':=(fx hy he ht).ke
      exact⟨y,rfl,by simp[Instr.sliceBound,hu',asIntOf,show 0<=n/\n<=(top:Int)from⟨hc.1,by omega⟩]⟩
     ·simp at hb
    ·simp at hb
 unfold Instr.sliceBounds
 cases mx with
 | none=>
  simp only[m4,fe]at hmx;subst hmx
  have em:m? = none:=by rcases em with⟨_,e⟩|⟨y,m,e,_⟩;exact e;simp at e
  subst em
  cases hi with
  | none=>
   simp only[m4,fe]at hhi;subst hhi
   simp only[jd,fe]at eh;subst eh
   cases lo with
   | none=>
    simp only[m4,fe]at hlo;subst hlo
    simp only[jd,fe]at el;subst el
    simp
   | some z=>
    obtain⟨z',hz,hr⟩:=bnd (top:=len) (code:=.sliceB) hlo el (by simp) hlh
    cases hz
    simp[hr]
  | some y=>
   obtain⟨y',hy,hr1⟩:=bnd (top:=cap) (code:=if sl then .sliceAcap else .sliceAlen) hhi eh (by simp) (by omega)
   cases hy
   cases lo with
   | none=>
    simp only[m4,fe]at hlo;subst hlo
    simp only[jd,fe]at el;subst el
    simp[hr1]
   | some z=>
    obtain⟨z',hz,hr⟩:=bnd (top:=h) (code:=.sliceB) hlo el (by simp) hlh
    cases hz
    simp[hr1,hr]
 | some q=>
  cases hi with
  | none=>exact absurd rfl (hmh (by simp))
  | some y=>
   have hq:=hmx
   simp only[m4]at hq
   cases hq':gh q with
   | none=>rw[hq']at hq;simp at hq
   | some q'=>
    rw[hq']at hq;simp at hq;subst hq
    obtain⟨e0,_⟩|⟨y0,m,e0,rfl,em,hm⟩:=em
    ·simp at e0
    cases e0
    have hmle:m<=len:=by
     simp only[jd]at em
     split at em
     ·split at em
      ·simp only[fe]at em;omega
      ·simp at em
     ·simp at em
    obtain⟨q'',hq2,hr0⟩:=bnd (top:=cap) (code:=if sl then .slice3Acap else .slice3Alen) hmx em (by simp) (by omega)
    cases hq2
    obtain⟨y',hy,hr1⟩:=bnd (top:=m) (code:=.slice3B) hhi eh (by simp) hm
    cases hy
    cases lo with
    | none=>
     simp only[m4,fe]at hlo;subst hlo
     simp only[jd,fe]at el;subst el
     simp[hr0,hr1]
    | some z=>
     obtain⟨z',hz,hr⟩:=bnd (top:=h) (code:=.slice3C) hlo el (by simp) hlh
     cases hz
     simp[hr0,hr1,hr]
theorem P0 {t e:TypeId} {x:Operand} {x':X} {lo hi:Option Operand} {lo' hi':Option X} {i off len es l h:Nat} {ag ag':Bool} (ho:o.op = .slice t x lo hi none) (hT:P.underlying t=some (.slice e)) (hA:ru P e=some (ag',es)) (hx:gh x=some x') (hlo:m4 lo=some lo') (hhi:m4 hi=some hi')
  (ex:evX tm x'=some (.bs i off len es ag)) (el:jd len 0 lo' tm=some l) (eh:jd len len hi' tm=some h) (hlh:l<=h) (hh:h<=len) (ht:ga g s w tm a.tmps.toList):RD P g s w a o (if l<len\/l=0 then .bs i (off+l*es) (h-l) es ag else .sl [] .none):=by
 obtain⟨b,cap,hb,hu,kh,hz⟩:=(fx hx ex ht).wc
 obtain⟨_,h2,_⟩:=jm hA
 have hbd:=El (P:=P) (sl:=true) (cap:=cap) (m? := none) (mx:=none) hlo hhi rfl el eh (.inl ⟨rfl,rfl⟩) (by simp) (by omega) hh kh ht
 simp only[Option.map_none,Option.getD_none]at hbd
 refine⟨.slice (if cap=l then some ⟨b,off,none⟩else some ⟨b,off+l*es,none⟩) (h-l) (cap-l), ?_, ?_⟩
 ·simp only[execOp,ho,hu,Instr.sliceAt,Instr.slice,Sem.run_bind,gu hT,Result.andThen_ok,Option.map_none,hbd,h2,Sem.run_pure,fh,l5]
 ·split
  ·rename_i hl
   have e1:(if cap=l then some (⟨b,off,none⟩:Addr)else some ⟨b,off+l*es,none⟩)=some ⟨b,off+l*es,none⟩:=by
    split
    ·rename_i hc
     have:l=0:=by omega
     subst this;simp
    ·rfl
   rw[e1]
   obtain⟨c,el,fz,k1,k2⟩:=hz
   refine .bs hb (by omega) ⟨c,el,fz,k1, ?_⟩
   rw[dv,<- Nat.add_mul,show l+(cap-l)=cap by omega];exact k2
  ·rename_i hl
   have:h-l=0:=by omega
   rw[this]
   exact .sl (b:=0) (o:=0) [] rfl (λk a c h=>by simp[flat]at h) (λk c h=>by simp at h) (λh=>absurd rfl h) rfl (dk _) trivial
theorem Qt {t e:TypeId} {x m:Operand} {x' m':X} {lo hi:Option Operand} {lo' hi':Option X} {i off len es h:Nat} {ag ag':Bool} (ho:o.op = .slice t x lo hi (some m)) (hT:P.underlying t=some (.slice e)) (hA:ru P e=some (ag',es)) (hx:gh x=some x') (hlo:m4 lo=some lo') (hhi:m4 hi=some hi') (hm:gh m=some m')
  (ex:evX tm x'=some (.bs i off len es ag)) (em:evX tm m'=some (.cp i off es)) (el:jd len 0 lo' tm=some 0) (eh:jd len len hi' tm=some h) (hmh:hi ≠ none) (hh:h<=len) (ht:ga g s w tm a.tmps.toList):RD P g s w a o (.bs i off h es ag):=by
 obtain⟨b,cap,hb,hu,kh,c0,el0,fz0,hz1,hz2⟩:=(fx hx ex ht).wc
 obtain⟨b',n,hb',hu',hp,c1,el1,fz1,hy1,hy2⟩:=(fx hm em ht).a1m
 rw[hb]at hb';cases hb'
 rw[hz1]at hy1;cases hy1
 have hn:n=cap:=by
  have:n*es=cap*es:=by omega
  exact Nat.eq_of_mul_eq_mul_right hp this
 subst hn
 obtain⟨_,h2,_⟩:=jm hA
 have bnd:∀{y:Operand} {y':X} {k top:Nat} {code:BoundsCode} {z:Int} {kk:IntKind},gh y=some y'->evX tm y'=some (.v (.int kk z))->0<=z->z<=(top:Int)->z.toNat=k->(Instr.sliceBound (a.eval y) top code).run P w = .ok k w:=by
  intro y y' k top code z kk hy he h0 h1 hk
  have hu:=(fx hy he ht).ke
  subst hk
  simp[Instr.sliceBound,hu,asIntOf,show 0<=z/\z<=(top:Int)from⟨h0,h1⟩]
 cases hi with
 | none=>exact absurd rfl hmh
 | some q=>
  simp only[m4]at hhi
  cases hq:gh q with
  | none=>rw[hq]at hhi;simp at hhi
  | some q'=>
  rw[hq]at hhi;simp at hhi;subst hhi
  simp only[jd]at eh
  split at eh
  case h_2=>simp at eh
  rename_i kk z ez
  split at eh
  case isFalse=>simp at eh
  rename_i hzz
  simp only[fe]at eh
  have hcapm:(Instr.sliceBound (a.eval m) n .slice3Acap).run P w = .ok n w:=by simp[Instr.sliceBound,hu',asIntOf]
  have hq1:=bnd (top:=n) (code:=.slice3B) hq ez hzz.1 (by omega) eh
  have hsb:(Instr.sliceBounds true len n (lo.map a.eval) (some (a.eval q)) (some (a.eval m))).run P w = .ok (0,h,n) w:=by
   unfold Instr.sliceBounds
   cases lo with
   | none=>simp[hcapm,hq1]
   | some p=>
    simp only[m4]at hlo
    cases hp':gh p with
    | none=>rw[hp']at hlo;simp at hlo
    | some p'=>
    rw[hp']at hlo;simp at hlo;subst hlo
    simp only[jd]at el
    split at el
    case h_2=>simp at el
    rename_i k2 z2 e2
    split at el
    case isFalse=>simp at el
    rename_i hz2
    simp only[fe]at el
    have hp1:=bnd (top:=h) (code:=.slice3C) hp' e2 hz2.1 (by omega) el
    simp[hcapm,hq1,hp1]
  refine⟨.slice (some ⟨b,off,none⟩) h n, ?_,.bs hb (by omega) ⟨c0,el0,fz0,hz1,hz2⟩⟩
  simp only[execOp,ho,hu,Instr.sliceAt,Instr.slice,Sem.run_bind,gu hT,Result.andThen_ok,fh,hsb,h2,Sem.run_pure,l5,Nat.zero_mul,Nat.add_zero,Nat.sub_zero,ite_self]
theorem a0s {t e:TypeId} {x:Operand} {x':X} {i off len es:Nat} {ag:Bool} (ho:o.op = .call {callee:=.builtin .cap,args := #[x],argTypes := #[t]}) (hT:P.underlying t=some (.slice e)) (hx:gh x=some x') (ex:evX tm x'=some (.bs i off len es ag)) (hp:0<es) (ht:ga g s w tm a.tmps.toList):RD P g s w a o (.cp i off es):=by
 obtain⟨b,cap,hb,hu,kh,hz⟩:=(fx hx ex ht).wc
 exact⟨.int .i64 cap,by simp[execOp,ho,hu,resolve,invoke,builtin,Builtin.cap_,gu hT,goInt],.cp hb hz hp⟩
theorem kp (x:AV) (l:List AV):flat (x::l)=x.cells++flat l:=by simp[flat]
theorem Gx {es:Nat}:∀{l:List AV} (h:∀x ∈ l,x.cells.length=es) (n:Nat),flat (l.take n)=(flat l).take (n*es)
 | [],_,n=>by simp[flat]
 | x::l,h,0=>by simp[flat]
 | x::l,h,n+1=>by
  have ih:=Gx (l:=l) (λy hy=>h y (by simp[hy])) n
  have hx:=h x (by simp)
  rw[List.take_succ_cons,kp,kp,ih,List.take_append,au (l:=x.cells) (by rw[hx,Nat.succ_mul];omega),hx,Nat.succ_mul,Nat.add_sub_cancel]
theorem C9 {es:Nat}:∀{l:List AV} (h:∀x ∈ l,x.cells.length=es) (n:Nat),flat (l.drop n)=(flat l).drop (n*es)
 | [],_,n=>by simp[flat]
 | x::l,h,0=>by simp
 | x::l,h,n+1=>by
  have ih:=C9 (l:=l) (λy hy=>h y (by simp[hy])) n
  have hx:=h x (by simp)
  rw[List.drop_succ_cons,kp,ih,List.drop_append,List.drop_of_length_le (l:=x.cells) (by rw[hx,Nat.succ_mul];omega),hx,Nat.succ_mul,Nat.add_sub_cancel,bo]
theorem Er {l:List AV} {es:Nat} (h:∀x ∈ l,x.cells.length=es) (lo hi:Nat):flat ((l.take hi).drop lo)=((flat l).take (hi*es)).drop (lo*es):=by
 rw[C9 (λx hx=>h x (List.mem_of_mem_take hx)),Gx h]
theorem Fp {t e:TypeId} {x:Operand} {x':X} {lo hi mx:Option Operand} {lo' hi' mx':Option X} {l:List AV} {tl:Tl} {es p q:Nat} {ag':Bool} {m? : Option Nat} {v:AV} (ho:o.op = .slice t x lo hi mx) (hT:P.underlying t=some (.slice e)) (hA:ru P e=some (ag',es)) (hx:gh x=some x') (hlo:m4 lo=some lo') (hhi:m4 hi=some hi') (hmx:m4 mx=some mx')
  (ex:evX tm x'=some (.sl l tl)) (hl:(l.all λx=>x.cells.length==es)=true) (el:jd l.length 0 lo' tm=some p) (eh:jd l.length l.length hi' tm=some q) (em:(mx'=none/\m? = none) \/ ∃y m,mx'=some y/\m? = some m/\jd l.length 0 (some y) tm=some m) (hmh:mx ≠ none->hi ≠ none)
  (hv:nh es l tl p q m? = some v) (ht:ga g s w tm a.tmps.toList):RD P g s w a o v:=by
 obtain⟨ad,cap,b,off,cs,hu,hr,hc,ha,kh,htl⟩:=(fx hx ex ht).n8
 obtain⟨_,h2,h3,_⟩:=jm hA
 have hl':=Db hl
 unfold nh at hv
 split at hv
 case isFalse=>simp at hv
 rename_i hpq
 obtain⟨hpq,hql⟩:=hpq
 have em':(mx'=none/\m? = none) \/ ∃y m,mx'=some y/\m? = some m/\jd l.length 0 (some y) tm=some m/\q<=m:=by
  rcases em with em|⟨y,m,e1,rfl,e2⟩
  ·exact .inl em
  ·simp only at hv
   split at hv
   ·rename_i hm;exact .inr ⟨y,m,e1,rfl,e2,hm.1⟩
   ·simp at hv
 have hbd:=El (P:=P) (sl:=true) (cap:=cap) (m? := m?) hlo hhi hmx el eh em' hmh hpq hql kh ht
 have run:(execOp a.eval o).run P w = .ok (.value (.slice (if m?.getD cap=p then ad else ad.map (·.add (p*es))) (q-p) (m?.getD cap-p))) w:=by
  simp only[execOp,ho,hu,Instr.sliceAt,Instr.slice,Sem.run_bind,gu hT,Result.andThen_ok,hbd,h2,Sem.run_pure]
 have hflat:=Er hl' p q
 have hpart:ga g s w (flat ((l.take q).drop p)) ((cs.take (q*es)).drop (p*es)):=by rw[hflat];exact(hr.take _).drop _
 have ux:∀k c,((cs.take (q*es)).drop (p*es))[k]? = some c->oi g s w b (off+p*es+k) c:=by
  intro k c hk
  rw[ba,bc]at hk
  split at hk
  ·have:=hc _ _ hk;rwa [<- dv]at this
  ·simp at hk
 have hlen:((l.take q).drop p).length=q-p:=by simp;omega
 have build:∀(t':Tl) (c':Nat),(m?.getD cap=p->p=q)->q-p<=m?.getD cap-p->Dx g s (q-p) (flat ((l.take q).drop p)).length (if m?.getD cap=p then ad else ad.map (·.add (p*es))) (m?.getD cap-p) t' ->
   Rep g s w (.sl ((l.take q).drop p) t') (.slice (if m?.getD cap=p then ad else ad.map (·.add (p*es))) (q-p) (m?.getD cap-p)):=by
  intro t' c' hm hle ht'
  refine .sl (b:=b) (o:=off+p*es) _ hpart.1 hpart.2 ux (λhne => ?_) hlen hle ht'
  have:p<q:=by
   rcases dj p q with h|h
   ·exact h
   ·exact absurd (c9 (by rw[hlen];omega)) hne
  rw[if_neg (λe=>by have:=hm e;omega),ha (by rintro rfl;simp at hql;omega)]
  simp[l5]
 have hal:∀{c0:Nat},L0 g s (flat l).length ad->L0 g s (flat ((l.take q).drop p)).length (if m?.getD cap=c0 then ad else ad.map (·.add (p*es))):=by
  intro c0 h hfl ad' had o
  have hfl':(flat l).length ≠ 0:=by
   intro e
   rw[hflat]at hfl
   apply hfl
   simp[List.length_eq_zero_iff.1 e]
  split at had
  ·exact h hfl' _ had o
  ·obtain⟨x,hx,rfl⟩:=fi.1 had
   have:(x.add (p*es)).block=x.block:=by unfold Addr.add;split<;>rfl
   rw[this]
   exact h hfl' _ hx o
 have halnil:l=[]->L0 g s (flat l).length ad:=by
  intro e h;rw[e]at h;exact absurd rfl h
 cases m? with
 | some m=>
  simp only at hv
  split at hv
  ·rename_i hm
   simp only[fe]at hv;subst hv
   refine⟨_,run,build _ 0 (by simp;omega) (by simp;omega) ?_⟩
   cases tl with
   | cap c=>exact⟨rfl,hal htl.2⟩
   | al=>exact⟨rfl,hal htl⟩
   | nil=>exact⟨rfl,hal (halnil (List.length_eq_zero_iff.1 htl.2.1))⟩
   | _=>exact rfl
  ·simp at hv
 | none=>
  simp only at hv
  split at hv
  ·rename_i h0
   obtain⟨rfl,rfl⟩:=h0
   simp only[fe]at hv;subst hv
   refine⟨_,run, ?_⟩
   have e1:(if (none:Option Nat).getD cap=0 then ad else ad.map (·.add (0*es)))=ad:=by
    split
    ·rfl
    ·cases ad<;>simp[Addr.add]
   rw[e1]
   simp only[Option.getD_none,Nat.sub_zero]
   exact .sl cs hr.1 hr.2 hc ha rfl kh htl
  ·rename_i h0
   simp only[fe]at hv;subst hv
   refine⟨_,run,build _ 0 (by simp;omega) (by simp;omega) ?_⟩
   cases tl with
   | none=>trivial
   | al=>exact hal htl
   | nil=>trivial
   | tl id ver=>
    show Dx _ _ _ _ _ _ (if q=l.length then .tls id ver es else .none)
    by_cases hq:q=l.length
    ·rw[if_pos hq]
     obtain⟨v,k1,k2,k3⟩:=htl
     refine⟨v,k1,k2,λhv => ?_⟩
     obtain⟨wo,j1,j2,j3,j4,j5⟩:=k3 hv
     have hl0:0<l.length:=by omega
     have hes:wo.es=es:=by
      rw[lh hl',j2]at j3
      exact Nat.eq_of_mul_eq_mul_left hl0 j3
     refine⟨wo,p,j1,hes,by rw[j2,hq];omega,λhc0 => ?_,by simp only[Option.getD_none];omega⟩
     simp only[Option.getD_none]at hc0 ⊢
     rw[if_neg (by omega),j4]
     simp[l5]
    ·rw[if_neg hq];trivial
   | lim c=>trivial
   | tls id ver e=>
    show Dx _ _ _ _ _ _ (if q=l.length/\e=es then .tls id ver es else .none)
    by_cases hq:q=l.length/\e=es
    ·rw[if_pos hq]
     obtain⟨hq,rfl⟩:=hq
     obtain⟨v,k1,k2,k3⟩:=htl
     refine⟨v,k1,k2,λhv => ?_⟩
     obtain⟨wo,d,j1,j2,j3,j4,j5⟩:=k3 hv
     clear k3
     refine⟨wo,d+p,j1,j2,by omega,λhc0 => ?_,by simp only[Option.getD_none];omega⟩
     simp only[Option.getD_none]at hc0 ⊢
     have c1:¬cap=p:=λe=>hc0 (by rw[e,Nat.sub_self])
     have c2:cap ≠ 0:=λe=>hc0 (by rw[e,Nat.zero_sub])
     rw[if_neg c1,j4 c2]
     simp[l5,Nat.add_mul]
    ·rw[if_neg hq];trivial
   | cap c=>
    exact⟨by have h6:cap=c:=htl.1;simp[h6],hal htl.2⟩
end
end Go.Proofs.Eng
namespace Go.Proofs.Eng
open Go.RowKit
variable [DrK]
section
variable {P:Program} {g:Gh} {s:ASt} {w:World} {tm:List AV} {a:Act} {o:Oper}
theorem bytes_beq (a b:ByteArray):(a==b)=true ↔ a=b:=by
 have h:(a==b)=(a.data==b.data):=by cases a;cases b;rfl
 rw[h,beq_iff_eq]
 exact⟨ByteArray.ext,λe=>by rw[e]⟩
def Ts (d:TypeDesc):Prop:=d = .string \/ ∃k,d = .int k
theorem yp {d:TypeDesc} (hd:Ts d) {k k':AV} {v v':Value} (hk:Rep g s w k v) (hk':Rep g s w k' v') {b:Bool} (h:x7 k k'=some b) (hf:(d = .string -> ∃x,k = .v (.string x))/\(∀j,d = .int j -> ∃i x,k = .v (.int i x))) :
  Instr.sameNow d v v'=some b/\(b=true->Instr.sameBits 10000 v' v=true):=by
 unfold x7 at h
 split at h
 ·rename_i x y
  cases hk.ke;cases hk'.ke
  simp only[fe]at h;subst h
  rcases hd with rfl|⟨j,rfl⟩
  ·refine⟨rfl,λe => ?_⟩
   have:x=y:=(bytes_beq x y).1 e
   subst this
   rw[Instr.sameBits];exact(bytes_beq x x).2 rfl
  ·obtain⟨i,x',e⟩:=hf.2 j rfl;cases e
 ·rename_i i x i' y
  cases hk.ke;cases hk'.ke
  split at h
  ·rename_i hi;subst hi
   simp only[fe]at h;subst h
   rcases hd with rfl|⟨j,rfl⟩
   ·obtain⟨x',e⟩:=hf.1 rfl;cases e
   ·refine⟨by simp[Instr.sameNow],λe => ?_⟩
    have:x=y:=by simpa using e
    subst this
    rw[Instr.sameBits];simp
  ·simp at h
 ·simp at h
theorem Kk {st:Bool} {d:TypeDesc} (hd:Ts d) {k:AV} {kv:Value} (hk:Rep g s w k kv) (hf:(d = .string -> ∃x,k = .v (.string x))/\(∀j,d = .int j -> ∃i x,k = .v (.int i x))) :
  ∀{es:List (AV × AV)} {ents:List MapEntry} {r:Option AV} (n:Nat),ga g s w (es.map (·.1)) (ents.map (·.key))->ga g s w (es.map (·.2)) (ents.map (·.val))->n9 (.sc st) k es=some r ->
   (r=none/\Instr.findNow d kv ents n=some none)\/(∃x i v,r=some x/\Instr.findNow d kv ents n=some (some (n+i,v))/\Rep g s w x v)
 | [],ents,r,n,h1,h2,h=>by
  have:ents=[]:=by have:=h1.1;simpa using this.symm
  subst this
  simp only[n9,fe]at h;subst h
  exact .inl ⟨rfl,rfl⟩
 | (k',x)::es,ents,r,n,h1,h2,h=>by
  cases ents with
  | nil=>have:=h1.1;simp at this
  | cons e ents=>
   obtain⟨_,_,e1,hr1,h1'⟩:=h1.cons_inv
   obtain⟨_,_,e2,hr2,h2'⟩:=h2.cons_inv
   simp only[bq,List.cons.injEq]at e1 e2
   obtain⟨rfl,rfl⟩:=e1
   obtain⟨rfl,rfl⟩:=e2
   simp only[n9,n7]at h
   split at h
   ·rename_i hb
    simp only[fe]at h;subst h
    have:=(yp hd hk hr1 hb hf).1
    exact .inr ⟨x,0,e.val,rfl,by simp[Instr.findNow,this],hr2⟩
   ·rename_i hb
    have hs:=(yp hd hk hr1 hb hf).1
    rcases Kk hd hk hf (n+1) h1' h2' h with⟨r0,hr0⟩|⟨y,i,v,r1,hr3,hr4⟩
    ·exact .inl ⟨r0,by simp[Instr.findNow,hs,hr0]⟩
    ·exact .inr ⟨y,i+1,v,r1,by simp[Instr.findNow,hs,hr3];omega,hr4⟩
   ·simp at h
theorem Se {st:Bool} {d:TypeDesc} (hd:Ts d) {k x:AV} {kv:Value} (hk:Rep g s w k kv) (hf:(d = .string -> ∃x,k = .v (.string x))/\(∀j,d = .int j -> ∃i x,k = .v (.int i x))) :
  ∀{es es':List (AV × AV)} {ents:List MapEntry} (n:Nat),ga g s w (es.map (·.1)) (ents.map (·.key))->ga g s w (es.map (·.2)) (ents.map (·.val))->upA (.sc st) k x es=some es' ->
   (es'=es++[(k,x)]/\Instr.findNow d kv ents n=some none)\/(∃i e v,es'=es.set i (k,x)/\Instr.findNow d kv ents n=some (some (n+i,v))/\ents[i]? = some e/\Instr.sameBits 10000 e.key kv=true)
 | [],es',ents,n,h1,h2,h=>by
  have:ents=[]:=by have:=h1.1;simpa using this.symm
  subst this
  simp only[upA,fe]at h;subst h
  exact .inl ⟨rfl,rfl⟩
 | (k',y)::es,es',ents,n,h1,h2,h=>by
  cases ents with
  | nil=>have:=h1.1;simp at this
  | cons e ents=>
   obtain⟨_,_,e1,hr1,h1'⟩:=h1.cons_inv
   obtain⟨_,_,e2,hr2,h2'⟩:=h2.cons_inv
   simp only[bq,List.cons.injEq]at e1 e2
   obtain⟨rfl,rfl⟩:=e1
   obtain⟨rfl,rfl⟩:=e2
   simp only[upA,n7]at h
   split at h
   ·rename_i hb
    simp only[fe]at h;subst h
    have:=yp hd hk hr1 hb hf
    exact .inr ⟨0,e,e.val,rfl,by simp[Instr.findNow,this.1],rfl,this.2 rfl⟩
   ·rename_i hb
    have hs:=(yp hd hk hr1 hb hf).1
    cases hu:upA (.sc st) k x es with
    | none=>rw[hu]at h;simp at h
    | some es2=>
     rw[hu]at h;simp only[fh,fe]at h;subst h
     rcases Se hd hk hf (n+1) h1' h2' hu with⟨r0,hr0⟩|⟨i,e',v,r1,hr3,hr4,hr5⟩
     ·exact .inl ⟨by simp[r0],by simp[Instr.findNow,hs,hr0]⟩
     ·exact .inr ⟨i+1,e',v,by simp[r1],by simp[Instr.findNow,hs,hr3];omega,by simpa using hr4,hr5⟩
   ·simp at h
theorem Ij {kt:TypeId} {d:TypeDesc} (hd:Ts d) (hK:P.underlying kt=some d) (e:Bool) (n:Nat) (v:Value) (w:World):(Instr.checkKey e (n+1) kt v).run P w = .ok () w:=by
 rw[Instr.checkKey]
 rcases hd with rfl|⟨k,rfl⟩<;>simp[gu hK]
theorem Ug {op:BinOp} {neg:Bool} {t t' e:TypeId} {x y:Operand} {x' y':X} {u v:AV} {r:Bool} (ho:o.op = .binOp op t x y t') (hop:op=if neg then .neq else .eql) (hT:P.underlying t=some (.pointer e)) (hx:gh x=some x') (hy:gh y=some y')
  (ex:evX tm x'=some u) (ey:evX tm y'=some v) (hr:Le u v=some r) (ht:ga g s w tm a.tmps.toList):RD P g s w a o (.bool (neg ^^ r)):=by
 have h1:=fx hx ex ht
 have h2:=fx hy ey ht
 refine⟨.bool (neg ^^ r), ?_,.v rfl⟩
 have key:∃p,a.eval x = .pointer p/\a.eval y = .pointer none/\r=p.isNone:=by
  unfold Le at hr
  split at hr
  ·simp only[fe]at hr;subst hr
   obtain⟨b,_,e1⟩:=h1.mj
   exact⟨_,e1,h2.ke,rfl⟩
  ·simp only[fe]at hr;subst hr
   obtain⟨b,o,cs,e1,_⟩:=h1.Bq
   exact⟨_,e1,h2.ke,rfl⟩
  ·simp only[fe]at hr;subst hr
   exact⟨none,h1.ke,h2.ke,rfl⟩
  ·simp at hr
 obtain⟨p,e1,e2,rfl⟩:=key
 have heq:(Op.equal t (.pointer p) (.pointer none)).run P w = .ok p.isNone w:=by
  rw[Op.equal,show Op.maxDepth=9999+1 from rfl,Op.equalIn];cases p<;>simp[gu hT]
 have hb:=r6 (P:=P) (w:=w) (t:=t) (p:=.pointer p) (q:=.pointer none) (r:=p.isNone) hop ⟨by simp,by simp,by simp,by simp⟩ heq
 simp only[execOp,ho,e1,e2,Sem.run_bind,np (P:=P) (u:=.pointer p) (v:=.pointer none) (by simp) (by simp),Result.andThen_ok,hb,Sem.run_pure]
theorem yj {kt te:TypeId} {j:TypeInfo} (hT:P.underlying kt=some (.pointer te)) (hi:P.info? te=some j) (hs:j.size ≠ 0) (hI:Inv g s w) {k k':AV} {u u':Value} (hk:Rep g s w k u) (hk':Rep g s w k' u') (h1:qj s.H k=true) (h2:qj s.H k'=true) {b:Bool} (h:n7 .pt k k'=some b) :
  (Op.equal kt u u').run P w = .ok b w/\(b=true->u=u'):=by
 cases k<;>simp only[qj,dz]at h1
 cases k'<;>simp only[qj,dz]at h2
 rename_i i o0 i' o'
 simp only[n7,fe]at h;subst h
 obtain⟨b1,m1,rfl⟩:=hk.mj
 obtain⟨b2,m2,rfl⟩:=hk'.mj
 split at h1
 case h_2=>simp at h1
 rename_i f1 l1 g1
 split at h2
 case h_2=>simp at h2
 rename_i f2 l2 g2
 obtain⟨cs1,el1,⟨r1,c1⟩,_⟩:=hI.obj i b1 _ m1 g1
 obtain⟨cs2,el2,⟨r2,c2⟩,_⟩:=hI.obj i' b2 _ m2 g2
 have hb:b1=b2 ↔ i=i':=by
  refine⟨λe => ?_,λe=>by subst e;rw[m1]at m2;exact Option.some.inj m2⟩
  subst e
  rcases hI.inj i i' b1 m1 m2 with h|h|h
  ·exact h
  ·rw[g1]at h;cases h
  ·rw[g2]at h;cases h
 by_cases he:i=i'/\o0=o'
 ·obtain⟨rfl,rfl⟩:=he
  have:=hb.2 rfl
  subst this
  refine⟨?_,λ_=>rfl⟩
  rw[Op.equal,show Op.maxDepth=9999+1 from rfl,Op.equalIn]
  simp[gu hT,sizeOf,typeInfo,hi,hs,run_sameAddr_same]
 ·have hne:(⟨b1,o0,none⟩:Addr) ≠ ⟨b2,o',none⟩:=λe=>by
   simp only[Addr.mk.injEq,and_true]at e
   exact he ⟨hb.1 e.1,e.2⟩
  have hf:(i==i'&&o0==o')=false:=by
   rw[Bool.eq_false_iff];intro e
   simp only[dy,beq_iff_eq]at e;exact he e
  rw[hf]
  refine⟨?_,λe=>by cases e⟩
  rw[Op.equal,show Op.maxDepth=9999+1 from rfl,Op.equalIn]
  simp[gu hT,sizeOf,typeInfo,hi,hs,run_sameAddr_other w hne c1 c2]
theorem Fv {kt te:TypeId} {j:TypeInfo} (hT:P.underlying kt=some (.pointer te)) (hi:P.info? te=some j) (hs:j.size ≠ 0) (hI:Inv g s w) {k:AV} {kv:Value} (hk:Rep g s w k kv) (hlk:qj s.H k=true) :
  ∀{es:List (AV × AV)} {ents:List MapEntry} {r:Option AV} (n:Nat),(es.all λe=>qj s.H e.1)=true->ga g s w (es.map (·.1)) (ents.map (·.key))->ga g s w (es.map (·.2)) (ents.map (·.val))->n9 .pt k es=some r ->
   (r=none/\(Instr.findAsking kt kv ents n).run P w = .ok none w)\/(∃x i v,r=some x/\(Instr.findAsking kt kv ents n).run P w = .ok (some (n+i,v)) w/\Rep g s w x v)
 | [],ents,r,n,hl,h1,h2,h=>by
  have:ents=[]:=by have:=h1.1;simpa using this.symm
  subst this
  simp only[n9,fe]at h;subst h
  exact .inl ⟨rfl,rfl⟩
 | (k',x)::es,ents,r,n,hl,h1,h2,h=>by
  cases ents with
  | nil=>have:=h1.1;simp at this
  | cons e ents=>
   obtain⟨_,_,e1,hr1,h1'⟩:=h1.cons_inv
   obtain⟨_,_,e2,hr2,h2'⟩:=h2.cons_inv
   simp only[bq,List.cons.injEq]at e1 e2
   obtain⟨rfl,rfl⟩:=e1
   obtain⟨rfl,rfl⟩:=e2
   rw[cz,dy]at hl
   simp only[n9]at h
   split at h
   ·rename_i hb
    simp only[fe]at h;subst h
    have heq:=(yj hT hi hs hI hk hr1 hlk hl.1 hb).1
    exact .inr ⟨x,0,e.val,rfl,by simp[Instr.findAsking,Sem.run_bind,heq],hr2⟩
   ·rename_i hb
    have heq:=(yj hT hi hs hI hk hr1 hlk hl.1 hb).1
    rcases Fv hT hi hs hI hk hlk (n+1) hl.2 h1' h2' h with⟨r0,hr0⟩|⟨y,i,v,r1,hr3,hr4⟩
    ·exact .inl ⟨r0,by simp[Instr.findAsking,Sem.run_bind,heq,hr0]⟩
    ·exact .inr ⟨y,i+1,v,r1,by simp[Instr.findAsking,Sem.run_bind,heq,hr3];omega,hr4⟩
   ·simp at h
theorem Na {kt te:TypeId} {j:TypeInfo} (hT:P.underlying kt=some (.pointer te)) (hi:P.info? te=some j) (hs:j.size ≠ 0) (hI:Inv g s w) {k x:AV} {kv:Value} (hk:Rep g s w k kv) (hlk:qj s.H k=true) :
  ∀{es es':List (AV × AV)} {ents:List MapEntry} (n:Nat),(es.all λe=>qj s.H e.1)=true->ga g s w (es.map (·.1)) (ents.map (·.key))->ga g s w (es.map (·.2)) (ents.map (·.val))->upA .pt k x es=some es' ->
   (es'=es++[(k,x)]/\(Instr.findAsking kt kv ents n).run P w = .ok none w)\/(∃i e v,es'=es.set i (k,x)/\(Instr.findAsking kt kv ents n).run P w = .ok (some (n+i,v)) w/\ents[i]? = some e/\Instr.sameBits 10000 e.key kv=true)
 | [],es',ents,n,hl,h1,h2,h=>by
  have:ents=[]:=by have:=h1.1;simpa using this.symm
  subst this
  simp only[upA,fe]at h;subst h
  exact .inl ⟨rfl,rfl⟩
 | (k',y)::es,es',ents,n,hl,h1,h2,h=>by
  cases ents with
  | nil=>have:=h1.1;simp at this
  | cons e ents=>
   obtain⟨_,_,e1,hr1,h1'⟩:=h1.cons_inv
   obtain⟨_,_,e2,hr2,h2'⟩:=h2.cons_inv
   simp only[bq,List.cons.injEq]at e1 e2
   obtain⟨rfl,rfl⟩:=e1
   obtain⟨rfl,rfl⟩:=e2
   rw[cz,dy]at hl
   simp only[upA]at h
   split at h
   ·rename_i hb
    simp only[fe]at h;subst h
    have heq:=yj hT hi hs hI hk hr1 hlk hl.1 hb
    refine .inr ⟨0,e,e.val,rfl,by simp[Instr.findAsking,Sem.run_bind,heq.1],rfl, ?_⟩
    rw[<- heq.2 rfl]
    cases k<;>simp only[qj,dz]at hlk
    obtain⟨b1,_,rfl⟩:=hk.mj
    simp[Instr.sameBits]
   ·rename_i hb
    have heq:=(yj hT hi hs hI hk hr1 hlk hl.1 hb).1
    cases hu:upA .pt k x es with
    | none=>rw[hu]at h;simp at h
    | some es2=>
     rw[hu]at h;simp only[fh,fe]at h;subst h
     rcases Na hT hi hs hI hk hlk (n+1) hl.2 h1' h2' hu with⟨r0,hr0⟩|⟨i,e',v,r1,hr3,hr4,hr5⟩
     ·exact .inl ⟨by simp[r0],by simp[Instr.findAsking,Sem.run_bind,heq,hr0]⟩
     ·exact .inr ⟨i+1,e',v,by simp[r1],by simp[Instr.findAsking,Sem.run_bind,heq,hr3];omega,by simpa using hr4,hr5⟩
   ·simp at h
def KT (P:Program) (kt:TypeId):KK->Prop
 | .sc st=>(st=true/\P.underlying kt=some .string)\/(st=false /\ ∃k,P.underlying kt=some (.int k))
 | .pt=>∃te j,P.underlying kt=some (.pointer te)/\P.info? te=some j/\j.size ≠ 0
theorem Lm {st:Bool} {k:AV} (h:Ga st k=true):(st=true -> ∃x,k = .v (.string x))/\(st=false -> ∃i x,k = .v (.int i x)):=by
 unfold Ga at h
 split at h
 ·exact⟨λ_=>⟨_,rfl⟩,λh=>by simp at h⟩
 ·exact⟨λh=>by simp at h,λ_=>⟨_,_,rfl⟩⟩
 ·simp at h
theorem Ji {kt:TypeId} {kk:KK} (hI:Inv g s w) (hK:KT P kt kk) {k:AV} {kv:Value} (hk:Rep g s w k kv) (hok:tk kk k=true) :
  (∀e,(Instr.checkKey e 10000 kt kv).run P w = .ok () w) /\
  (∀{es:List (AV × AV)} {ents:List MapEntry} {r:Option AV},ga g s w (es.map (·.1)) (ents.map (·.key))->ga g s w (es.map (·.2)) (ents.map (·.val))->ri s.H kk k es=true->n9 kk k es=some r ->
   (r=none/\(Instr.findKey kt kv ents).run P w = .ok none w)\/(∃x i v,r=some x/\(Instr.findKey kt kv ents).run P w = .ok (some (i,v)) w/\Rep g s w x v)) /\
  (∀{x:AV} {es es':List (AV × AV)} {ents:List MapEntry},ga g s w (es.map (·.1)) (ents.map (·.key))->ga g s w (es.map (·.2)) (ents.map (·.val))->ri s.H kk k es=true->upA kk k x es=some es' ->
   (es'=es++[(k,x)]/\(Instr.findKey kt kv ents).run P w = .ok none w)\/(∃i e v,es'=es.set i (k,x)/\(Instr.findKey kt kv ents).run P w = .ok (some (i,v)) w/\ents[i]? = some e/\Instr.sameBits 10000 e.key kv=true)):=by
 cases kk with
 | sc st=>
  simp only[tk]at hok
  have hko:=Lm hok
  obtain⟨d,hd,hkt,hf⟩:∃d,P.underlying kt=some d/\Ts d/\((d = .string -> ∃x,k = .v (.string x))/\(∀j,d = .int j -> ∃i x,k = .v (.int i x))):=by
   rcases hK with⟨rfl,hd⟩|⟨rfl,j,hd⟩
   ·exact⟨_,hd,.inl rfl,λ_=>hko.1 rfl,λj h=>by cases h⟩
   ·exact⟨_,hd,.inr ⟨j,rfl⟩,λh=>by (cases h),λj h=>hko.2 rfl⟩
  have fk:∀{ents:List MapEntry} {r:Option (Nat × Value)},Instr.findNow d kv ents 0=some r->(Instr.findKey kt kv ents).run P w = .ok r w:=λ{ents r} hr=>by simp[Instr.findKey,gu hd,hr]
  refine⟨λe=>Ij (P:=P) hkt hd e 9999 kv w,λ{es ents r} h1 h2 _ h => ?_,λ{x es es' ents} h1 h2 _ h => ?_⟩
  ·rcases Kk (st:=st) hkt hk hf 0 h1 h2 h with⟨rfl,hr⟩|⟨x,i,v,rfl,hr,hx⟩
   ·exact .inl ⟨rfl,fk hr⟩
   ·rw[dp]at hr
    exact .inr ⟨x,i,v,rfl,fk hr,hx⟩
  ·rcases Se (st:=st) hkt hk hf 0 h1 h2 h with⟨rfl,hr⟩|⟨i,e,v,rfl,hr,he,hsb⟩
   ·exact .inl ⟨rfl,fk hr⟩
   ·rw[dp]at hr
    exact .inr ⟨i,e,v,rfl,fk hr,he,hsb⟩
 | pt=>
  obtain⟨te,j,hT,hi,hs⟩:=hK
  have fk:∀(ents:List MapEntry),(Instr.findKey kt kv ents).run P w=(Instr.findAsking kt kv ents 0).run P w:=λents=>by
   cases ents with
   | nil=>simp[Instr.findKey,gu hT,Instr.findNow,Instr.findAsking]
   | cons e es=>simp[Instr.findKey,gu hT,Instr.findNow,Instr.sameNow]
  refine⟨λe=>by rw[show (10000:Nat)=9999+1 from rfl,Instr.checkKey];simp[gu hT],λ{es ents r} h1 h2 hl h => ?_,λ{x es es' ents} h1 h2 hl h => ?_⟩
  ·rw[fk]
   simp only[ri,dy]at hl
   rcases Fv hT hi hs hI hk hl.1 0 hl.2 h1 h2 h with h|⟨x,i,v,rfl,hr,hx⟩
   ·exact .inl h
   ·rw[dp]at hr
    exact .inr ⟨x,i,v,rfl,hr,hx⟩
  ·rw[fk]
   simp only[ri,dy]at hl
   rcases Na hT hi hs hI hk hl.1 0 hl.2 h1 h2 h with h|⟨i,e,v,rfl,hr,he,hsb⟩
   ·exact .inl h
   ·rw[dp]at hr
    exact .inr ⟨i,e,v,rfl,hr,he,hsb⟩
theorem Ep {w:World} {b:Nat} {ents:Array MapEntry} {clk:Nat} (h:w.heap[b]? = some (.map ents clk)):(getObj b).run P w = .ok (.map ents clk) w:=by simp[getObj,Sem.run,h]
theorem Nv {t kt e:TypeId} {m k:Operand} {m' k':X} {ok:Bool} {kk:KK} {z kav v:AV} {i:Nat} {es:List (AV × AV)} {r:Option AV} (ho:o.op = .lookup t m k ok) (hT:P.underlying t=some (.map kt e)) (hK:KT P kt kk) (hz:uh P e=some z)
  (hm:gh m=some m') (hk:gh k=some k') (em:evX tm m'=some (.mp i)) (ek:evX tm k'=some kav) (hH:s.H[i]? = some (.map es)) (hlv:ri s.H kk kav es=true) (hl:n9 kk kav es=some r) (hv:v=(match r with|some x=>if ok then .tup [x,.bool true]else x|none=>if ok then .tup [z,.bool false]else z))
  (hf:tk kk kav=true) (hI:Inv g s w) (ht:ga g s w tm a.tmps.toList):RD P g s w a o v:=by
 obtain⟨b,hb,hu⟩:=(fx hm em ht).M8
 have hkv:=fx hk ek ht
 obtain⟨ents,clk,h1,h2,h3⟩:=hI.obj i b _ hb hH
 obtain⟨zv,iz,hi1,hi2,hi3⟩:=lu hz
 obtain⟨hck,hlook,_⟩:=Ji hI hK hkv hf
 have run0:∀(r:Option (Nat × Value)),(Instr.findKey kt (a.eval k) ents.toList).run P w = .ok r w->(execOp a.eval o).run P w = .ok (.value (match r with|some (_,v)=>if ok then .tuple #[v,.bool true]else v|none=>if ok then .tuple #[zv,.bool false]else zv)) w:=by
  intro r hfk
  simp only[execOp,ho,hu,Instr.lookup,Sem.run_bind,gu hT,Result.andThen_ok,Ep h1,Sem.run_pure]
  rw[hck]
  simp only[Result.andThen_ok,hfk]
  cases r with
  | none=>simp[vd hi1 hi2]
  | some p=>simp
 have tup:∀{x:AV} {c:Value} (b:Bool),Rep g s w x c->Rep g s w (.tup [x,.bool b]) (.tuple #[c,.bool b]):=λb h=>by
  have:=ga.cons h (ga.one (Rep.bool (g:=g) (s:=s) (w:=w) b))
  exact .tup [_,_] this.1 this.2
 rcases hlook h2 h3 hlv hl with⟨rfl,hr⟩|⟨x,i',c,rfl,hr,hx⟩
 ·refine⟨_,run0 _ hr, ?_⟩
  subst hv
  have hzr:=l7 (g:=g) (s:=s) (w:=w) hi3
  cases ok
  ·exact hzr
  ·exact tup false hzr
 ·refine⟨_,run0 _ hr, ?_⟩
  subst hv
  cases ok
  ·exact hx
  ·exact tup true hx
theorem Hy {t xt:TypeId} {x:Operand} {y:X} {ok:Bool} {d:TypeDesc} {z u v:AV} (ho:o.op = .typeAssert x xt t ok) (hT:P.underlying t=some d) (hd:∀ms,d ≠ .interface ms) (hz:uh P t=some z) (hx:gh x=some y) (ex:evX tm y=some u)
  (hv:(∃c,u = .iface t c/\v=if ok then .tup [c,.bool true]else c)\/(ok=true/\v = .tup [z,.bool false]/\(u = .v .nilIface \/ ∃t' c,t' ≠ t/\u = .iface t' c))) (ht:ga g s w tm a.tmps.toList):RD P g s w a o v:=by
 have h:=fx hx ex ht
 obtain⟨zv,iz,hi1,hi2,hi3⟩:=lu hz
 have tup:∀{x:AV} {c:Value} (b:Bool),Rep g s w x c->Rep g s w (.tup [x,.bool b]) (.tuple #[c,.bool b]):=λb h=>by
  have:=ga.cons h (ga.one (Rep.bool (g:=g) (s:=s) (w:=w) b))
  exact .tup [_,_] this.1 this.2
 rcases hv with⟨c,rfl,rfl⟩|⟨rfl,rfl,hu⟩
 ·obtain⟨cv,hu,hc⟩:=h.tc
  refine⟨if ok then .tuple #[cv,.bool true]else cv, ?_, ?_⟩
  ·simp only[execOp,ho,hu,Instr.typeAssert,Sem.run_bind,gu hT,Result.andThen_ok]
   cases d<;>first|exact absurd rfl (hd _)|(cases ok<;>simp)
  ·cases ok
   ·exact hc
   ·exact tup true hc
 ·refine⟨.tuple #[zv,.bool false], ?_,tup false (l7 hi3)⟩
  rcases hu with rfl|⟨t',c,hne,rfl⟩
  ·have hu:=h.ke
   simp only[execOp,ho,hu,Instr.typeAssert,Sem.run_bind,gu hT,Result.andThen_ok]
   cases d<;>first|exact absurd rfl (hd _)|simp[vd hi1 hi2]
  ·obtain⟨cv,hu,hc⟩:=h.tc
   simp only[execOp,ho,hu,Instr.typeAssert,Sem.run_bind,gu hT,Result.andThen_ok]
   cases d<;>first|exact absurd rfl (hd _)|simp[vd hi1 hi2,hne]
end
end Go.Proofs.Eng
namespace Go.Proofs.Eng
open Go.RowKit
variable [DrK]
section
variable {P:Program} {g:Gh} {s:ASt} {w:World} {tm:List AV} {a:Act} {o:Oper}
def Mun (g:Gh) (s:ASt) (g':Gh):Prop:=∀i,i<s.H.length->g.mu i=none->g'.mu i=none
theorem Mun.refl (g:Gh) (s:ASt):Mun g s g:=λ_ _ h=>h
theorem Mun.bind (g:Gh) (s:ASt) (b:Nat):Mun g s (g.bind s.H.length b):=λi hi h=>by simp only[Gh.bind,if_neg (show ¬i=s.H.length by omega)];exact h
def WR (P:Program) (g:Gh) (s:ASt) (w:World) (a:Act) (o:Oper) (v:AV) (s':ASt):Prop:=
 ∃g' u w',((execOp a.eval o).run P w = .ok (.value u) w'\/((execOp a.eval o).run P w = .ok .skip w'/\u=undef))/\Inv g' s' w'/\Ext g s w g' s' w'/\Rep g' s' w' v u/\Mun g s g'
theorem RD.wr {v:AV} (h:RD P g s w a o v) (hI:Inv g s w):WR P g s w a o v s:=by
 obtain⟨u,h1,h2⟩:=h
 exact⟨g,u,w,.inl h1,hI,.refl _ _ _,h2,.refl _ _⟩
theorem qt {v:Value} {z:AV} (h:ofConst v=some z):z ≠ .unk:=by
 rintro rfl
 unfold ofConst at h
 split at h
 ·simp at h
 ·unfold Bk at h;split at h<;>(try split at h)<;>simp at h
def AL (P:Program) (g:Gh) (s:ASt) (w:World) (a:Act) (o:Oper) (v:AV) (i:Nat):Prop:=
 ∃g' u w',(execOp a.eval o).run P w = .ok (.value u) w'/\Inv g' s w'/\Ext g s w g' s w'/\Rep g' s w' v u /\ ∀j,j ≠ i->g'.mu j=g.mu j
theorem Ht {t:TypeId} {z:AV} {i:Nat} (ho:o.op = .alloc t) (hz:uh P t=some z) (hI:Inv g s w) (hi:g.mu i=none) (hH:s.H[i]? = some (.cells false z.cells)):AL P g s w a o (.ptr i 0) i:=by
 obtain⟨zv,iz,h1,h2,h3⟩:=lu hz
 have hr:ga g s w z.cells zv.cells.toList:=(l7 (g:=g) (s:=s) (w:=w) h3).cells (qt h3)
 have hlt:i<s.H.length:=(List.getElem?_eq_some_iff.1 hH).1
 have eb:=Ext.bind hI hi (.cells zv.cells t)
 refine⟨g.bind i w.heap.size,.pointer (some ⟨w.heap.size,0,none⟩),w.alloc (.cells zv.cells t), ?_,hI.bind hi hlt _ λob hob => ?_,eb,.ptr (by simp[Gh.bind]),λj hj=>by simp[Gh.bind,hj]⟩
 ·simp only[execOp,ho,Instr.alloc,Sem.run_bind,vd h1 h2,Result.andThen_ok]
  simp[newVar,newRow]
 ·rw[hH]at hob;cases hob
  exact⟨zv.cells.toList,t,⟨[],by simpa using je _ _⟩,hr.mono eb⟩
theorem Hd {t:TypeId} {i:Nat} (ho:o.op = .makeMap t none) (hI:Inv g s w) (hi:g.mu i=none) (hH:s.H[i]? = some (.map [])):AL P g s w a o (.mp i) i:=by
 have hlt:i<s.H.length:=(List.getElem?_eq_some_iff.1 hH).1
 have eb:=Ext.bind hI hi (.map #[] 0)
 refine⟨g.bind i w.heap.size,.map (some w.heap.size),w.alloc (.map #[] 0), ?_,hI.bind hi hlt _ λob hob => ?_,eb,.mp (by simp[Gh.bind]),λj hj=>by simp[Gh.bind,hj]⟩
 ·simp[execOp,ho,Instr.makeMap]
 ·rw[hH]at hob;cases hob
  exact⟨#[],0,by simpa using je _ _,ga.nil _ _ _,ga.nil _ _ _⟩
theorem WR.grow {v:AV} {ob:fq} (hI:Inv g s w) (h:AL P g {s with H:=s.H++[ob]} w a o v s.H.length):WR P g s w a o v {s with H:=s.H++[ob]}:=by
 obtain⟨g',u,w',h1,h2,h3,h4,h5⟩:=h
 exact⟨g',u,w',.inl h1,h2,(Ext.grow hI ob).trans h3,h4,λi hi h=>by rw[h5 i (by omega)];exact h⟩
theorem Rl {t:TypeId} {z:AV} (ho:o.op = .alloc t) (hz:uh P t=some z) (hI:Inv g s w):WR P g s w a o (.ptr s.H.length 0) {s with H:=s.H++[.cells false z.cells]}:=
 .grow hI (Ht ho hz (hI.grow _) (oe hI) (by simp))
theorem Wc {t:TypeId} (ho:o.op = .makeMap t none) (hI:Inv g s w):WR P g s w a o (.mp s.H.length) {s with H:=s.H++[.map []]}:=
 .grow hI (Hd ho (hI.grow _) (oe hI) (by simp))
theorem a2g {t:TypeId} {x:Operand} {y:X} {v:AV} (ho:o.op = .box t x) (hx:gh x=some y) (ex:evX tm y=some v) (hk:v.known=true) (hI:Inv g s w) (ht:ga g s w tm a.tmps.toList) :
  WR P g s w a o (.ptr s.H.length 0) {s with H:=s.H++[.cells false v.cells]}:=by
 have hr:=(fx hx ex ht).cells (by rintro rfl;simp[AV.known]at hk)
 obtain⟨h1,h2,h3⟩:=Gq hI hr t
 refine⟨_,_,_,.inl ?_,h1,h2,h3,.bind _ _ _⟩
 simp[execOp,ho,Instr.box,newVar,newRow]
theorem Ly {z:AV} {zv:Value} {es:Nat} (hr:ga g s w z.cells zv.cells.toList) (hz:z.cells.length=es) (hp:0<es) (n:Nat):ga g s w (flat (List.replicate n z)) (madeCells zv.cells (n*es)).toList:=by
 have hl:∀x ∈ List.replicate n z,x.cells.length=es:=λx hx=>by rw[List.eq_of_mem_replicate hx];exact hz
 have hfl:=lh hl
 rw[List.length_replicate]at hfl
 refine⟨by rw[hfl];simp[madeCells],λk av c h1 h2 => ?_⟩
 have hk:k<n*es:=by rw[<- hfl];exact(List.getElem?_eq_some_iff.1 h1).1
 have hd:k=k / es*es+k % es:=by rw[Nat.mul_comm];exact(Nat.div_add_mod k es).symm
 have hm:k % es<es:=Nat.mod_lt _ hp
 have hq:k / es<n:=Nat.div_lt_of_lt_mul (by rw[Nat.mul_comm];exact hk)
 rw[hd,flat_get hl (n:=k / es) (e:=z) (by simp[hq]) hm]at h1
 have hsz:zv.cells.size=es:=by have:=hr.1;rw[hz]at this;simpa using this.symm
 simp only[madeCells,Array.toList_map,Array.toList_range,bh,de hk,fh,fe]at h2
 subst h2
 rw[hsz]
 have:k % es<zv.cells.size:=by rw[hsz];exact hm
 rw[getElem!_pos zv.cells (k % es) this]
 exact hr.2 (k % es) av _ h1 (by simp[this])
theorem Je {es:Nat} {v:AV} (hv:v.cells.length=es):∀{l:List AV} (h:∀x ∈ l,x.cells.length=es) {i:Nat},i<l.length->flat (l.set i v)=setAt (flat l) (i*es) v.cells
 | [],_,i,hi=>by simp at hi
 | x::l,h,0,_=>by
  have hx:=h x (by simp)
  simp only[c6,kp,Nat.zero_mul,setAt,List.take_zero,bo,dp]
  rw[hv,List.drop_append,List.drop_of_length_le (by omega:x.cells.length<=es),hx]
  simp
 | x::l,h,i+1,hi=>by
  have hx:=h x (by simp)
  have ih:=Je hv (l:=l) (λy hy=>h y (by simp[hy])) (i:=i) (by simpa using hi)
  simp only[c7,kp,ih,setAt]
  have e1:(x.cells++flat l).take ((i+1)*es)=x.cells++(flat l).take (i*es):=by
   rw[List.take_append,au (by rw[hx,Nat.succ_mul];omega),hx,Nat.succ_mul,Nat.add_sub_cancel]
  have e2:(x.cells++flat l).drop ((i+1)*es+v.cells.length)=(flat l).drop (i*es+v.cells.length):=by
   rw[List.drop_append,List.drop_of_length_le (by rw[hx,Nat.succ_mul];omega),hx,bo,Nat.succ_mul]
   congr 1;omega
  rw[e1,e2]
  simp[aj]
theorem Cb {es:Nat}:∀{ps:List (Nat × Nat × X)} {l r:List AV},(∀x ∈ l,x.cells.length=es)->wz tm es l ps=some r->ui tm (flat l) ps=some (flat r)/\(∀x ∈ r,x.cells.length=es)/\r.length=l.length
 | [],l,r,hl,h=>by simp only[wz,fe]at h;subst h;exact⟨rfl,hl,rfl⟩
 | (off,m,x)::ps,l,r,hl,h=>by
  simp only[wz]at h
  split at h
  ·rename_i v hv
   split at h
   ·rename_i hc
    obtain⟨h1,rfl,h3,h4,h5⟩:=hc
    have hl':∀y ∈ l.set (off / m) v,y.cells.length=m:=λy hy=>by
     rcases List.mem_or_eq_of_mem_set hy with hy|rfl
     ·exact hl y hy
     ·exact h1
    obtain⟨k1,k2,k3⟩:=Cb hl' h
    refine⟨?_,k2,by rw[k3];simp⟩
    simp only[ui,hv]
    have hfl:=lh hl
    have hle:off+m<=(flat l).length:=by
     have:(off / m+1)*m<=l.length*m:=Nat.mul_le_mul_right _ h4
     rw[Nat.succ_mul,h3]at this
     omega
    rw[if_pos ⟨h1,hle,h5⟩]
    rw[Je h1 hl h4,h3]at k1
    exact k1
   ·simp at h
  ·simp at h
theorem a4g {t e:TypeId} {len n:Nat} {ag:Bool} {z:AV} {parts:Array (Nat × Operand)} {ps:List (Nat × Nat × X)} {l:List AV} (ho:o.op = .buildSlice t len parts) (hT:P.underlying t=some (.slice e)) (hE:tj P e=some (ag,n,z)) (hsz:len*n<=16777216)
  (hp:il (th λk=>some (k*n,n)) parts.toList=some ps) (hf:wz tm z.cells.length (List.replicate len z) ps=some l) (hI:Inv g s w) (ht:ga g s w tm a.tmps.toList):WR P g s w a o (.sl l (.cap len)) s:=by
 obtain⟨hA,hz,hzl,ie,hie,hby,hes⟩:=qz hE
 obtain⟨zv,iz,h1,h2,h3⟩:=lu hz
 rw[hie]at h1;cases h1
 obtain⟨_,_,hpos,_⟩:=jm hA
 have hzr:ga g s w z.cells zv.cells.toList:=(l7 (g:=g) (s:=s) (w:=w) h3).cells (qt h3)
 rw[hzl]at hf
 have hrep:∀x ∈ List.replicate len z,x.cells.length=n:=λx hx=>by rw[List.eq_of_mem_replicate hx];exact hzl
 obtain⟨k1,k2,k3⟩:=Cb hrep hf
 obtain⟨rc,r1,r2⟩:=Dv ht hp k1 (Ly hzr hzl hpos len)
 have hrun:(Instr.buildSlice t len (parts.map λ(i,x)=>(i,a.eval x))).run P w = .ok (.slice (some ⟨w.heap.size,0,none⟩) len len) (w.alloc (.cells rc e)):=by
  by_cases h0:len*ie.size=0
  ·have hz0:madeCells zv.cells (len*n) = #[]:=by rw[hes]at h0;rw[h0];simp[madeCells,Array.range_zero']
   rw[hz0]at r1
   have hb:¬len*ie.size>2 ^ 24:=by rw[h0];omega
   have r1':Instr.fill (λi=>some (i*ie.size,ie.size)) #[] (parts.toList.map λ(i,x)=>(i,a.eval x))=some rc:=by rw[hes];exact r1
   simp[Instr.buildSlice,run_underlying hT,sizeOf,typeInfo,zeroValue,hie,h0,r1',newRow,Array.range_zero']
  ·exact run_buildSlice w t e len _ rc ie zv hT hie h2 (by rw[hes];omega) h0 (by rw[hes];simpa[madeCells]using r1)
 have hIa:=hI.alloc (.cells rc e)
 have hEa:=Ext.alloc g s w (.cells rc e)
 refine⟨g,_,_,.inl (by simp[execOp,ho,hrun];rfl),hIa,hEa, ?_,.refl _ _⟩
 have hl:l.length=len:=by rw[k3];simp
 have hR:=r2.mono hEa
 refine .sl (b:=w.heap.size) (o:=0) rc.toList hR.1 hR.2 (λk c hk => ?_) (λ_=>rfl) hl (di _) ⟨rfl,λ_ ad had o hw => ?_⟩
 ·have:=Mp hI rc.toList e k c hk
  simpa using this
 ·cases had;exact absurd (hI.Cf hw) (Nat.lt_irrefl _)
theorem Jg {x:AV} {c:Value} (h:Rep g s w x c) (h1:ic x=true):c.oneCell'=true:=by
 cases h<;>first|rfl|(simp[ic]at h1;done)|skip
 rename_i hs
 cases c<;>first|rfl|(simp[scalar]at hs)
theorem ga.vm {l:List AV} {cs:List Value} (h:ga g s w l cs) (h1:l.all ic=true):∀c ∈ cs,c.oneCell'=true:=by
 intro c hc
 obtain⟨k,hk⟩:=c8 hc
 have hlt:k<l.length:=by rw[h.1];exact(List.getElem?_eq_some_iff.1 hk).1
 have hl:=aa hlt
 exact Jg (h.2 k _ c hl hk) (aw.1 h1 _ (List.getElem_mem hlt))
theorem Kg {t:TypeId} {p x:Operand} {p' x':X} {n i off:Nat} {l:List AV} {v:AV} (ho:o.op = .store t p x) (hT:Ig P t=some n) (hp:gh p=some p') (hx:gh x=some x') (ep:evX tm p'=some (.ptr i off)) (ex:evX tm x'=some v)
  (hH:s.H[i]? = some (.cells false l)) (hn:v.cells.length=n) (hle:off+n<=l.length) (h1:v.cells.all ic=true) (hI:Inv g s w) (ht:ga g s w tm a.tmps.toList) :
  WR P g s w a o .undef {s with H:=s.H.set i (.cells false (setAt l off v.cells))}:=by
 obtain⟨b,hb,hu⟩:=(fx hp ep ht).mj
 have hk:v ≠ .unk:=by rintro rfl;simp[AV.cells,ic]at h1
 have hr:=(fx hx ex ht).cells hk
 have h2:∀w,(sizeOf t).run P w = .ok n w:=λw=>by
  unfold Ig at hT
  cases hi:P.info? t with
  | none=>rw[hi]at hT;simp at hT
  | some it=>rw[hi]at hT;simp only[fh,fe]at hT;rw[<- hT];exact nj hi w
 obtain⟨cs,el,⟨rest,hc1⟩,hc2⟩:=hI.obj i b _ hb hH
 have hvs:(a.eval x).cells.size=n:=by have:=hr.1;rw[hn]at this;simpa using this.symm
 have hcl:off+(a.eval x).cells.toList.length<=cs.length:=by have:=hc2.1;simp;omega
 have hsz:off+0+(a.eval x).cells.toList.length<=(cs++rest).toArray.size:=by
  simp only[List.size_toArray,ah];omega
 have hst:=run_storeCells_at (P:=P) b off el (a.eval x).cells.toList 0 (cs++rest).toArray w hc1 hsz (hr.vm h1)
 generalize hw':w.setRow b ((cs++rest).toArray.toList.take (off+0)++(a.eval x).cells.toList++(cs++rest).toArray.toList.drop (off+0+(a.eval x).cells.toList.length)).toArray=w' at hst
 have hset:setAt (cs++rest) off (a.eval x).cells.toList=setAt cs off (a.eval x).cells.toList++rest:=by
  unfold setAt
  rw[List.take_append_of_le_length (by omega),List.drop_append_of_le_length hcl]
  simp[aj]
 have hheap:w'.heap[b]? = some (.cells (setAt cs off (a.eval x).cells.toList++rest).toArray el (0,0)):=by
  rw[<- hw',setRow_heap w b (cs++rest).toArray _ el (0,0) hc1,<- hset]
  rfl
 have hoth:∀c,c ≠ b->w'.heap[c]? = w.heap[c]? := λc hc=>by rw[<- hw'];exact setRow_other w b c _ hc
 have e:Ext g s w g {s with H:=s.H.set i (.cells false (setAt l off v.cells))} w':=
  Ext.write hI (x9.one hoth λc el' fz h=>by rw[hc1]at h;cases h;exact⟨_,_,hheap,by simp only[List.size_toArray,ah,setAt,b7,b8];omega⟩) hb (.inl ⟨l,_,hH,rfl⟩) (by rw[<- hw'];simp) hoth (λ⟨m,hm⟩=>by rw[hH]at hm;cases hm) (by rw[<- hw'];rfl) (by rw[<- hw'];rfl) (by rw[<- hw'];exact⟨rfl,λ_=>di _⟩)
 refine⟨g,undef,w',.inr ⟨?_,rfl⟩,hI.write hb (by rw[hH];simp) e hoth ?_,e,Rep.undef,.refl _ _⟩
 ·simp only[execOp,ho,hu,Instr.storeAt,Instr.sureAddr,Sem.run_bind,Sem.run_pure,Result.andThen_ok,storeVar,h2,hvs,ne_eq,not_true,if_false,hst]
 ·exact⟨_,el,⟨rest,hheap⟩,(hc2.setAt hr off).mono e⟩
theorem Vd {t kt et:TypeId} {m k x:Operand} {m' k' x':X} {kk:KK} {kav v:AV} {i:Nat} {es es':List (AV × AV)} (ho:o.op = .mapUpdate t m k x) (hT:P.underlying t=some (.map kt et)) (hK:KT P kt kk)
  (hm:gh m=some m') (hk:gh k=some k') (hx:gh x=some x') (em:evX tm m'=some (.mp i)) (ek:evX tm k'=some kav) (ex:evX tm x'=some v) (hH:s.H[i]? = some (.map es)) (hlv:ri s.H kk kav es=true) (hl:upA kk kav v es=some es')
  (hf:tk kk kav=true) (hI:Inv g s w) (ht:ga g s w tm a.tmps.toList):WR P g s w a o .undef {s with H:=s.H.set i (.map es')}:=by
 obtain⟨b,hb,hu⟩:=(fx hm em ht).M8
 have hkv:=fx hk ek ht
 have hxv:=fx hx ex ht
 obtain⟨ents,clk,h1,h2,h3⟩:=hI.obj i b _ hb hH
 obtain⟨hck,_,hup⟩:=Ji hI hK hkv hf
 have hblt:b<w.heap.size:=(Array.getElem?_eq_some_iff.1 h1).1
 have fin:∀(ents':Array MapEntry) (clk':Nat),(execOp a.eval o).run P w = .ok .skip {w with heap:=w.heap.setIfInBounds b (.map ents' clk')} ->
   ga g s w (es'.map (·.1)) (ents'.toList.map (·.key))->ga g s w (es'.map (·.2)) (ents'.toList.map (·.val))->WR P g s w a o .undef {s with H:=s.H.set i (.map es')}:=by
  intro ents' clk' hrun r1 r2
  have hoth:∀c,c ≠ b->({w with heap:=w.heap.setIfInBounds b (.map ents' clk')}:World).heap[c]? = w.heap[c]? := λc hc=>by
   show (w.heap.setIfInBounds b _)[c]? = _
   rw[Array.getElem?_setIfInBounds_ne (Ne.symm hc)]
  have hsame:({w with heap:=w.heap.setIfInBounds b (.map ents' clk')}:World).heap[b]? = some (.map ents' clk'):=by
   show (w.heap.setIfInBounds b _)[b]? = _
   simp[hblt]
  have e:Ext g s w g {s with H:=s.H.set i (.map es')} {w with heap:=w.heap.setIfInBounds b (.map ents' clk')}:=
   Ext.write hI (x9.one hoth λc el' fz h=>by rw[h1]at h;cases h) hb (.inr ⟨es,_,hH,rfl⟩) (by simp) hoth (λ_ oo=>by simp only[World.cell?,hsame,h1]) rfl rfl ⟨rfl,λ_=>di _⟩
  exact⟨g,undef,_,.inr ⟨hrun,rfl⟩,hI.write hb (by rw[hH];simp) e hoth ⟨ents',clk',hsame,r1.mono e,r2.mono e⟩,e,Rep.undef,.refl _ _⟩
 have run0:∀(r:Option (Nat × Value)),(Instr.findKey kt (a.eval k) ents.toList).run P w = .ok r w->(∀j v,r=some (j,v) -> ∃e,ents[j]? = some e/\Instr.sameBits 10000 e.key (a.eval k)=true) ->
   (execOp a.eval o).run P w = .ok .skip {w with heap:=w.heap.setIfInBounds b (match r with|some (j,_)=>.map (ents.modify j λe=>{e with key:=a.eval k,val:=a.eval x}) clk|none=>.map (ents.push {key:=a.eval k,val:=a.eval x,born:=clk}) (clk+1))}:=by
  intro r hfk hs
  simp only[execOp,ho,hu,Instr.mapUpdate,Sem.run_bind,gu hT,Result.andThen_ok,Ep h1]
  rw[hck]
  simp only[Result.andThen_ok,hfk]
  cases r with
  | none=>simp[setObj,Sem.run,h1]
  | some p=>
   obtain⟨e,he,hsb⟩:=hs p.1 p.2 rfl
   simp only[he,fh,Option.getD_some,Instr.keyThatStays,hsb,if_true,Sem.run_bind,Sem.run_pure,Result.andThen_ok]
   simp[setObj,Sem.run,h1]
 rcases hup h2 h3 hlv hl with⟨rfl,hr⟩|⟨j,e,c,rfl,hr,he,hsb⟩
 ·refine fin _ _ (run0 _ hr (by simp)) ?_ ?_
  ·simpa using h2.append (ga.one hkv)
  ·simpa using h3.append (ga.one hxv)
 ·have hj:j<ents.size:=by simpa using (List.getElem?_eq_some_iff.1 he).1
  refine fin _ _ (run0 _ hr (λj' v' h=>by cases h;exact⟨e,by simpa using he,hsb⟩)) ?_ ?_
  ·have e3:(es.set j (kav,v)).map (·.1)=(es.map (·.1)).set j kav:=by simp[List.map_set]
   rw[e3]
   have e2:(ents.modify j λe=>{e with key:=a.eval k,val:=a.eval x}).toList.map (·.key)=(ents.toList.map (·.key)).set j (a.eval k):=by
    rw[Array.toList_modify]
    apply List.ext_getElem?
    intro q
    simp only[bh,List.getElem?_modify,b9,dg]
    by_cases hq:j=q
    ·subst hq;rw[he];simp[hj]
    ·cases h:ents.toList[q]? <;> simp[hq]
   rw[e2];exact h2.set j hkv
  ·have e3:(es.set j (kav,v)).map (·.2)=(es.map (·.2)).set j v:=by simp[List.map_set]
   rw[e3]
   have e2:(ents.modify j λe=>{e with key:=a.eval k,val:=a.eval x}).toList.map (·.val)=(ents.toList.map (·.val)).set j (a.eval x):=by
    rw[Array.toList_modify]
    apply List.ext_getElem?
    intro q
    simp only[bh,List.getElem?_modify,b9,dg]
    by_cases hq:j=q
    ·subst hq;rw[he];simp[hj]
    ·cases h:ents.toList[q]? <;> simp[hq]
   rw[e2];exact h3.set j hxv
end
end Go.Proofs.Eng
