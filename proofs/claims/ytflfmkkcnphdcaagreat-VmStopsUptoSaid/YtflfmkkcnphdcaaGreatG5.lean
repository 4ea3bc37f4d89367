/- The engine's calculus, ninth part: what holds behind code, computed from the code's end. No conditions. -/
import Derived.Test.YtflfmkkcnphdcaaGreatG4
import Derived.IntWalk
set_option linter.all false
set_option linter.deprecated false
set_option linter.unnecessarySimpa false
set_option linter.unusedVariables false
set_option linter.unusedSimpArgs false
set_option linter.defProp false
namespace Go.Proofs.Eng
abbrev Env := Nat -> AV
def Hw (e : Env) (d : Nat) (v : AV) : Env := fun n => if n = d then v else e n
def tmE (nt : Nat) (e : Env) : List AV := (List.range nt).map e
def tk (l : List AV) : Env := fun n => l.getD n .undef
theorem Db {nt n : Nat} {e : Env} (h : n < nt) : (tmE nt e)[n]? = some (e n) := by simp [tmE, h]
theorem a5f {nt n : Nat} {e : Env} (h : n < nt) : evX (tmE nt e) (.t n) = some (e n) := Db h
theorem a5h {tm : List AV} {v : AV} : evX tm (.c v) = some v := by rw [evX]
theorem a1k {tm : List AV} {s : ASt} {x : X} : opA tm s (.mov x) = ((evX tm x).map (.val · s)) := Eq.trans rfl rfl
theorem Yg {tm : List AV} {s : ASt} {c : X} {a : X} {b : X} : opA tm s (.pick c a b) = (
  match evX tm c, evX tm a, evX tm b with
  | some (.v (.bool c)), some a, some b => some (.val (if c then a else b) s)
  | _, _, _ => none) := Eq.trans rfl rfl
theorem Td {tm : List AV} {s : ASt} {l : List AV} : opA tm s (.alloc l) = (some (.val (.ptr s.H.length 0) { s with H := s.H ++ [.cells false l] })) := Eq.trans rfl rfl
theorem a22 {tm : List AV} {s : ASt} {x : X} : opA tm s (.box x) = ((evX tm x).bind fun a => if a.known then some (.val (.ptr s.H.length 0) { s with H := s.H ++ [.cells false a.cells] }) else none) := Eq.trans rfl rfl
theorem Sv {tm : List AV} {s : ASt} {z : List AV} {ps : List (Nat × Nat × X)} : opA tm s (.build z ps) = ((tw tm z ps).map fun l => .val (.agg l) s) := Eq.trans rfl rfl
theorem a2b {tm : List AV} {s : ASt} {z : AV} {n : Nat} {ps : List (Nat × Nat × X)} : opA tm s (.bsl z n ps) = ((xc tm z.cells.length (List.replicate n z) ps).map fun l => .val (.sl l (.cap n)) s) := Eq.trans rfl rfl
theorem Yd {tm : List AV} {s : ASt} {ag : Bool} {n : Nat} {a : X} : opA tm s (.load ag n a) = (((evX tm a).bind (rb s ag n)).map (.val · s)) := Eq.trans rfl rfl
theorem Wm {tm : List AV} {s : ASt} {n : Nat} {a : X} {x : X} : opA tm s (.store n a x) = (
  match evX tm a, evX tm x with
  | some a, some x => (tr s n x a).map (.val .undef ·)
  | _, _ => none) := Eq.trans rfl rfl
theorem Sx {tm : List AV} {s : ASt} {x : X} : opA tm s (.iu x) = (
  match evX tm x with
  | some (.ptr i o) => some (.val (.ptr i o) s)
  | some (.ip l o) => some (.val (.ip l o) s)
  | some (.fn f l) => some (.val (.fn f l) s)
  | some (.bm f l) => some (.val (.bm f l) s)
  | _ => none) := Eq.trans rfl rfl
theorem a3l {tm : List AV} {s : ASt} {op : BinOp} {x : X} {y : X} : opA tm s (.bin op x y) = (
  match evX tm x, evX tm y with
  | some a, some b => (Fv op a b).map (.val · s)
  | _, _ => none) := Eq.trans rfl rfl
theorem a3w {tm : List AV} {s : ASt} {neg : Bool} {x : X} {y : X} : opA tm s (.eqb neg x y) = (
  match evX tm x, evX tm y with
  | some (.v (.bool a)), some (.v (.bool b)) => some (.val (.bool (neg ^^ (a == b))) s)
  | _, _ => none) := Eq.trans rfl rfl
theorem a3p {tm : List AV} {s : ASt} {neg : Bool} {x : X} {y : X} : opA tm s (.eqi neg x y) = (
  match evX tm x, evX tm y with
  | some a, some b => (Fh y.isC a b).map fun r => .val (.bool (neg ^^ r)) s
  | _, _ => none) := Eq.trans rfl rfl
theorem a4c {tm : List AV} {s : ASt} {neg : Bool} {x : X} {y : X} : opA tm s (.eqs neg x y) = (
  match evX tm x, evX tm y with
  | some a, some b => (Ju a b).map fun r => .val (.bool (neg ^^ r)) s
  | _, _ => none) := Eq.trans rfl rfl
theorem Zp {tm : List AV} {s : ASt} {es : Nat} {x y n v d : X} : opA tm s (.Lu es x y n v d) = (
  match evX tm x, (evX tm y).bind (A3 s), evX tm n, evX tm v, evX tm d with
  | some (.sl l t), some [z], some (.v (.int _ k)), some q, some _ =>
   if k = l.length ∧ z.cells.length = es ∧ z.cells.all gv = true then (Kj s es l t [q]).map fun (a, s) => .val a s else none
  | _, _, _, _, _ => none) := Eq.trans rfl rfl
theorem a6d {tm : List AV} {s : ASt} {op : UnOp} {x : X} : opA tm s (.un op x) = (((evX tm x).bind (unA op)).map (.val · s)) := Eq.trans rfl rfl
theorem Ya {tm : List AV} {s : ASt} {k : IntKind} {x : X} : opA tm s (.conv k x) = (
  match evX tm x with
  | some (.v (.int _ n)) => some (.val (.v (.int k (k.wrap n))) s)
  | _ => none) := Eq.trans rfl rfl
theorem Xv {tm : List AV} {s : ASt} {t : TypeId} {x : X} : opA tm s (.Kh t x) = ((evX tm x).map fun a => .val (.iface t a) s) := Eq.trans rfl rfl
theorem a0t {tm : List AV} {s : ASt} {f : FuncId} {caps : List X} : opA tm s (.B3 f caps) = ((im (evX tm) caps).map fun l => .val (.fn f l) s) := Eq.trans rfl rfl
theorem a07 {tm : List AV} {s : ASt} {f : FuncId} {caps : List X} : opA tm s (.tu f caps) = ((im (evX tm) caps).map fun l => .val (.bm f l) s) := Eq.trans rfl rfl
theorem Ts {tm : List AV} {s : ASt}  : opA tm s (.r9) = (some (.val (.mp s.H.length) { s with H := s.H ++ [.map []] })) := Eq.trans rfl rfl
theorem Ub {tm : List AV} {s : ASt} {es : Nat} {x : X} {lo : Option X} {hi : Option X} {mx : Option X} : opA tm s (.slice es x lo hi mx) = (
  match evX tm x with
  | some (.sl l t) =>
   if l.all fun x => x.cells.length == es then
   match j8 l.length 0 lo tm, j8 l.length l.length hi tm with
   | some a, some b =>
    match mx with
    | none => (qt es l t a b none).map (.val · s)
    | some m => if hi.isSome then (j8 l.length 0 (some m) tm).bind fun m => (qt es l t a b (some m)).map (.val · s) else none
   | _, _ => none
   else none
  | some (.bs i off len es' ag) =>
   match j8 len 0 lo tm, j8 len len hi tm with
   | some a, some b => (zr i off len es es' ag a b hi.isSome (mx.map (evX tm))).map (.val · s)
   | _, _ => none
  | _ => none) := Eq.trans rfl rfl
theorem Vj {tm : List AV} {s : ASt} {d : Nat} {x : X} : opA tm s (.gp d x) = (
  match evX tm x with
  | some (.ptr i o) => some (.val (.ptr i (o + d)) s)
  | some (.ip l o) => if o + d <= l.length then some (.val (.ip l (o + d)) s) else none
  | _ => none) := Eq.trans rfl rfl
theorem Rs {tm : List AV} {s : ASt} {es : Nat} {x : X} {ix : X} : opA tm s (.iw es x ix) = (
  match evX tm x, evX tm ix with
  | some (.sl l _), some (.v (.int _ n)) =>
   if 0 <= n ∧ (l.all fun x => x.cells.length == es) then (l[n.toNat]?).map fun e => .val (.ip e.cells 0) s else none
  | some (.bs i off len es' _), some (.v (.int _ n)) =>
   if 0 <= n ∧ n < len ∧ es = es' then some (.val (.ptr i (off + n.toNat * es)) s) else none
  | _, _ => none) := Eq.trans rfl rfl
theorem Qe {tm : List AV} {s : ASt} {len : Nat} {es : Nat} {x : X} {ix : X} : opA tm s (.w7 len es x ix) = (
  match evX tm x, evX tm ix with
  | some (.ptr i o), some (.v (.int _ n)) => if 0 <= n ∧ n < len then some (.val (.ptr i (o + n.toNat * es)) s) else none
  | some (.ip l o), some (.v (.int _ n)) => if 0 <= n ∧ n < len ∧ o + n.toNat * es <= l.length then some (.val (.ip l (o + n.toNat * es)) s) else none
  | _, _ => none) := Eq.trans rfl rfl
theorem a0f {tm : List AV} {s : ASt} {len : Nat} {es : Nat} {ag : Bool} {x : X} {ix : X} : opA tm s (.Iz len es ag x ix) = (
  match evX tm x, evX tm ix with
  | some (.agg l), some (.v (.int _ n)) => if 0 <= n ∧ n < len then (uw ag es (l.drop (n.toNat * es))).map (.val · s) else none
  | _, _ => none) := Eq.trans rfl rfl
theorem Yv {tm : List AV} {s : ASt} {x : X} {ix : X} : opA tm s (.Ie x ix) = (
  match evX tm x, evX tm ix with
  | some (.v (.string b)), some (.v (.int _ n)) => if 0 <= n then (b.toList[n.toNat]?).map fun c => .val (.v (.int .u8 c.toNat)) s else none
  | _, _ => none) := Eq.trans rfl rfl
theorem Xl {tm : List AV} {s : ASt} {z : AV} {ok : Bool} {st : KK} {m : X} {k : X} : opA tm s (.look z ok st m k) = (
  match evX tm m, evX tm k with
  | some (.mp i), some k =>
   if tf st k then
   match s.H[i]? with
   | some (.map es) =>
    if u7 s.H st k es then
    match nv st k es with
    | some (some x) => some (.val (if ok then .tup [x, .bool true] else x) s)
    | some none => some (.val (if ok then .tup [z, .bool false] else z) s)
    | none => none
    else none
   | _ => none
   else none
  | _, _ => none) := Eq.trans rfl rfl
theorem T6 {tm : List AV} {s : ASt} {st : KK} {m : X} {k : X} {x : X} : opA tm s (.rh st m k x) = (
  match evX tm m, evX tm k, evX tm x with
  | some (.mp i), some k, some x =>
   if tf st k then
   match s.H[i]? with
   | some (.map es) => if u7 s.H st k es then (upA st k x es).map fun es => .val .undef { s with H := s.H.set i (.map es) } else none
   | _ => none
   else none
  | _, _, _ => none) := Eq.trans rfl rfl
theorem a2f {tm : List AV} {s : ASt} {x : X} {i : Nat} : opA tm s (.ext x i) = (
  match evX tm x with
  | some (.tup l) => (l[i]?).map (.val · s)
  | _ => none) := Eq.trans rfl rfl
theorem a0i {tm : List AV} {s : ASt} {t : TypeId} {ok : Bool} {z : AV} {x : X} : opA tm s (.Sc t ok z x) = (
  match evX tm x with
  | some (.iface u a) =>
   if u = t then some (.val (if ok then .tup [a, .bool true] else a) s)
   else if ok then some (.val (.tup [z, .bool false]) s) else none
  | some (.v .nilIface) => if ok then some (.val (.tup [z, .bool false]) s) else none
  | _ => none) := Eq.trans rfl rfl
theorem a0p {tm : List AV} {s : ASt} {f : X} {args : List X} : opA tm s (.call f args) = (
  match evX tm f, im (evX tm) args with
  | some (.fn g caps), some l => some (.call g (l ++ caps))
  | some (.bm g fs), some l => some (.call g (fs ++ l))
  | _, _ => none) := Eq.trans rfl rfl
theorem a58 {tm : List AV} {s : ASt} {es : Nat} {bs : Option Bool} {x : X} {y : X} : opA tm s (.app es bs x y) = (
  match evX tm x, (evX tm y).bind (A3 s) with
  | some (.sl l t), some xs => (qi s es bs l t xs).map fun (a, s) => .val a s
  | some (.bs i off len es' ag), some xs => if bs.isSome then (Qr s es i off len es' ag xs).map fun (a, s) => .val a s else none
  | _, _ => none) := Eq.trans rfl rfl
def a0l (s : ASt) (es : Nat) (ag tl : Bool) (a : AV) : List AV -> Option OpR
 | [] => some (.val (.sl [] (sf a)) s)
 | x :: l => if (x :: l).length <= 1073741824 ∧ ((x :: l).all fun x => x.cells.length == es && x.cells.all gv) then (match tl with
  | true => some (.val (.sl (x :: l) (.tl s.T.length 0)) { s with T := s.T ++ [0] })
  | false => some (.val (.bs s.H.length 0 (x :: l).length es ag) { s with H := s.H ++ [.cells false (flat (x :: l))] })) else none
theorem Kw {s : ASt} {es : Nat} {ag tl : Bool} {a : AV} : a0l s es ag tl a [] = some (.val (.sl [] (sf a)) s) := Eq.trans rfl rfl
theorem Gj {s : ASt} {es : Nat} {ag : Bool} {a x : AV} {l : List AV} : a0l s es ag false a (x :: l) = if (x :: l).length <= 1073741824 ∧ ((x :: l).all fun x => x.cells.length == es && x.cells.all gv) then some (.val (.bs s.H.length 0 (x :: l).length es ag) { s with H := s.H ++ [.cells false (flat (x :: l))] }) else none := Eq.trans rfl rfl
theorem a0e {s : ASt} {es : Nat} {ag : Bool} {a : AV} {l : List AV} (hl : l ≠ []) (h1 : l.length <= 1073741824) (h2 : (l.all fun x => x.cells.length == es && x.cells.all gv) = true) : a0l s es ag false a l = some (.val (.bs s.H.length 0 l.length es ag) { s with H := s.H ++ [.cells false (flat l)] }) := by
 cases l with
 | nil => exact absurd rfl hl
 | cons x l => rw [Gj, if_pos ⟨h1, h2⟩]
theorem We {tm : List AV} {s : ASt} {es : Nat} {ag tl : Bool} {x : X} : opA tm s (.clone es ag tl x) = (evX tm x).bind fun a => (kj s a).bind (a0l s es ag tl a) := by
 rw [opA]
 cases evX tm x with
 | none => rfl
 | some a =>
  simp only [Option.bind_some, Option.getD_some]
  cases kj s a with
  | none => rfl
  | some l => cases l <;> rfl
theorem Y7 {tm : List AV} {s : ASt} {x : X} : opA tm s (.oz x) = (
  match evX tm x with
  | some (.sl l _) => some (.val (.int l.length) s)
  | some (.bs _ _ n _ _) => some (.val (.int n) s)
  | _ => none) := Eq.trans rfl rfl
theorem Zz {tm : List AV} {s : ASt} {x : X} : opA tm s (.J3 x) = (
  match evX tm x with
  | some (.bs i off _ es _) => if 0 < es then some (.val (.cp i off es) s) else none
  | _ => none) := Eq.trans rfl rfl
theorem a26 {tm : List AV} {s : ASt} {neg : Bool} {x : X} {y : X} : opA tm s (.eqp neg x y) = (
  match evX tm x, evX tm y with
  | some a, some b => (N4 a b).map fun r => .val (.bool (neg ^^ r)) s
  | _, _ => none) := Eq.trans rfl rfl
theorem V8 {H : List fp} {b : Bool} {k : AV} {es : List (AV × AV)} : u7 H (.sc b) k es = true := rfl
theorem Yi {tm : List AV} {s : ASt} {x : X} : opA tm s (.Eb x) = (
  match evX tm x with
  | some (.v (.string b)) => some (.val (.int b.size) s)
  | _ => none) := Eq.trans rfl rfl
theorem a4h {tm : List AV} {s : ASt} {x : X} {y : X} : opA tm s (.max x y) = (
  match evX tm x, evX tm y with
  | some (.v (.int k a)), some (.v (.int _ b)) => some (.val (.v (.int k (if b > a then b else a))) s)
  | _, _ => none) := Eq.trans rfl rfl
theorem a4u {tm : List AV} {s : ASt} {x : X} {y : X} : opA tm s (.min x y) = (
  match evX tm x, evX tm y with
  | some (.v (.int k a)), some (.v (.int _ b)) => some (.val (.v (.int k (if b < a then b else a))) s)
  | _, _ => none) := Eq.trans rfl rfl
theorem W8 {tm : List AV} {s : ASt}  : opA tm s (.tj) = (some .tj) := Eq.trans rfl rfl
theorem a2p {tm : List AV} {s : ASt} {f : X} {args : List X} : opA tm s (.dfr f args) = (
  match evX tm f, im (evX tm) args with
  | some (.fn g caps), some l => some (.dfr g (l ++ caps))
  | _, _ => none) := Eq.trans rfl rfl
theorem Wp {tm : List AV} {s : ASt} {x : X} : opA tm s (.panic x) = (
  match evX tm x with
  | some (.iface t a) => some (.panic (.iface t a))
  | _ => none) := Eq.trans rfl rfl
theorem a5m {nt d : Nat} {e : Env} {v : AV} : put (tmE nt e) (some d) v = tmE nt (Hw e d v) := by
 apply List.ext_getElem?
 intro n
 simp only [put, tmE, b9, de, List.length_range, bh, Hw]
 by_cases h : d = n
 ·subst h
  by_cases h2 : d < nt <;> simp [h2, Hw]
 ·simp only [h, if_false]
  cases hr : (List.range nt)[n]? with
  | none => rfl
  | some m =>
   have hm : m = n := by
    rw [List.getElem?_eq_some_iff] at hr
    obtain ⟨h1, h2⟩ := hr
    simpa using h2.symm
   subst hm
   simp [Hw, Ne.symm h]
theorem a5o {tm : List AV} {v : AV} : put tm none v = tm := rfl
theorem Yy {e : Env} {d : Nat} {v : AV} : Hw e d v d = v := by simp [Hw]
theorem a04 {e : Env} {d n : Nat} {v : AV} (h : n ≠ d) : Hw e d v n = e n := by simp [Hw, h]
theorem D7 (l : List AV) (nt : Nat) (h : l.length <= nt) : l ++ List.replicate (nt - l.length) .undef = tmE nt (tk l) := by
 apply List.ext_getElem?
 intro n
 simp only [tmE, tk, bh]
 by_cases hn : n < nt
 ·rw [dc hn]
  simp only [ff]
  by_cases h1 : n < l.length
  ·rw [ae h1]; simp [h1, tk]
  ·rw [af (by omega), List.getElem?_replicate]
   simp [h1, show n - l.length < nt - l.length by omega, tk]
 ·rw [cz (by simp; omega), cz (by simp; omega)]; rfl
theorem vh {l : List AV} : (AV.agg l).cells = l := rfl
theorem Q2 {l : List AV} : (AV.agg l).known = true := rfl
theorem Nc {x : Value} : (AV.v x).cells = [.v x] := rfl
theorem Zu {x : Value} : (AV.v x).known = true := rfl
theorem Ij {x : Value} : gv (AV.v x) = true := rfl
theorem U8 {l : List AV} {o : Nat} : (AV.ip l o).cells = [.ip l o] := rfl
theorem Tn {l : List AV} {o : Nat} : (AV.ip l o).known = true := rfl
theorem Yb {l : List AV} {o : Nat} : gv (AV.ip l o) = true := rfl
theorem Qv {i o : Nat} : (AV.ptr i o).cells = [.ptr i o] := rfl
theorem Qb {i o : Nat} : (AV.ptr i o).known = true := rfl
theorem Rz {i o : Nat} : gv (AV.ptr i o) = true := rfl
theorem Tg {l : List AV} {t : Tl} : (AV.sl l t).cells = [.sl l t] := rfl
theorem Ul {l : List AV} {t : Tl} : (AV.sl l t).known = true := rfl
theorem O9 {l : List AV} {t : Tl} : gv (AV.sl l t) = true := rfl
theorem Uz {i o n es : Nat} {ag : Bool} : (AV.bs i o n es ag).cells = [.bs i o n es ag] := rfl
theorem Us {i o n es : Nat} {ag : Bool} : (AV.bs i o n es ag).known = true := rfl
theorem a0m {i o n es : Nat} {ag : Bool} : gv (AV.bs i o n es ag) = true := rfl
theorem Wq {i : Nat} : (AV.mp i).cells = [.mp i] := rfl
theorem Vb {i : Nat} : (AV.mp i).known = true := rfl
theorem a0g {i : Nat} : gv (AV.mp i) = true := rfl
theorem U5 {f : FuncId} {l : List AV} : (AV.fn f l).cells = [.fn f l] := rfl
theorem S7 {i o es : Nat} : (AV.cp i o es).cells = [.cp i o es] := rfl
theorem Uo {i o es : Nat} : (AV.cp i o es).known = true := rfl
theorem Ww {i o es : Nat} : gv (AV.cp i o es) = true := rfl
theorem Tt {f : FuncId} {l : List AV} : (AV.bm f l).cells = [.bm f l] := rfl
theorem S4 {f : FuncId} {l : List AV} : (AV.fn f l).known = true := rfl
theorem Tp {f : FuncId} {l : List AV} : (AV.bm f l).known = true := rfl
theorem Yo {f : FuncId} {l : List AV} : gv (AV.fn f l) = true := rfl
theorem Xo {f : FuncId} {l : List AV} : gv (AV.bm f l) = true := rfl
theorem Ko {t : TypeId} {x : AV} : (AV.iface t x).cells = [.iface t x] := rfl
theorem Kg {t : TypeId} {x : AV} : (AV.iface t x).known = true := rfl
theorem M8 {t : TypeId} {x : AV} : gv (AV.iface t x) = true := rfl
theorem ks {x : Value} : gw (.v x) = true := Eq.trans rfl rfl
theorem lf {l : List AV} {t : Tl} : gw (.sl l t) = (t.pure && fy l) := by rw [gw]
theorem lz {l : List AV} : gw (.agg l) = fy l := by rw [gw]
theorem I7 {l : List AV} : gw (.tup l) = fy l := by rw [gw]
theorem Be {t : TypeId} {x : AV} : gw (.iface t x) = gw x := by rw [gw]
theorem y9 {f : FuncId} {l : List AV} : gw (.fn f l) = fy l := by rw [gw]
theorem a5k {f : FuncId} {l : List AV} : gw (.bm f l) = fy l := by rw [gw]
theorem Oo {l : List AV} {o : Nat} : gw (.ip l o) = fy l := by rw [gw]
theorem ga : fy [] = true := by rw [fy]
theorem fq {x : AV} {l : List AV} : fy (x :: l) = (gw x && fy l) := by rw [fy]
theorem a4f : Tl.pure .nil = true := Eq.trans rfl rfl
theorem Zk : Tl.pure .none = true := Eq.trans rfl rfl
theorem a29 {n : Nat} : Tl.pure (.cap n) = true := Eq.trans rfl rfl
section
variable {c : gr} {md : FuncId -> Md} {pfs : FuncId -> Option PF}
def Fx1 {α : Sort _} (_ : α) : Type := Unit
def Fx2 {α β : Sort _} (_ : α) (_ : β) : Type := Unit
def Fx4 {α β γ δ : Sort _} (_ : α) (_ : β) (_ : γ) (_ : δ) : Type := Unit
def OW (o : Option OpR) (K : AV -> ASt -> Prop) (KC : FuncId -> List AV -> Prop) (KP : AV -> Prop) (KD : FuncId -> List AV -> Prop) (_ : Fx4 K KC KP KD) : Prop :=
 match o with
 | some (.val v s) => K v s
 | some (.call f l) => KC f l
 | some (.panic v) => KP v
 | some (.dfr f l) => KD f l
 | _ => False
def GW (o : Option Bool) (A B : Prop) (_ : Fx2 A B) : Prop :=
 match o with
 | some b => (b = false -> A) ∧ (b = true -> B)
 | none => False
def IW (o : Option AV) (A B : Prop) (_ : Fx2 A B) : Prop :=
 match o with
 | some (.v (.bool t)) => (t = true -> A) ∧ (t = false -> B)
 | _ => False
def CW (c : gr) (md : FuncId -> Md) (pm : Bool) (s : ASt) (f : FuncId) (args : List AV) (K KP : AV -> ASt -> Prop) (_ : Fx2 K KP) : Prop :=
 match lh c md pm s f args with
 | some (.ret v, s) => K v s
 | some (.pan v, s) => KP v s
 | none => False
def EW (o : Option (ft × St)) (Q : ft -> St -> Prop) (_ : Fx1 Q) : Prop :=
 match o with
 | some (r, st) => Q r st
 | none => False
def W (c : gr) (md : FuncId -> Md) (b : PC) (st : St) (Q : ft -> St -> Prop) (_ : Fx1 Q) : Prop := EW (ic c md (og c md) b st) Q ()
def WS (c : gr) (md : FuncId -> Md) (l : List PI) (st : St) (Q : ft -> St -> Prop) (_ : Fx1 Q) : Prop := EW (js c md l st) Q ()
def LQ (J : St -> Prop) (Q : ft -> St -> Prop) : ft -> St -> Prop
 | .normal, st => J st
 | .exit n, st => Q (.exit n) st
 | .ret, st => Q .ret st
 | .pan v, st => Q (.pan v) st
def BQ (n : Nat) (Q : ft -> St -> Prop) : ft -> St -> Prop
 | .exit i, st => if i = n then Q .normal st else Q (.exit i) st
 | .normal, st => Q .normal st
 | .ret, st => Q .ret st
 | .pan v, st => Q (.pan v) st
variable {st : St} {Q : ft -> St -> Prop} {J : St -> Prop} {K : AV -> ASt -> Prop} {KC : FuncId -> List AV -> Prop} {KP : AV -> Prop} {KD : FuncId -> List AV -> Prop}
@[congr] theorem OW_congr {o o' : Option OpR} (h : True -> o = o') : OW o K KC KP KD () = OW o' K KC KP KD () := by rw [h trivial]
@[congr] theorem GW_congr {o o' : Option Bool} {A B : Prop} (h : True -> o = o') : GW o A B () = GW o' A B () := by rw [h trivial]
@[congr] theorem IW_congr {o o' : Option AV} {A B : Prop} (h : True -> o = o') : IW o A B () = IW o' A B () := by rw [h trivial]
@[congr] theorem CW_congr {pm : Bool} {s s' : ASt} {f f' : FuncId} {args args' : List AV} {K KP : AV -> ASt -> Prop} (h1 : True -> s = s') (h2 : True -> f = f') (h3 : True -> args = args') : CW c md pm s f args K KP () = CW c md pm s' f' args' K KP () := by rw [h1 trivial, h2 trivial, h3 trivial]
@[congr] theorem EW_congr {o o' : Option (ft × St)} (h : True -> o = o') : EW o Q () = EW o' Q () := by rw [h trivial]
@[congr] theorem W_congr {b : PC} {st' : St} (h : True -> st = st') : W c md b st Q () = W c md b st' Q () := by rw [h trivial]
@[congr] theorem WS_congr {l : List PI} {st' : St} (h : True -> st = st') : WS c md l st Q () = WS c md l st' Q () := by rw [h trivial]
@[congr] theorem LQ_congr {r r' : ft} {st' : St} (h : True -> r = r') (h2 : True -> st = st') : LQ J Q r st = LQ J Q r' st' := by rw [h trivial, h2 trivial]
@[congr] theorem BQ_congr {n : Nat} {r r' : ft} {st' : St} (h : True -> r = r') (h2 : True -> st = st') : BQ n Q r st = BQ n Q r' st' := by rw [h trivial, h2 trivial]
theorem a73 : LQ J Q .normal st = J st := rfl
theorem a6x : LQ J Q .ret st = Q .ret st := rfl
theorem a78 {n : Nat} : LQ J Q (.exit n) st = Q (.exit n) st := rfl
theorem a6n {v : AV} : LQ J Q (.pan v) st = Q (.pan v) st := rfl
theorem a6m {n : Nat} : BQ n Q .normal st = Q .normal st := rfl
theorem a6j {n : Nat} : BQ n Q .ret st = Q .ret st := rfl
theorem a6s {n : Nat} : BQ n Q (.exit n) st = Q .normal st := by simp [BQ]
theorem a6v {n : Nat} {v : AV} : BQ n Q (.pan v) st = Q (.pan v) st := rfl
theorem a4q {v : AV} {s : ASt} : OW (some (.val v s)) K KC KP KD () = K v s := rfl
theorem Zd {f : FuncId} {l : List AV} : OW (some (.call f l)) K KC KP KD () = KC f l := rfl
theorem Up {v : AV} : OW (some (.panic v)) K KC KP KD () = KP v := rfl
theorem a5d {f : FuncId} {l : List AV} : OW (some (.dfr f l)) K KC KP KD () = KD f l := rfl
theorem a3k {p : Prop} [Decidable p] {o : Option OpR} : OW (if p then o else none) K KC KP KD () = (p ∧ OW o K KC KP KD ()) := by
 by_cases h : p <;> simp [h, OW]
theorem a38 {α : Type} {o : Option α} {g : α -> OpR} : OW (o.map g) K KC KP KD () = ∃ x, o = some x ∧ OW (some (g x)) K KC KP KD () := by
 cases o <;> simp [OW]
theorem Xd {α : Type} {o : Option α} {g : α -> Option OpR} : OW (o.bind g) K KC KP KD () = ∃ x, o = some x ∧ OW (g x) K KC KP KD () := by
 cases o <;> simp [OW]
theorem Qm {A B : Prop} : GW (some true) A B () = B := by simp [GW]
theorem a5j {A B : Prop} : GW (some false) A B () = A := by simp [GW]
theorem Ut {tm : List AV} : gy tm none = some true := by rw [gy]
theorem B6 {nt t : Nat} {e : Env} {w b : Bool} (h : t < nt) (h2 : e t = .v (.bool b)) : gy (tmE nt e) (some (t, w)) = some (b == w) := by simp only [gy, Db h, h2]
theorem Vp {nt t : Nat} {e : Env} {w : Bool} (h : t < nt) (h2 : e t = .tup []) : gy (tmE nt e) (some (t, w)) = some false := by simp only [gy, Db h, h2]
theorem a1v : W c md .skip st Q () = Q .normal st := rfl
theorem a50 {n : Nat} : W c md (.exit n) st Q () = Q (.exit n) st := rfl
theorem a5u : W c md .ret st Q () = Q .ret st := rfl
theorem a5l {l : List PI} : W c md (.reg l) st Q () = WS c md l st Q () := rfl
theorem a1e {a b : PC} : W c md (.seq a b) st Q () = W c md a st (LQ (fun st' => W c md b st' Q ()) Q) () := by
 unfold W
 rw [ic]
 cases ic c md (og c md) a st with
 | none => rfl
 | some x =>
  obtain ⟨r, st'⟩ := x
  cases r <;> rfl
theorem De {n : Nat} {a : PC} : W c md (.block n a) st Q () = W c md a st (BQ n Q) () := by
 unfold W
 rw [ic]
 cases ic c md (og c md) a st with
 | none => rfl
 | some x =>
  obtain ⟨r, st'⟩ := x
  cases r with
  | exit i =>
   simp only [EW, BQ]
   by_cases h : i = n <;> simp [h]
  | _ => rfl
theorem a6e {x : X} {a b : PC} : W c md (.cond x a b) st Q () = IW (evX st.tm x) (W c md a st Q ()) (W c md b st Q ()) () := by
 unfold W
 rw [ic]
 cases h : evX st.tm x with
 | none => rfl
 | some v =>
  cases v with
  | v x =>
   cases x with
   | bool t => cases t <;> simp [IW]
   | _ => rfl
  | _ => rfl
theorem a6h {A B : Prop} : IW (some (.v (.bool true))) A B () = A := by simp [IW]
theorem a7b {A B : Prop} : IW (some (.v (.bool false))) A B () = B := by simp [IW]
theorem a4a : WS c md [] st Q () = Q .normal st := rfl
theorem Zi {i : PI} {l : List PI} {tm : List AV} {df : List (FuncId × List AV)} {s : ASt} : WS c md (i :: l) ⟨tm, df, s⟩ Q () =
  GW (gy tm i.g) (WS c md l ⟨put tm i.dst .undef, df, s⟩ Q ())
   (OW (opA tm s i.op) (fun v s => WS c md l ⟨put tm i.dst v, df, s⟩ Q ())
    (fun f args => CW c md false s f args (fun v s => WS c md l ⟨put tm i.dst v, df, s⟩ Q ()) (fun v s => Q (.pan v) ⟨tm, df, s⟩) ())
    (fun v => Q (.pan v) ⟨tm, df, s⟩)
    (fun f args => WS c md l ⟨put tm i.dst .undef, (f, args) :: df, s⟩ Q ()) ()) () := by
 unfold WS
 rw [js, ij]
 cases gy tm i.g with
 | none => rfl
 | some b =>
  cases b with
  | false => simp [GW]
  | true =>
   simp only [Qm]
   cases opA tm s i.op with
   | none => rfl
   | some o =>
    cases o with
    | call f args =>
     simp only [OW, CW]
     cases lh c md false s f args with
     | none => rfl
     | some x =>
      obtain ⟨r, s'⟩ := x
      cases r <;> rfl
    | _ => rfl
def HW (o : Option (St × Option (AV × ASt))) (K : St -> Prop) (KP : AV -> ASt -> Prop) (_ : Fx2 K KP) : Prop :=
 match o with
 | some (st', none) => K st'
 | some (_, some (v, s)) => KP v s
 | none => False
variable {L : St -> Prop} {LP : AV -> ASt -> Prop} {hd : List PI} {i : PI} {l : List PI} {tm : List AV} {df : List (FuncId × List AV)} {s s0 : ASt} {k : Nat} {v0 : AV}
@[congr] theorem HW_congr {o o' : Option (St × Option (AV × ASt))} (h : True -> o = o') : HW o L LP () = HW o' L LP () := by rw [h trivial]
@[congr] theorem headA_congr {p : Option (Nat × AV × ASt)} {st' : St} (h : True -> st = st') : jk c md hd l st p = jk c md hd l st' p := by rw [h trivial]
theorem a2j : HW (jk c md hd [] st none) L LP () = L st := rfl
theorem Uy : HW (jk c md hd [] st (some (k, v0, s0))) L LP () = LP v0 s0 := rfl
theorem Xn : HW (jk c md hd (i :: l) ⟨tm, df, s⟩ none) L LP () =
  GW (gy tm i.g) (HW (jk c md hd l ⟨put tm i.dst .undef, df, s⟩ none) L LP ())
   (OW (opA tm s i.op) (fun v s' => HW (jk c md hd l ⟨put tm i.dst v, df, s'⟩ none) L LP ())
    (fun f args => CW c md true s f args (fun v s' => HW (jk c md hd l ⟨put tm i.dst v, df, s'⟩ none) L LP ()) (fun v _ => Cz hd i = true ∧ HW (jk c md hd l ⟨tm, df, s⟩ (some (i.ix, v, s))) L LP ()) ())
    (fun v => Cz hd i = true ∧ HW (jk c md hd l ⟨tm, df, s⟩ (some (i.ix, v, s))) L LP ())
    (fun f args => HW (jk c md hd l ⟨put tm i.dst .undef, (f, args) :: df, s⟩ none) L LP ()) ()) () := by
 rw [jk, ij]
 cases gy tm i.g with
 | none => rfl
 | some b =>
  cases b with
  | false => simp [GW]
  | true =>
   simp only [Qm]
   cases opA tm s i.op with
   | none => rfl
   | some o =>
    cases o with
    | call f args =>
     simp only [OW, CW]
     cases lh c md true s f args with
     | none => rfl
     | some x =>
      obtain ⟨r, s'⟩ := x
      cases r with
      | ret v => rfl
      | pan v =>
       simp only
       by_cases h : Cz hd i = true <;> simp [h, HW]
    | panic v =>
     simp only [OW]
     by_cases h : Cz hd i = true <;> simp [h, HW]
    | _ => rfl
theorem Zb {i : PI} {ns : List Nat} : W c md (.jn (9000000 :: ns) (i :: l)) st Q () = WS c md [i] st (LQ (fun st1 => W c md (.jn ns l) st1 (LQ (fun st2 => Q .normal st2) (fun _ _ => False)) ()) (fun _ _ => False)) () := by
 unfold W WS
 rw [ic, Tc]
 simp only [js]
 cases ij c md false i st with
 | none => rfl
 | some x =>
  obtain ⟨ex, st1⟩ := x
  cases ex with
  | normal =>
   simp only [W, ic]
   show EW _ Q () = EW (m6 c md ns l st1) (LQ (fun st2 => Q .normal st2) (fun _ _ => False)) ()
   cases m6 c md ns l st1 with
   | none => rfl
   | some y =>
    obtain ⟨ex2, st2⟩ := y
    cases ex2 <;> rfl
  | _ => rfl
theorem La : W c md (.jn [] l) st Q () = WS c md l st Q () := rfl
def PW (o : Option St) (K : St -> Prop) (_ : Fx1 K) : Prop :=
 match o with
 | some st => K st
 | none => False
@[congr] theorem PW_congr {o o' : Option St} (h : True -> o = o') : PW o L () = PW o' L () := by rw [h trivial]
@[congr] theorem runP_congr {st' : St} (h : True -> st = st') : pz c md l st = pz c md l st' := by rw [h trivial]
theorem a25 : PW (pz c md [] st) L () = L st := rfl
theorem Z7 : PW (pz c md (i :: l) ⟨tm, df, s⟩) L () =
  GW (gy tm i.g) (PW (pz c md l ⟨put tm i.dst .undef, df, s⟩) L ())
   (OW (opA tm s i.op) (fun v s' => PW (pz c md l ⟨put tm i.dst v, df, s'⟩) L ())
    (fun f args => CW c md true s f args (fun v s' => PW (pz c md l ⟨put tm i.dst v, df, s'⟩) L ()) (fun _ _ => False) ())
    (fun _ => False)
    (fun f args => PW (pz c md l ⟨put tm i.dst .undef, (f, args) :: df, s⟩) L ()) ()) () := by
 rw [pz, ij]
 cases gy tm i.g with
 | none => rfl
 | some b =>
  cases b with
  | false => simp [GW]
  | true =>
   simp only [Qm]
   cases opA tm s i.op with
   | none => rfl
   | some o =>
    cases o with
    | call f args =>
     simp only [OW, CW]
     cases lh c md true s f args with
     | none => rfl
     | some x =>
      obtain ⟨r, s'⟩ := x
      cases r <;> rfl
    | _ => rfl
def CK (i : PI) (tm : List AV) (s s' : ASt) : List PI -> Prop
 | [] => True
 | j :: l => (i.pre.contains j.ix || j.op.kd == .S || lv tm s s' j.op) = true ∧ CK i tm s s' l
theorem Lv {i : PI} {s' : ASt} : CK i tm s s' l = ((l.all fun j => i.pre.contains j.ix || j.op.kd == .S || lv tm s s' j.op) = true) := by
 induction l with
 | nil => simp [CK]
 | cons j l ih => rw [CK, ih]; simp only [da, dw]
def JW (t : Bool) (A : Prop) : Prop := t = true ∨ A
theorem a69 {A : Prop} : JW true A = True := by simp [JW]
theorem a6a {A : Prop} : JW false A = A := by simp [JW]
theorem a3x {s' : ASt} : CK i tm s s' [] = True := rfl
@[congr] theorem JW_congr {t t' : Bool} {A : Prop} (h : True -> t = t') : JW t A = JW t' A := by rw [h trivial]
theorem Xh {j : PI} {s' : ASt} : CK i tm s s' (j :: l) = (JW (j.op.kd == .S) (JW (i.pre.contains j.ix) (OW (opA tm s j.op) (fun v _ => OW (opA tm s' j.op) (fun v' _ => me v v' = true) (fun _ _ => False) (fun _ => False) (fun _ _ => False) ()) (fun _ _ => False) (fun _ => False) (fun _ _ => False) ())) ∧ CK i tm s s' l) := by
 rw [CK]
 unfold JW
 cases hc : (i.pre.contains j.ix) with
 | true => simp
 | false =>
  cases hk : (j.op.kd == .S) with
  | true => simp
  | false =>
   simp only [Bool.false_or, dx, false_or]
   congr 1
   unfold lv
   cases opA tm s j.op with
   | none => simp [OW]
   | some r =>
    cases r with
    | val v z =>
     simp only [OW]
     cases opA tm s' j.op with
     | none => simp
     | some r' => cases r' <;> simp
    | _ => simp [OW]
theorem a54 (x : X) : ((PO.mov x).kd == .S) = true := Eq.trans rfl rfl
theorem Ye (c a b : X) : ((PO.pick c a b).kd == .S) = true := Eq.trans rfl rfl
theorem T5 (z : List AV) (ps : List (Nat × Nat × X)) : ((PO.build z ps).kd == .S) = true := Eq.trans rfl rfl
theorem a1m (z : AV) (n : Nat) (ps : List (Nat × Nat × X)) : ((PO.bsl z n ps).kd == .S) = true := Eq.trans rfl rfl
theorem U2 (x : X) : ((PO.iu x).kd == .S) = true := Eq.trans rfl rfl
theorem a30 (o : BinOp) (x y : X) : ((PO.bin o x y).kd == .S) = true := Eq.trans rfl rfl
theorem a3c (n : Bool) (x y : X) : ((PO.eqb n x y).kd == .S) = true := Eq.trans rfl rfl
theorem a3y (n : Bool) (x y : X) : ((PO.eqi n x y).kd == .S) = true := Eq.trans rfl rfl
theorem a1n (n : Bool) (x y : X) : ((PO.eqs n x y).kd == .S) = true := Eq.trans rfl rfl
theorem a48 (n : Bool) (x y : X) : ((PO.eqp n x y).kd == .S) = true := Eq.trans rfl rfl
theorem Yr (x : X) : ((PO.J3 x).kd == .S) = true := Eq.trans rfl rfl
theorem a63 (o : UnOp) (x : X) : ((PO.un o x).kd == .S) = true := Eq.trans rfl rfl
theorem Xy (k : IntKind) (x : X) : ((PO.conv k x).kd == .S) = true := Eq.trans rfl rfl
theorem Zt (t : TypeId) (x : X) : ((PO.Kh t x).kd == .S) = true := Eq.trans rfl rfl
theorem Uf (n : Nat) (x : X) : ((PO.gp n x).kd == .S) = true := Eq.trans rfl rfl
theorem Vq (n : Nat) (x y : X) : ((PO.iw n x y).kd == .S) = true := Eq.trans rfl rfl
theorem X9 (x : X) : ((PO.oz x).kd == .S) = true := Eq.trans rfl rfl
theorem a08 (x : X) : ((PO.Eb x).kd == .S) = true := Eq.trans rfl rfl
theorem a2d (x : X) (n : Nat) : ((PO.ext x n).kd == .S) = true := Eq.trans rfl rfl
theorem U4 (n : Nat) (x : X) (lo hi mx : Option X) : ((PO.slice n x lo hi mx).kd == .S) = true := Eq.trans rfl rfl
theorem a03 (a : Bool) (n : Nat) (x : X) : ((PO.load a n x).kd == .S) = false := Eq.trans rfl rfl
def KQ (i : PI) (l : List PI) (tm : List AV) (s : ASt) (J : St -> Prop) (JP : AV -> ASt -> Prop) : ft -> St -> Prop
 | .normal, st2 => CK i tm s st2.s l ∧ J st2
 | .pan v, st2 => JP v st2.s
 | _, _ => False
@[congr] theorem KQ_congr {J : St -> Prop} {JP : AV -> ASt -> Prop} {r r' : ft} {st' : St} (h : True -> r = r') (h2 : True -> st = st') : KQ i l tm s J JP r st = KQ i l tm s J JP r' st' := by rw [h trivial, h2 trivial]
theorem a6f {J : St -> Prop} {JP : AV -> ASt -> Prop} {tm' : List AV} {s' : ASt} : KQ i l tm s J JP .normal ⟨tm', df, s'⟩ = (CK i tm s s' l ∧ J ⟨tm', df, s'⟩) := rfl
theorem a6z {J : St -> Prop} {JP : AV -> ASt -> Prop} {tm' : List AV} {s' : ASt} {v : AV} : KQ i l tm s J JP (.pan v) ⟨tm', df, s'⟩ = JP v s' := rfl
theorem It {n : Nat} {ns : List Nat} (hn : n < 1000) (hl : l.drop n = []) : W c md (.jn (n :: ns) l) st Q () =
  HW (jk c md (l.take n) (l.take n) st none) (fun st' => Q .normal st') (fun v s => Q (.pan v) { st with tm := kl (l.take n) st.tm, s }) () := by
 unfold W
 rw [ic, Cg (by omega), if_pos hn, Nat.mod_eq_of_lt hn, hl]
 cases jk c md (l.take n) (l.take n) st none with
 | none => rfl
 | some x =>
  obtain ⟨st', p⟩ := x
  cases p <;> rfl
theorem J9 {n : Nat} {ns : List Nat} {b : PI} {l' : List PI} (hn : n < 1000) (hl : l.drop n = b :: l') : W c md (.jn (n :: ns) l) st Q () =
  HW (jk c md (l.take n) (l.take n) st none) (fun st' => WS c md [b] st' (LQ (fun st2 => W c md (.jn ns l') st2 Q ()) Q) ()) (fun v s => Q (.pan v) { st with tm := kl (l.take n) st.tm, s }) () := by
 unfold W
 rw [ic, Cg (by omega), if_pos hn, Nat.mod_eq_of_lt hn, hl]
 cases jk c md (l.take n) (l.take n) st none with
 | none => rfl
 | some x =>
  obtain ⟨st', p⟩ := x
  cases p with
  | some p => rfl
  | none =>
   simp only [HW, WS, js]
   cases ij c md false b st' with
   | none => rfl
   | some y =>
    obtain ⟨r, st2⟩ := y
    cases r <;> rfl
def DW (c : gr) (md : FuncId -> Md) (ns : List Nat) (l : List PI) (st : St) (Q : ft -> St -> Prop) (_ : Fx1 Q) : Prop :=
 match l with
 | [] => Q .normal st
 | b :: l' => WS c md [b] st (LQ (fun st2 => W c md (.jn ns l') st2 Q ()) Q) ()
theorem a2x {ns : List Nat} : DW c md ns [] st Q () = Q .normal st := Eq.trans rfl rfl
theorem a0s {ns : List Nat} {b : PI} {l' : List PI} : DW c md ns (b :: l') st Q () = WS c md [b] st (LQ (fun st2 => W c md (.jn ns l') st2 Q ()) Q) () := Eq.trans rfl rfl
theorem a2c {n : Nat} {ns : List Nat} (hn : n < 1000) : W c md (.jn (n :: ns) l) st Q () =
  HW (jk c md (l.take n) (l.take n) st none) (fun st' => DW c md ns (l.drop n) st' Q ()) (fun v s => Q (.pan v) { st with tm := kl (l.take n) st.tm, s }) () := by
 cases hl : l.drop n with
 | nil => rw [It hn hl]; rfl
 | cons b l' => rw [J9 hn hl]; rfl
def QW (c : gr) (md : FuncId -> Md) (l1 l2 : List PI) (ns : List Nat) (lr la : List PI) (st0 st1 : St) (Q : ft -> St -> Prop) (_ : Fx1 Q) : Prop :=
 match l2 with
 | [] => False
 | i :: l' => WS c md [i] st1 (KQ i l1 st1.tm st1.s (fun st2 => PW (pz c md l' st2) (fun st3 => DW c md ns lr st3 Q ()) ()) (fun v s => Q (.pan v) { st0 with tm := kl la st0.tm, s })) ()
theorem Xx {l1 l' lr la : List PI} {ns : List Nat} {st0 : St} : QW c md l1 (i :: l') ns lr la st0 ⟨tm, df, s⟩ Q () =
  WS c md [i] ⟨tm, df, s⟩ (KQ i l1 tm s (fun st2 => PW (pz c md l' st2) (fun st3 => DW c md ns lr st3 Q ()) ()) (fun v s => Q (.pan v) { st0 with tm := kl la st0.tm, s })) () := Eq.trans rfl rfl
theorem a0b {n : Nat} {ns : List Nat} (hn : 1000 <= n) (hn2 : n < 1001000) : W c md (.jn (n :: ns) l) st Q () =
  PW (pz c md ((l.take (n % 1000)).take (n / 1000 - 1)) st) (fun st1 => QW c md ((l.take (n % 1000)).take (n / 1000 - 1)) ((l.take (n % 1000)).drop (n / 1000 - 1)) ns (l.drop (n % 1000)) (l.take (n % 1000)) st st1 Q ()) () := by
 unfold W
 rw [ic, Cg (by omega), if_neg (by omega)]
 rw [na, if_pos (by omega)]
 generalize l.take (n % 1000) = l1
 generalize l.drop (n % 1000) = lr
 unfold zq
 cases pz c md (l1.take (n / 1000 - 1)) st with
 | none => rfl
 | some st1 =>
  simp only [PW]
  cases l1.drop (n / 1000 - 1) with
  | nil => rfl
  | cons i l' =>
   simp only [QW, WS, js]
   cases ij c md false i st1 with
   | none => rfl
   | some y =>
    obtain ⟨r, st2⟩ := y
    cases r with
    | normal =>
     by_cases h : ((l1.take (n / 1000 - 1)).all fun j => i.pre.contains j.ix || j.op.kd == .S || lv st1.tm st1.s st2.s j.op) = true
     ·have hk : ∀ {J : St -> Prop} {JP : AV -> ASt -> Prop}, KQ i (l1.take (n / 1000 - 1)) st1.tm st1.s J JP .normal st2 = J st2 := by
       intro J JP
       rw [KQ, Lv, eq_true h, true_and]
      simp only [EW, h, if_true]
      rw [hk]
      cases pz c md l' st2 with
      | none => rfl
      | some st3 =>
       simp only [ff]
       cases lr with
       | nil => rfl
       | cons b l2 =>
        simp only [DW, WS, js, PW]
        cases ij c md false b st3 with
        | none => rfl
        | some y => obtain ⟨r, st4⟩ := y; cases r <;> rfl
     ·have hk : ∀ {J : St -> Prop} {JP : AV -> ASt -> Prop}, KQ i (l1.take (n / 1000 - 1)) st1.tm st1.s J JP .normal st2 = False := by
       intro J JP
       rw [KQ, Lv, eq_false h, false_and]
      simp only [EW, h]
      rw [hk]
      rfl
    | pan v => rfl
    | _ => rfl
def M1 (b : Bool) (A B : Prop) (_ : Fx2 A B) : Prop := if b = true then A else B
@[congr] theorem M1_congr {b b' : Bool} {A B : Prop} (h : True -> b = b') : M1 b A B () = M1 b' A B () := by rw [h trivial]
theorem a2q {A B : Prop} : M1 true A B () = A := by simp [M1]
theorem a2u {A B : Prop} : M1 false A B () = B := by simp [M1]
def M3 (o : Option (AV × fp)) (K : AV -> fp -> Prop) (_ : Fx1 K) : Prop :=
 match o with
 | some (v, ob) => K v ob
 | none => False
@[congr] theorem M3_congr {o o' : Option (AV × fp)} {K : AV -> fp -> Prop} (h : True -> o = o') : M3 o K () = M3 o' K () := by rw [h trivial]
theorem Wx {v : AV} {ob : fp} {K : AV -> fp -> Prop} : M3 (some (v, ob)) K () = K v ob := Eq.trans rfl rfl
theorem Rj (l : List AV) : ((PO.alloc l).kd == .S) = false := Eq.trans rfl rfl
theorem a32 (x : X) : (PO.mov x).ik = true := Eq.trans rfl rfl
theorem Yk (c a b : X) : (PO.pick c a b).ik = true := Eq.trans rfl rfl
theorem Uh (z : List AV) (ps : List (Nat × Nat × X)) : (PO.build z ps).ik = true := Eq.trans rfl rfl
theorem a41 (z : AV) (n : Nat) (ps : List (Nat × Nat × X)) : (PO.bsl z n ps).ik = true := Eq.trans rfl rfl
theorem Vg (x : X) : (PO.iu x).ik = true := Eq.trans rfl rfl
theorem a2y (o : BinOp) (x y : X) : (PO.bin o x y).ik = true := Eq.trans rfl rfl
theorem a43 (n : Bool) (x y : X) : (PO.eqb n x y).ik = true := Eq.trans rfl rfl
theorem a4k (n : Bool) (x y : X) : (PO.eqi n x y).ik = true := Eq.trans rfl rfl
theorem a34 (n : Bool) (x y : X) : (PO.eqs n x y).ik = true := Eq.trans rfl rfl
theorem a4z (n : Bool) (x y : X) : (PO.eqp n x y).ik = true := Eq.trans rfl rfl
theorem Y5 (x : X) : (PO.J3 x).ik = true := Eq.trans rfl rfl
theorem a66 (o : UnOp) (x : X) : (PO.un o x).ik = true := Eq.trans rfl rfl
theorem a0j (k : IntKind) (x : X) : (PO.conv k x).ik = true := Eq.trans rfl rfl
theorem Zc (t : TypeId) (x : X) : (PO.Kh t x).ik = true := Eq.trans rfl rfl
theorem Zw (f : FuncId) (l : List X) : (PO.B3 f l).ik = true := Eq.trans rfl rfl
theorem a00 (f : FuncId) (l : List X) : (PO.tu f l).ik = true := Eq.trans rfl rfl
theorem Su (n : Nat) (x : X) : (PO.gp n x).ik = true := Eq.trans rfl rfl
theorem Rp (n : Nat) (x y : X) : (PO.iw n x y).ik = true := Eq.trans rfl rfl
theorem Q4 (l n : Nat) (x y : X) : (PO.w7 l n x y).ik = true := Eq.trans rfl rfl
theorem Zy (l n : Nat) (a : Bool) (x y : X) : (PO.Iz l n a x y).ik = true := Eq.trans rfl rfl
theorem Ys (x y : X) : (PO.Ie x y).ik = true := Eq.trans rfl rfl
theorem Zs (x : X) : (PO.oz x).ik = true := Eq.trans rfl rfl
theorem Xu (x : X) : (PO.Eb x).ik = true := Eq.trans rfl rfl
theorem a1l (x : X) (n : Nat) : (PO.ext x n).ik = true := Eq.trans rfl rfl
theorem Vt (n : Nat) (x : X) (lo hi mx : Option X) : (PO.slice n x lo hi mx).ik = true := Eq.trans rfl rfl
theorem a1y (x y : X) : (PO.max x y).ik = true := Eq.trans rfl rfl
theorem a2o (x y : X) : (PO.min x y).ik = true := Eq.trans rfl rfl
theorem Y3 (a : Bool) (n : Nat) (x : X) : (PO.load a n x).ik = true := Eq.trans rfl rfl
theorem Wy (z : AV) (a : Bool) (b : KK) (x y : X) : (PO.look z a b x y).ik = true := Eq.trans rfl rfl
theorem X5 (x : X) (l : List X) : (PO.call x l).ik = true := Eq.trans rfl rfl
theorem a3a (n : Nat) (x y : X) : (PO.app n none x y).ik = true := Eq.trans rfl rfl
theorem Rn (l : List AV) : (PO.alloc l).ik = false := Eq.trans rfl rfl
theorem a1q (x : X) : (PO.box x).ik = false := Eq.trans rfl rfl
theorem Sr : PO.r9.ik = false := Eq.trans rfl rfl
theorem a4p (x : X) : ((PO.mov x).kd == .W) = false := Eq.trans rfl rfl
theorem Yu (c a b : X) : ((PO.pick c a b).kd == .W) = false := Eq.trans rfl rfl
theorem Sj (z : List AV) (ps : List (Nat × Nat × X)) : ((PO.build z ps).kd == .W) = false := Eq.trans rfl rfl
theorem a1w (z : AV) (n : Nat) (ps : List (Nat × Nat × X)) : ((PO.bsl z n ps).kd == .W) = false := Eq.trans rfl rfl
theorem Ss (x : X) : ((PO.iu x).kd == .W) = false := Eq.trans rfl rfl
theorem a4r (o : BinOp) (x y : X) : ((PO.bin o x y).kd == .W) = false := Eq.trans rfl rfl
theorem a1r (n : Bool) (x y : X) : ((PO.eqb n x y).kd == .W) = false := Eq.trans rfl rfl
theorem a2k (n : Bool) (x y : X) : ((PO.eqi n x y).kd == .W) = false := Eq.trans rfl rfl
theorem a4g (n : Bool) (x y : X) : ((PO.eqs n x y).kd == .W) = false := Eq.trans rfl rfl
theorem a47 (n : Bool) (x y : X) : ((PO.eqp n x y).kd == .W) = false := Eq.trans rfl rfl
theorem Yz (x : X) : ((PO.J3 x).kd == .W) = false := Eq.trans rfl rfl
theorem a5s (o : UnOp) (x : X) : ((PO.un o x).kd == .W) = false := Eq.trans rfl rfl
theorem Y6 (k : IntKind) (x : X) : ((PO.conv k x).kd == .W) = false := Eq.trans rfl rfl
theorem Xt (t : TypeId) (x : X) : ((PO.Kh t x).kd == .W) = false := Eq.trans rfl rfl
theorem Yh (f : FuncId) (l : List X) : ((PO.B3 f l).kd == .W) = false := Eq.trans rfl rfl
theorem Yj (f : FuncId) (l : List X) : ((PO.tu f l).kd == .W) = false := Eq.trans rfl rfl
theorem Rx (n : Nat) (x : X) : ((PO.gp n x).kd == .W) = false := Eq.trans rfl rfl
theorem Vr (n : Nat) (x y : X) : ((PO.iw n x y).kd == .W) = false := Eq.trans rfl rfl
theorem Pm (l n : Nat) (x y : X) : ((PO.w7 l n x y).kd == .W) = false := Eq.trans rfl rfl
theorem a0k (l n : Nat) (a : Bool) (x y : X) : ((PO.Iz l n a x y).kd == .W) = false := Eq.trans rfl rfl
theorem Y2 (x y : X) : ((PO.Ie x y).kd == .W) = false := Eq.trans rfl rfl
theorem X6 (x : X) : ((PO.oz x).kd == .W) = false := Eq.trans rfl rfl
theorem Ws (x : X) : ((PO.Eb x).kd == .W) = false := Eq.trans rfl rfl
theorem a52 (x : X) (n : Nat) : ((PO.ext x n).kd == .W) = false := Eq.trans rfl rfl
theorem Sm (n : Nat) (x : X) (lo hi mx : Option X) : ((PO.slice n x lo hi mx).kd == .W) = false := Eq.trans rfl rfl
theorem a1p (x y : X) : ((PO.max x y).kd == .W) = false := Eq.trans rfl rfl
theorem a39 (x y : X) : ((PO.min x y).kd == .W) = false := Eq.trans rfl rfl
theorem Z4 (a : Bool) (n : Nat) (x : X) : ((PO.load a n x).kd == .W) = false := Eq.trans rfl rfl
theorem a0h (z : AV) (a : Bool) (b : KK) (x y : X) : ((PO.look z a b x y).kd == .W) = false := Eq.trans rfl rfl
theorem Yc (x : X) (l : List X) : ((PO.call x l).kd == .W) = false := Eq.trans rfl rfl
theorem a57 (n : Nat) (x y : X) : ((PO.app n none x y).kd == .W) = false := Eq.trans rfl rfl
theorem Sy (l : List AV) : ((PO.alloc l).kd == .W) = false := Eq.trans rfl rfl
theorem a45 (x : X) : ((PO.box x).kd == .W) = false := Eq.trans rfl rfl
theorem Th : (PO.r9.kd == .W) = false := Eq.trans rfl rfl
theorem Wj (n : Nat) (x y : X) : ((PO.store n x y).kd == .W) = true := Eq.trans rfl rfl
theorem Uk (b : KK) (x y z : X) : ((PO.rh b x y z).kd == .W) = true := Eq.trans rfl rfl
theorem Zr (f : FuncId) (l : List X) : ((PO.B3 f l).kd == .S) = true := Eq.trans rfl rfl
theorem a0o (f : FuncId) (l : List X) : ((PO.tu f l).kd == .S) = true := Eq.trans rfl rfl
theorem P8 (l n : Nat) (x y : X) : ((PO.w7 l n x y).kd == .S) = true := Eq.trans rfl rfl
theorem a0v (l n : Nat) (a : Bool) (x y : X) : ((PO.Iz l n a x y).kd == .S) = true := Eq.trans rfl rfl
theorem Z6 (x y : X) : ((PO.Ie x y).kd == .S) = true := Eq.trans rfl rfl
theorem a3n (x y : X) : ((PO.max x y).kd == .S) = true := Eq.trans rfl rfl
theorem a2w (x y : X) : ((PO.min x y).kd == .S) = true := Eq.trans rfl rfl
theorem a1u (n : Nat) (x y : X) : ((PO.app n none x y).kd == .S) = false := Eq.trans rfl rfl
theorem a1o (x : X) : ((PO.box x).kd == .S) = false := Eq.trans rfl rfl
theorem Zh (z : AV) (a : Bool) (b : KK) (x y : X) : ((PO.look z a b x y).kd == .S) = false := Eq.trans rfl rfl
theorem Vh : (PO.r9.kd == .S) = false := Eq.trans rfl rfl
theorem Uq {tm : List AV} {idx : Nat} {l : List AV} : oe tm idx (.alloc l) = some (.ptr idx 0, .cells false l) := Eq.trans rfl rfl
theorem Um {tm : List AV} {idx : Nat} : oe tm idx .r9 = some (.mp idx, .map []) := Eq.trans rfl rfl
theorem a3e {tm : List AV} {idx : Nat} {x : X} : oe tm idx (.box x) = (evX tm x).bind fun a => if a.known = true then some (.ptr idx 0, .cells false a.cells) else none := by
 simp only [oe]; cases evX tm x <;> rfl
def XW (c : gr) (md : FuncId -> Md) (l : List PI) (tm : List AV) (s : ASt) (Z : List fp) (K : List AV -> ASt -> List fp -> Prop) (_ : Fx1 K) : Prop :=
 match x9 c md l tm s Z with
 | some (tm', s', Z') => K tm' s' Z'
 | none => False
@[congr] theorem XW_congr {l : List PI} {tm tm' : List AV} {s s' : ASt} {Z Z' : List fp} {K : List AV -> ASt -> List fp -> Prop} (h1 : True -> tm = tm') (h2 : True -> s = s') (h4 : True -> Z = Z') : XW c md l tm s Z K () = XW c md l tm' s' Z' K () := by rw [h1 trivial, h2 trivial, h4 trivial]
theorem a2e {p : Prop} [Decidable p] {v : AV} {ob : fp} {K : AV -> fp -> Prop} : M3 (if p then some (v, ob) else none) K () = (p ∧ K v ob) := by
 by_cases h : p <;> simp [h, M3]
theorem a35 {Z : List fp} {K : List AV -> ASt -> List fp -> Prop} : XW c md [] tm s Z K () = K tm s Z := Eq.trans rfl rfl
theorem Xw {Z : List fp} {K : List AV -> ASt -> List fp -> Prop} : XW c md (i :: l) tm s Z K () =
  M1 i.op.ik (GW (gy tm i.g) (XW c md l (put tm i.dst .undef) s Z K ()) (OW (opA tm s i.op) (fun v s' => XW c md l (put tm i.dst v) s' Z K ()) (fun f args => CW c md true s f args (fun v s' => XW c md l (put tm i.dst v) s' Z K ()) (fun _ _ => False) ()) (fun _ => False) (fun _ _ => XW c md l (put tm i.dst .undef) s Z K ()) ()) ())
   (M3 (oe tm (s.H.length + Z.length) i.op) (fun v ob => XW c md l (put tm i.dst v) s (Z ++ [ob]) K ()) ()) () := by
 cases hk : i.op.ik with
 | true =>
  rw [a2q]
  unfold XW
  rw [x9, hk]
  simp only [if_true]
  rw [ij]
  cases gy tm i.g with
  | none => rfl
  | some b =>
   cases b with
   | false => simp [GW]
   | true =>
    simp only [Qm]
    cases opA tm s i.op with
    | none => rfl
    | some o =>
     cases o with
     | call f args =>
      simp only [OW, CW]
      cases lh c md true s f args with
      | none => rfl
      | some x =>
       obtain ⟨r, s'⟩ := x
       cases r <;> rfl
     | _ => rfl
 | false =>
  rw [a2u]
  unfold XW
  rw [x9, hk]
  simp only [dx, if_false]
  cases oe tm (s.H.length + Z.length) i.op with
  | none => rfl
  | some x => rfl
def XE (c : gr) (md : FuncId -> Md) (p : PI) (l : List PI) (df : List (FuncId × List AV)) (K : St -> Prop) (tm : List AV) (s : ASt) : Prop :=
 GW (gy tm p.g) (CK p tm s s l ∧ K ⟨put tm p.dst .undef, df, s⟩) (OW (opA tm s p.op) (fun v s' => CK p tm s s' l ∧ K ⟨put tm p.dst v, df, s'⟩) (fun f args => CW c md true s f args (fun v s' => CK p tm s s' l ∧ K ⟨put tm p.dst v, df, s'⟩) (fun _ _ => False) ()) (fun _ => False) (fun f args => CK p tm s s l ∧ K ⟨put tm p.dst .undef, (f, args) :: df, s⟩) ()) ()
def XL (c : gr) (md : FuncId -> Md) (o : Option PI) (l : List PI) (tm : List AV) (df : List (FuncId × List AV)) (s : ASt) (K : St -> Prop) (_ : Fx1 K) : Prop :=
 match o with
 | none => K ⟨tm, df, s⟩
 | some p => M1 (p.op.kd == .W) (XW c md l.dropLast tm s [] (fun tm' s' Z => XE c md p l.dropLast df K tm' ⟨s'.H ++ Z, s'.T⟩) ()) (XW c md l tm s [] (fun tm' s' Z => K ⟨tm', df, ⟨s'.H ++ Z, s'.T⟩⟩) ()) ()
@[congr] theorem XL_congr {o o' : Option PI} {l : List PI} {tm tm' : List AV} {df : List (FuncId × List AV)} {s s' : ASt} {K : St -> Prop} (h0 : True -> o = o') (h1 : True -> tm = tm') (h2 : True -> s = s') : XL c md o l tm df s K () = XL c md o' l tm' df s' K () := by rw [h0 trivial, h1 trivial, h2 trivial]
theorem O0 {p : PI} {K : St -> Prop} : XL c md (some p) l tm df s K () = M1 (p.op.kd == .W) (XW c md l.dropLast tm s [] (fun tm' s' Z => XE c md p l.dropLast df K tm' ⟨s'.H ++ Z, s'.T⟩) ()) (XW c md l tm s [] (fun tm' s' Z => K ⟨tm', df, ⟨s'.H ++ Z, s'.T⟩⟩) ()) () := Eq.trans rfl rfl
theorem a14 {p : PI} {K : St -> Prop} : XE c md p l df K tm s = GW (gy tm p.g) (CK p tm s s l ∧ K ⟨put tm p.dst .undef, df, s⟩) (OW (opA tm s p.op) (fun v s' => CK p tm s s' l ∧ K ⟨put tm p.dst v, df, s'⟩) (fun f args => CW c md true s f args (fun v s' => CK p tm s s' l ∧ K ⟨put tm p.dst v, df, s'⟩) (fun _ _ => False) ()) (fun _ => False) (fun f args => CK p tm s s l ∧ K ⟨put tm p.dst .undef, (f, args) :: df, s⟩) ()) () := Eq.trans rfl rfl
theorem Xe {K : St -> Prop} : (match Fq c md l ⟨tm, df, s⟩ with | some st => K st | none => False) = XL c md l.getLast? l tm df s K () := by
 unfold Fq
 cases l.getLast? with
 | none => rfl
 | some p =>
  rw [O0]
  by_cases hk : (p.op.kd == .W) = true
  ·simp only [hk, if_true, a2q]
   unfold XW
   cases x9 c md l.dropLast tm s [] with
   | none => rfl
   | some x =>
    obtain ⟨tm', s', Z⟩ := x
    simp only
    rw [a14, ij]
    have fin : ∀ (st2 : St), (match (if (l.dropLast.all fun j => p.pre.contains j.ix || j.op.kd == .S || lv tm' ⟨s'.H ++ Z, s'.T⟩ st2.s j.op) = true then some st2 else none : Option St) with | some st => K st | none => False) = (CK p tm' ⟨s'.H ++ Z, s'.T⟩ st2.s l.dropLast ∧ K st2) := by
     intro st2
     rw [Lv]
     by_cases h : (l.dropLast.all fun j => p.pre.contains j.ix || j.op.kd == .S || lv tm' ⟨s'.H ++ Z, s'.T⟩ st2.s j.op) = true
     ·rw [if_pos h, eq_true h, true_and]
     ·rw [if_neg h, eq_false h, false_and]
    cases gy tm' p.g with
    | none => rfl
    | some b =>
     cases b with
     | false => simp only [a5j]; exact fin ⟨_, _, _⟩
     | true =>
      simp only [Qm]
      cases opA tm' ⟨s'.H ++ Z, s'.T⟩ p.op with
      | none => rfl
      | some o =>
       cases o with
       | val v s2 => exact fin ⟨_, _, s2⟩
       | dfr f args => exact fin ⟨_, _, _⟩
       | call f args =>
        simp only [OW, CW]
        cases lh c md true ⟨s'.H ++ Z, s'.T⟩ f args with
        | none => rfl
        | some x =>
         obtain ⟨r, s2⟩ := x
         cases r with
         | ret v => exact fin ⟨_, _, s2⟩
         | pan v => rfl
       | _ => rfl
  ·simp only [Bool.eq_false_iff.2 hk, a2u, dx, if_false]
   unfold XW
   cases x9 c md l tm s [] with
   | none => rfl
   | some x => rfl
theorem Zo {n : Nat} {ns : List Nat} (hn : 1002000 <= n) (hn2 : n < 1003000) : W c md (.jn (n :: ns) l) ⟨tm, df, s⟩ Q () = XL c md (l.take (n % 1000)).getLast? (l.take (n % 1000)) tm df s (fun st => DW c md ns (l.drop (n % 1000)) st Q ()) () := by
 rw [<- Xe]
 unfold W
 rw [ic, Cg (by omega), if_neg (by omega), na, if_neg (by omega)]
 generalize l.take (n % 1000) = l1
 generalize l.drop (n % 1000) = lr
 cases Fq c md l1 ⟨tm, df, s⟩ with
 | none => rfl
 | some st' =>
  simp only [ff]
  cases lr with
  | nil => rfl
  | cons b l2 =>
   simp only [DW, WS, js]
   cases ij c md false b st' with
   | none => rfl
   | some y => obtain ⟨r, st4⟩ := y; cases r <;> rfl
theorem a1s {β : Type} (m : β -> Nat) (I : β -> St -> Prop) {a : PC} (h : ∀ b st, I b st -> W c md a st (LQ (fun st' => ∃ b', m b' < m b ∧ I b' st') Q) ()) {b : β} {st : St} (h0 : I b st) : W c md (.loop a) st Q () := by
 have key : ∀ n b st, m b < n -> I b st -> EW (og c md a st) Q () := by
  intro n
  induction n with
  | zero => intro b st hb; omega
  | succ n ih =>
   intro b st hb hi
   have hw := h b st hi
   unfold W at hw
   rw [Tf]
   cases hx : ic c md (og c md) a st with
   | none => rw [hx] at hw; exact hw.elim
   | some x =>
    obtain ⟨r, st'⟩ := x
    rw [hx] at hw
    cases r with
    | normal =>
     obtain ⟨b', hb', hi'⟩ := hw
     exact ih b' st' (by omega) hi'
    | _ => exact hw
 exact key (m b + 1) b st (by omega) h0
def RA (K : St -> Prop) : ft -> St -> Prop
 | .normal, st1 => st1.df = [] ∧ K st1
 | _, _ => False
def RB (J : ASt -> Prop) (st0 : St) (Q : ft -> St -> Prop) : ft -> St -> Prop
 | .normal, st2 => st2.df = [] ∧ J st2.s
 | .exit id, st2 => st2.df = [] ∧ Q (.exit id) { st0 with s := st2.s }
 | .ret, st2 => st2.df = [] ∧ Q .ret { st0 with s := st2.s }
 | .pan _, _ => False
theorem a5w {K : St -> Prop} {st1 : St} : RA K .normal st1 = (st1.df = [] ∧ K st1) := rfl
theorem a64 {J : ASt -> Prop} {st0 st2 : St} : RB J st0 Q .normal st2 = (st2.df = [] ∧ J st2.s) := rfl
theorem a6r {J : ASt -> Prop} {st0 st2 : St} {n : Nat} : RB J st0 Q (.exit n) st2 = (st2.df = [] ∧ Q (.exit n) { st0 with s := st2.s }) := rfl
theorem a6q {J : ASt -> Prop} {st0 st2 : St} : RB J st0 Q .ret st2 = (st2.df = [] ∧ Q .ret { st0 with s := st2.s }) := rfl
theorem Wl {it : FuncId -> List AV -> ASt -> Nat -> Option (Option (List AV))} {x : X} {ps : List Nat} {pa pb : PC} {gf : FuncId} {caps : List AV} (hx : evX st.tm x = some (.fn gf caps)) (hdf : st.df = []) (N : Nat) (hN : N < 1000000) (I : Nat -> ASt -> Prop)
  (h : ∀ i s, I i s -> (it gf caps s i = some none ∧ Q .normal { st with s }) ∨ (i < N ∧ ∃ xs, it gf caps s i = some (some xs) ∧ xs.length = ps.length ∧ W c md pa ⟨xh st.tm ps xs, [], s⟩ (RA fun st1 => W c md pb st1 (RB (I (i + 1)) st Q) ()) ())) (h0 : I 0 st.s) : W c md (.vq it x ps pa pb) st Q () := by
 have key : ∀ k i s, N + 1 <= k + i -> i <= N -> I i s -> ∃ ex s', Bq (it gf caps) (fun xs s => if xs.length = ps.length then (match ic c md (og c md) pa ⟨xh st.tm ps xs, [], s⟩ with | some (.normal, st1) => if st1.df.isEmpty then ic c md (og c md) pb st1 else none | _ => none) else none) k i s = some (ex, s') ∧ Q ex { st with s := s' } := by
  intro k
  induction k with
  | zero => intro i s h1 h2 _; omega
  | succ k ih =>
   intro i s h1 h2 hI
   rcases h i s hI with ⟨e1, hq⟩ | ⟨hiN, xs, e1, e2, hw⟩
   ·exact ⟨.normal, s, by simp only [Bq, e1], hq⟩
   ·unfold W EW at hw
    simp only [Bq, e1, if_pos e2]
    cases hxa : ic c md (og c md) pa ⟨xh st.tm ps xs, [], s⟩ with
    | none => rw [hxa] at hw; exact hw.elim
    | some r =>
     obtain ⟨r1, st1⟩ := r
     rw [hxa] at hw
     cases r1 with
     | normal =>
      obtain ⟨hd1, hw⟩ := hw
      simp only [hd1, List.isEmpty_nil, if_true]
      cases hxb : ic c md (og c md) pb st1 with
      | none => rw [hxb] at hw; exact hw.elim
      | some r =>
       obtain ⟨r2, st2⟩ := r
       rw [hxb] at hw
       cases r2 with
       | normal =>
        obtain ⟨hd2, hw⟩ := hw
        simp only [hd2, List.isEmpty_nil, if_true]
        exact ih (i + 1) st2.s (by omega) (by omega) hw
       | exit n =>
        obtain ⟨hd2, hw⟩ := hw
        exact ⟨.exit n, st2.s, by simp only [hd2, List.isEmpty_nil, if_true], hw⟩
       | ret =>
        obtain ⟨hd2, hw⟩ := hw
        exact ⟨.ret, st2.s, by simp only [hd2, List.isEmpty_nil, if_true], hw⟩
       | pan v => exact hw.elim
     | _ => exact hw.elim
 obtain ⟨ex, s', e1, hq⟩ := key 1000000 0 st.s (by omega) (dj _) h0
 have e2 : ic c md (og c md) (.vq it x ps pa pb) st = some (ex, { st with s := s' }) := by
  have hd : st.df.isEmpty = true := by rw [hdf]; rfl
  unfold ic
  simp only [hx]
  rw [if_pos hd]
  exact congrArg (Option.map fun (r : ft × ASt) => (r.1, { st with s := r.2 })) e1
 unfold W EW
 rw [e2]
 exact hq
theorem EW.mono {o : Option (ft × St)} {Q Q' : ft -> St -> Prop} (h : EW o Q ()) (hq : ∀ r st, Q r st -> Q' r st) : EW o Q' () := by
 cases o with
 | none => exact h.elim
 | some x => exact hq _ _ h
theorem W.mono {b : PC} {Q Q' : ft -> St -> Prop} (h : W c md b st Q ()) (hq : ∀ r st, Q r st -> Q' r st) : W c md b st Q' () := EW.mono h hq
def EQ (nt : Nat) (df : List (FuncId × List AV)) (J : Env -> List fp -> List Nat -> Prop) (st : St) : Prop := ∃ E H T, st = ⟨tmE nt E, df, ⟨H, T⟩⟩ ∧ J E H T
theorem je {nt : Nat} {df : List (FuncId × List AV)} {J : Env -> List fp -> List Nat -> Prop} {E : Env} {H : List fp} {T : List Nat} (h : J E H T) : EQ nt df J ⟨tmE nt E, df, ⟨H, T⟩⟩ := ⟨E, H, T, rfl, h⟩
theorem iy {β : Type} (m : β -> Nat) (I : β -> Env -> List fp -> List Nat -> Prop) {a : PC} {nt : Nat} {df : List (FuncId × List AV)} (h : ∀ b E H T, I b E H T -> W c md a ⟨tmE nt E, df, ⟨H, T⟩⟩ (LQ (EQ nt df fun E H T => ∃ b', m b' < m b ∧ I b' E H T) Q) ()) (b : β) {E : Env} {H : List fp} {T : List Nat} (h0 : I b E H T) : W c md (.loop a) ⟨tmE nt E, df, ⟨H, T⟩⟩ Q () := by
 refine a1s m (fun b st => ∃ E H T, st = ⟨tmE nt E, df, ⟨H, T⟩⟩ ∧ I b E H T) ?_ (b := b) ⟨E, H, T, rfl, h0⟩
 rintro b st ⟨E, H, T, rfl, hI⟩
 refine (h b E H T hI).mono fun r st' hr => ?_
 cases r with
 | normal =>
  obtain ⟨E', H', T', rfl, b', h1, h2⟩ := hr
  exact ⟨b', h1, E', H', T', rfl, h2⟩
 | _ => exact hr
def Out (md : FuncId -> Md) (pfs : FuncId -> Option PF) (f : FuncId) (args : List AV) (PR PP : AV -> Prop) : Prop :=
 ∃ out s out', run md pfs f args ⟨[], []⟩ = some (out, s) ∧ out.gg 1020 s = some out' ∧ match out' with | .ret v => PR v | .pan v => PP v
def RQ (res : List PR) (PR PP : AV -> Prop) : ft -> St -> Prop
 | .pan v, st => st.df = [] ∧ ∃ v', gg 1020 st.s v = some v' ∧ PP v'
 | .exit _, _ => False
 | _, st => st.df = [] ∧ ∃ l, ly st.tm st.s res = some l ∧ ∃ v', gg 1020 st.s (pd l) = some v' ∧ PR v'
theorem a4j {res : List PR} {PR PP : AV -> Prop} {st : St} : RQ res PR PP .ret st = (st.df = [] ∧ ∃ l, ly st.tm st.s res = some l ∧ ∃ v', gg 1020 st.s (pd l) = some v' ∧ PR v') := rfl
theorem Re {res : List PR} {PR PP : AV -> Prop} {st : St} : RQ res PR PP .normal st = (st.df = [] ∧ ∃ l, ly st.tm st.s res = some l ∧ ∃ v', gg 1020 st.s (pd l) = some v' ∧ PR v') := rfl
theorem a3f {res : List PR} {PR PP : AV -> Prop} {v : AV} {st : St} : RQ res PR PP (.pan v) st = (st.df = [] ∧ ∃ v', gg 1020 st.s v = some v' ∧ PP v') := rfl
theorem Nb {pc : PC} {st : St} {Q : ft -> St -> Prop} {c : gr} {md : FuncId -> Md} (h : W c md pc st Q ()) : pc.N2 = none := by
 cases pc with
 | ora o => unfold W at h; simp only [ic] at h; exact (show False from h).elim
 | _ => rfl
theorem ir {f : FuncId} {pf : PF} (hp : pfs f = some pf) {args : List AV} {PR PP : AV -> Prop} (hn : args.length <= pf.nt) (h : W (run md pfs) md pf.body ⟨tmE pf.nt (tk args), [], ⟨[], []⟩⟩ (RQ pf.res PR PP) ()) : Out md pfs f args PR PP := by
 unfold Out
 rw [run_eq hp (Nb h)]
 unfold Du
 rw [D7 args pf.nt hn]
 unfold W at h
 cases hx : ic (run md pfs) md (og (run md pfs) md) pf.body ⟨tmE pf.nt (tk args), [], ⟨[], []⟩⟩ with
 | none => rw [hx] at h; exact h.elim
 | some x =>
  obtain ⟨r, st⟩ := x
  obtain ⟨tm, df, s⟩ := st
  rw [hx] at h
  cases r with
  | exit i => exact h.elim
  | pan v =>
   obtain ⟨h1, v', h2, h3⟩ := h
   simp only at h1; subst h1
   exact ⟨.pan v, s, .pan v', by simp only [List.isEmpty_nil, dy, ej, dx, if_false]; rfl, by simp only [jr.gg]; rw [h2]; rfl, h3⟩
  | normal =>
   obtain ⟨h1, l, h2, v', h3, h4⟩ := h
   simp only at h1; subst h1
   refine ⟨.ret (pd l), s, .ret v', ?_, by simp only [jr.gg]; rw [h3]; rfl, h4⟩
   simp only [List.isEmpty_nil, dy, ej, dx, if_false]
   show (ly tm s pf.res).map _ = _
   simp only at h2
   rw [h2]; rfl
  | ret =>
   obtain ⟨h1, l, h2, v', h3, h4⟩ := h
   simp only at h1; subst h1
   refine ⟨.ret (pd l), s, .ret v', ?_, by simp only [jr.gg]; rw [h3]; rfl, h4⟩
   simp only [List.isEmpty_nil, dy, ej, dx, if_false]
   show (ly tm s pf.res).map _ = _
   simp only at h2
   rw [h2]; rfl
theorem Out.call {f : FuncId} {args : List AV} {PR : AV -> Prop} (h : Out md pfs f args PR fun _ => False) (hm : md f = .pure) (ha : fy args = true) : ∃ v, PR v ∧ ∀ pm s K KP, CW (run md pfs) md pm s f args K KP () = K v s := by
 obtain ⟨out, s', out', h1, h2, h3⟩ := h
 cases out' with
 | pan v => exact h3.elim
 | ret v => exact ⟨v, h3, fun pm s K KP => by simp [CW, lh, hm, ha, vt s ha, h1, h2, Dd s ha]⟩
theorem Out.call2 {f : FuncId} {args : List AV} {PR PP : AV -> Prop} (h : Out md pfs f args PR PP) (hm : md f = .pure) (ha : fy args = true) : (∃ v, PR v ∧ ∀ pm s K KP, CW (run md pfs) md pm s f args K KP () = K v s) ∨ (∃ v, PP v ∧ ∀ pm s K KP, CW (run md pfs) md pm s f args K KP () = KP v s) := by
 obtain ⟨out, s', out', h1, h2, h3⟩ := h
 cases out' with
 | pan v => exact .inr ⟨v, h3, fun pm s K KP => by simp [CW, lh, hm, ha, vt s ha, h1, h2, Dd s ha]⟩
 | ret v => exact .inl ⟨v, h3, fun pm s K KP => by simp [CW, lh, hm, ha, vt s ha, h1, h2, Dd s ha]⟩
theorem Out.mono {f : FuncId} {args : List AV} {PR PP PR' PP' : AV -> Prop} (h : Out md pfs f args PR PP) (h1 : ∀ v, PR v -> PR' v) (h2 : ∀ v, PP v -> PP' v) : Out md pfs f args PR' PP' := by
 obtain ⟨out, s', out', e1, e2, e3⟩ := h
 refine ⟨out, s', out', e1, e2, ?_⟩
 cases out' with
 | ret v => exact h1 v e3
 | pan v => exact h2 v e3
end
end Go.Proofs.Eng
namespace Go.Proofs.Eng
open Go
theorem Sp {nt t : Nat} {e : Env} (h : t < nt) (h2 : e t = .v (.bool true)) : gy (tmE nt e) (some (t, true)) = some true := by rw [B6 h h2]; rfl
theorem Uj {nt t : Nat} {e : Env} (h : t < nt) (h2 : e t = .v (.bool true)) : gy (tmE nt e) (some (t, false)) = some false := by rw [B6 h h2]; rfl
theorem Wn {nt t : Nat} {e : Env} (h : t < nt) (h2 : e t = .v (.bool false)) : gy (tmE nt e) (some (t, true)) = some false := by rw [B6 h h2]; rfl
theorem W7 {nt t : Nat} {e : Env} (h : t < nt) (h2 : e t = .v (.bool false)) : gy (tmE nt e) (some (t, false)) = some true := by rw [B6 h h2]; rfl
theorem Zv {nt t : Nat} {e : Env} {w : Bool} (h : t < nt) (h2 : e t = .undef) : gy (tmE nt e) (some (t, w)) = some false := Vp h h2
theorem sd {a b : Bool} (h : b = a) : AV.v (.bool a) = AV.bool b := by rw [h]
theorem F5 {α : Type} (H : List α) (x y : α) : (H ++ [x]).set H.length y = H ++ [y] := by rw [List.set_append_right _ _ (dh _)]; simp
abbrev j9 : Nat := 9223372036854775807
abbrev xl : Nat := 1073741824
abbrev mh (n : Int) : Prop := -9223372036854775808 <= n ∧ n <= 9223372036854775807
theorem jf {n : Int} (h : mh n) : IntKind.i64.wrap n = n := by unfold mh at h; exact IntWalk.i64_in (by omega) (by omega)
theorem D9 {i : Nat} (h : i < j9) : IntKind.i64.wrap ((i : Int) + 1) = ((i + 1 : Nat) : Int) := by unfold j9 at h; rw [jf (by unfold mh; omega)]; simp
theorem il {i : Nat} (h : i < j9) : AV.v (.int .i64 (IntKind.i64.wrap ((i : Int) + 1))) = .int ((i + 1 : Nat) : Int) := by rw [D9 h]
def LIs {α : Type} (R : α -> AV -> Prop) : List α -> List AV -> Prop
 | [], [] => True
 | x :: xs, a :: al => R x a ∧ LIs R xs al
 | _, _ => False
structure Qg {α : Type} (R : α -> AV -> Prop) (es : Nat) : Prop where
 cells : ∀ {x a}, R x a -> ∃ c, a = .agg c ∧ c.length = es ∧ c.all gv = true
 pure : ∀ {x a}, R x a -> gw a = true
section
variable {α : Type} {R : α -> AV -> Prop} {es : Nat}
theorem LIs.len : ∀ {l : List α} {al : List AV}, LIs R l al -> al.length = l.length
 | [], [], _ => rfl
 | _ :: _, _ :: _, h => by simp only [LIs] at h; simp [LIs.len h.2]
 | [], _ :: _, h => by simp [LIs] at h
 | _ :: _, [], h => by simp [LIs] at h
theorem LIs.pure (hR : ∀ x a, R x a -> gw a = true) : ∀ {l : List α} {al : List AV}, LIs R l al -> fy al = true
 | [], [], _ => by rw [fy]
 | _ :: _, _ :: _, h => by simp only [LIs] at h; simp [fq, hR _ _ h.1, LIs.pure hR h.2]
 | [], _ :: _, h => by simp [LIs] at h
 | _ :: _, [], h => by simp [LIs] at h
theorem LIs.all (hR : Qg R es) : ∀ {l : List α} {al : List AV}, LIs R l al -> (al.all fun x => x.cells.length == es) = true
 | [], [], _ => rfl
 | _ :: _, _ :: _, h => by
  simp only [LIs] at h
  obtain ⟨c, rfl, hl, _⟩ := hR.cells h.1
  simp [da, LIs.all hR h.2, vh, hl]
 | [], _ :: _, h => by simp [LIs] at h
 | _ :: _, [], h => by simp [LIs] at h
theorem LIs.at : ∀ {l : List α} {al : List AV} {i : Nat}, LIs R l al -> i < al.length -> ∃ x a, l[i]? = some x ∧ l.drop i = x :: l.drop (i + 1) ∧ x ∈ l ∧ al[i]? = some a ∧ R x a
 | [], [], i, _, h => by simp at h
 | x :: xs, a :: al, 0, h, _ => by
  simp only [LIs] at h
  exact ⟨x, a, rfl, rfl, by simp, rfl, h.1⟩
 | x :: xs, a :: al, i + 1, h, hi => by
  simp only [LIs] at h
  obtain ⟨y, b, h1, h2, h3, h4, h5⟩ := LIs.at (i := i) h.2 (by simpa using hi)
  exact ⟨y, b, by simpa using h1, by simpa using h2, by simp [h3], by simpa using h4, h5⟩
 | [], _ :: _, _, h, _ => by simp [LIs] at h
 | _ :: _, [], _, h, _ => by simp [LIs] at h
theorem LIs.get (hR : Qg R es) {l : List α} {al : List AV} {i : Nat} (h : LIs R l al) (hi : i < al.length) : ∃ x c, l[i]? = some x ∧ l.drop i = x :: l.drop (i + 1) ∧ x ∈ l ∧ al[i]? = some (.agg c) ∧ c.length = es ∧ c.take es = c ∧ c.all gv = true ∧ R x (.agg c) := by
 obtain ⟨x, a, h1, h2, h3, h4, h5⟩ := LIs.at h hi
 obtain ⟨c, rfl, hl, ho⟩ := hR.cells h5
 exact ⟨x, c, h1, h2, h3, h4, hl, au (by omega), ho, h5⟩
theorem LIs.append : ∀ {l m : List α} {al am : List AV}, LIs R l al -> LIs R m am -> LIs R (l ++ m) (al ++ am)
 | [], m, [], am, _, h => h
 | _ :: _, m, _ :: _, am, h, h' => by simp only [LIs, bn] at h ⊢; exact ⟨h.1, LIs.append h.2 h'⟩
 | [], _, _ :: _, _, h, _ => by simp [LIs] at h
 | _ :: _, _, [], _, h, _ => by simp [LIs] at h
theorem LIs.one {x : α} {a : AV} (h : R x a) : LIs R [x] [a] := ⟨h, trivial⟩
theorem LIs.take : ∀ (n : Nat) {l : List α} {al : List AV}, LIs R l al -> LIs R (l.take n) (al.take n)
 | 0, _, _, _ => by simp [LIs]
 | n + 1, [], [], h => h
 | n + 1, _ :: _, _ :: _, h => by simp only [LIs] at h; exact ⟨h.1, LIs.take n h.2⟩
 | _ + 1, [], _ :: _, h => by simp [LIs] at h
 | _ + 1, _ :: _, [], h => by simp [LIs] at h
theorem LIs.drop : ∀ (n : Nat) {l : List α} {al : List AV}, LIs R l al -> LIs R (l.drop n) (al.drop n)
 | 0, _, _, h => h
 | n + 1, [], [], h => h
 | n + 1, _ :: _, _ :: _, h => by simp only [LIs] at h; exact LIs.drop n h.2
 | _ + 1, [], _ :: _, h => by simp [LIs] at h
 | _ + 1, _ :: _, [], h => by simp [LIs] at h
theorem LIs.set : ∀ {l : List α} {al : List AV} (i : Nat) {x : α} {a : AV}, LIs R l al -> R x a -> LIs R (l.set i x) (al.set i a)
 | [], [], i, _, _, h, _ => by simp [LIs]
 | _ :: _, _ :: _, 0, _, _, h, h' => by simp only [LIs] at h; exact ⟨h', h.2⟩
 | _ :: _, _ :: _, i + 1, _, _, h, h' => by simp only [LIs] at h; exact ⟨h.1, LIs.set i h.2 h'⟩
 | [], _ :: _, _, _, _, h, _ => by simp [LIs] at h
 | _ :: _, [], _, _, _, h, _ => by simp [LIs] at h
theorem LIs.mono {R' : α -> AV -> Prop} : ∀ {l : List α} {al : List AV}, LIs R l al -> (∀ x ∈ l, ∀ a, R x a -> R' x a) -> LIs R' l al
 | [], [], _, _ => trivial
 | _ :: _, _ :: _, h, h' => by simp only [LIs] at h; exact ⟨h' _ (by simp) _ h.1, LIs.mono h.2 fun x hx => h' x (by simp [hx])⟩
 | [], _ :: _, h, _ => by simp [LIs] at h
 | _ :: _, [], h, _ => by simp [LIs] at h
end
def ints (l : List Int) : List AV := l.map AV.int
theorem gq (l : List Int) : (ints l).length = l.length := by simp [ints]
theorem kh : ∀ l : List Int, fy (ints l) = true
 | [] => by rw [ints, List.map_nil, fy]
 | e :: es => by have := kh es; simp only [ints] at this ⊢; simp [fq, ks, this]
theorem kp (l : List Int) : ((ints l).all fun x => x.cells.length == 1) = true := by
 induction l with
 | nil => rfl
 | cons x l ih => simp only [ints] at ih ⊢; simp only [bq, da, ih]; rfl
theorem vd {l : List Int} {i : Nat} (h : i < l.length) : ∃ x, l[i]? = some x ∧ l.drop i = x :: l.drop (i + 1) ∧ (ints l)[i]? = some (.int x) := by
 refine ⟨l[i], by simp [h], (bx h), ?_⟩
 simp [ints, h]
def App (T : List Nat) (l : List AV) (t : Tl) : Prop := (l = [] ∧ t = .nil) ∨ (l ≠ [] ∧ ∃ id ver, t = .tl id ver ∧ T[id]? = some ver)
end Go.Proofs.Eng
namespace Go.Proofs.Eng
open Go
theorem qo (s : ByteArray) : s.toList.length = s.size := by rw [ByteArray.toList_eq]; rfl
theorem Gp {s : ByteArray} : (s.toList == (ByteArray.mk #[]).toList) = (s.size == 0) := by
 rw [<- qo, show (ByteArray.mk #[]).toList = [] from by rw [ByteArray.toList_eq]]
 cases s.toList <;> rfl
theorem oa (a b : ByteArray) : (a.toList == b.toList) = decide (a = b) := by
 rw [Bool.eq_iff_iff, beq_iff_eq, decide_eq_true_eq]
 constructor
 ·intro h
  rw [ByteArray.toList_eq, ByteArray.toList_eq] at h
  cases a; cases b
  simp only at h
  rw [Array.toList_inj.1 h]
 ·rintro rfl; rfl
theorem nq (a b : ByteArray) : (a == b) = decide (a = b) := by
 cases a with
 | mk x =>
 cases b with
 | mk y =>
 rw [Bool.eq_iff_iff, decide_eq_true_eq]
 show (x == y) = true ↔ _
 rw [beq_iff_eq, ByteArray.mk.injEq]
theorem R5 {α : Type} {p : Prop} {a : α} {q : α -> Prop} : (∃ x, (p ∧ a = x) ∧ q x) = (p ∧ q a) := by
 simp [and_assoc]
section
variable {α : Type} {R : α -> AV -> Prop} {es : Nat}
theorem Ui : flat [] = [] := rfl
theorem sw {n : Nat} {s : ASt} : ∀ {l : List AV}, fy l = true -> im (gg (n + 1) s) l = some l
 | [], _ => rfl
 | x :: l, h => by
  simp only [fq, dw] at h
  simp only [im, j6 h.1, sw h.2]
theorem yx {n : Nat} {s : ASt} : ∀ {l : List AV}, fy l = true -> im (qy (gg (n + 1) s)) l = some l
 | [], _ => rfl
 | x :: l, h => by
  simp only [fq, dw] at h
  have hx : qy (gg (n + 1) s) x = some x := by
   cases x with
   | agg c =>
    have := h.1
    simp only [lz] at this
    simp only [qy, sw this, ff]
   | _ => exact j6 (n := n) (s := s) h.1
  simp only [im, hx, yx h.2]
theorem Ug {n : Nat} {s : ASt} {i off : Nat} : gg (n + 1) s (.ptr i off) = match s.H[i]? with
  | some (.cells _ c) => if off <= c.length then (im (gg n s) c).map (.ip · off) else none
  | _ => none := by
 rw [gg]; simp only [gw, dx, if_false]; rfl
theorem a5a {n : Nat} {s : ASt} {l : List AV} : gg (n + 2) s (.agg l) = (im (gg (n + 1) s) l).map .agg := by
 cases h : fy l
 ·rw [gg]; simp [lz, h]
 ·rw [j6 (by rw [lz, h]), sw h]; rfl
theorem Te {n : Nat} {s : ASt} {l : List AV} : gg (n + 2) s (.tup l) = (im (gg (n + 1) s) l).map .tup := by
 cases h : fy l
 ·rw [gg]; simp [I7, h]
 ·rw [j6 (by rw [I7, h]), sw h]; rfl
theorem a1g {n : Nat} {s : ASt} {f : FuncId} {l : List AV} : gg (n + 2) s (.fn f l) = (im (gg (n + 1) s) l).map (.fn f) := by
 cases h : fy l
 ·rw [gg]; simp [y9, h]
 ·rw [j6 (by rw [y9, h]), sw h]; rfl
theorem U3 {n : Nat} {s : ASt} {t : TypeId} {x : AV} : gg (n + 2) s (.iface t x) = (gg (n + 1) s x).map (.iface t) := by
 cases h : gw x
 ·rw [gg]; simp [Be, h]
 ·rw [j6 (by rw [Be, h]), j6 h]; rfl
theorem V7 {n : Nat} {s : ASt} {l : List AV} {t : Tl} : gg (n + 2) s (.sl l t) = (im (qy (gg (n + 1) s)) l).map (.sl · (t.rz (n + 1) s)) := by
 cases h : t.pure && fy l
 ·rw [gg]; simp [lf, h]
 ·simp only [dw] at h
  rw [j6 (by rw [lf, h.1, h.2]; rfl), yx h.2]
  cases t <;> simp_all [Tl.rz, Tl.pure]
theorem yr {n : Nat} {s : ASt} {x : AV} (h : gw x = true) : frz n s x = s := by
 cases n with
 | zero => rfl
 | succ n => exact Ad h
theorem a0y {n : Nat} {s : ASt} {f : FuncId} {l : List AV} : frz (n + 1) s (.fn f l) = if fy l then s else l.foldl (frz n) s := by
 rw [frz, y9]
theorem a2g {n : Nat} {s : ASt} {l : List AV} : frz (n + 1) s (.agg l) = if fy l then s else l.foldl (frz n) s := by
 rw [frz, lz]
theorem a4d {n : Nat} {s : ASt} {l : List AV} : frz (n + 1) s (.tup l) = if fy l then s else l.foldl (frz n) s := by
 rw [frz, I7]
theorem Mq {i o : Nat} : gw (.ptr i o) = false := by rw [gw]; all_goals (intros; simp_all)
theorem a5e {i o n es : Nat} {ag : Bool} : gw (.bs i o n es ag) = false := by rw [gw]; all_goals (intros; simp_all)
theorem a60 {i : Nat} : gw (.mp i) = false := by rw [gw]; all_goals (intros; simp_all)
theorem Sz {n : Nat} {s : ASt} {i o : Nat} : frz (n + 1) s (.ptr i o) = match s.H[i]? with
  | some (.cells _ c) => c.foldl (frz n) (s.fz i)
  | _ => s := by
 rw [frz]; simp only [Mq, dx, if_false]; rfl
theorem Dq : ∀ {l m : List AV}, fy (l ++ m) = (fy l && fy m)
 | [], m => by simp [ga]
 | x :: l, m => by simp [fq, Dq (l := l) (m := m), Bool.and_assoc]
theorem Lq {x : AV} (h : gw x = true) : fy x.cells = true := by
 cases x with
 | agg l => rw [vh, <- lz]; exact h
 | _ => simp only [AV.cells, fq, ga, h, Bool.and_true]
theorem Gy : ∀ {l : List AV}, fy l = true -> fy (flat l) = true
 | [], _ => by rw [Ui, ga]
 | x :: l, h => by
  simp only [fq, dw] at h
  rw [l7, Dq, Lq h.1, Gy h.2]; rfl
theorem a5p {n : Nat} {s : ASt} {l : List AV} {t : Tl} (h : fy l = true) : frz n s (.sl l t) = s := by
 cases n with
 | zero => rfl
 | succ n =>
  cases ht : t.pure with
  | true => exact Ad (by rw [lf, ht, h]; rfl)
  | false =>
   rw [frz]
   simp only [lf, ht, ei, dx, if_false]
   exact yq (Gy h)
theorem O6 {s : ASt} {l : List AV} {t : Tl} : A3 s (.sl l t) = some l := Eq.trans rfl rfl
theorem Tz {s : ASt} {b : ByteArray} : A3 s (.v (.string b)) = some (b.toList.map fun c => .v (.int .u8 c.toNat)) := Eq.trans rfl rfl
theorem Q6 {s : ASt} {l : List AV} {t : Tl} : kj s (.sl l t) = some l := Eq.trans rfl rfl
end
section
variable {md : FuncId -> Md} {pfs : FuncId -> Option PF}
theorem Out.na {f : FuncId} {args args' : List AV} {PR : AV -> Prop} (h : Out md pfs f args' PR fun _ => False) (hm : md f = .pure) {s : ASt} (hp : im (gg 20 s) args = some args') : ∃ v, PR v ∧ ∀ K KP, CW (run md pfs) md false s f args K KP () = K v (args.foldl (frz 20) s) := by
 obtain ⟨out, s', out', h1, h2, h3⟩ := h
 cases out' with
 | pan v => exact h3.elim
 | ret v => exact ⟨v, h3, fun K KP => by simp [CW, lh, hm, hp, h1, h2]⟩
end
end Go.Proofs.Eng
namespace Go.Proofs.Eng
open Go
theorem yc {α : Type} {H l : List α} : (H ++ l)[H.length]? = l[0]? := by rw [af (dh _), Nat.sub_self]
theorem xo {α : Type} {H l : List α} {k : Nat} : (H ++ l)[H.length + k]? = l[k]? := by rw [af (Nat.le_add_right _ _), Nat.add_sub_cancel_left]
theorem Jo {α : Type} {H l : List α} {y : α} : (H ++ l).set H.length y = H ++ l.set 0 y := by rw [List.set_append_right _ _ (dh _), Nat.sub_self]
theorem Kf {α : Type} {H l : List α} {k : Nat} {y : α} : (H ++ l).set (H.length + k) y = H ++ l.set k y := by rw [List.set_append_right _ _ (Nat.le_add_right _ _), Nat.add_sub_cancel_left]
theorem ig {α : Type} {H : List α} {i : Nat} {x : α} (h : H[i]? = some x) (l : List α) : (H ++ l)[i]? = some x := by
 rw [ae (List.getElem?_eq_some_iff.1 h).1]; exact h
theorem gh {α : Type} {H : List α} {i : Nat} {x : α} (h : H[i]? = some x) : i < H.length := (List.getElem?_eq_some_iff.1 h).1
def Ez (H : List fp) (s : ASt) : Prop := ∃ G T, s = ⟨H ++ G, T⟩
section
variable {md : FuncId -> Md} {pfs : FuncId -> Option PF}
def Sh (md : FuncId -> Md) (pfs : FuncId -> Option PF) (f : FuncId) (args : List AV) (s : ASt) (PR PP : AV -> ASt -> Prop) : Prop :=
 ∃ out s1 out', run md pfs f args s = some (out, s1) ∧ out.gg 20 s1 = some out' ∧ match out' with | .ret v => PR v (out.frz 20 s1) | .pan v => PP v (out.frz 20 s1)
def SQ (res : List PR) (PR PP : AV -> ASt -> Prop) : ft -> St -> Prop
 | .pan v, st => st.df = [] ∧ ∃ v', gg 20 st.s v = some v' ∧ PP v' (frz 20 st.s v)
 | .exit _, _ => False
 | _, st => st.df = [] ∧ ∃ l, ly st.tm st.s res = some l ∧ ∃ v', gg 20 st.s (pd l) = some v' ∧ PR v' (frz 20 st.s (pd l))
theorem a4w {res : List PR} {PR PP : AV -> ASt -> Prop} {st : St} : SQ res PR PP .ret st = (st.df = [] ∧ ∃ l, ly st.tm st.s res = some l ∧ ∃ v', gg 20 st.s (pd l) = some v' ∧ PR v' (frz 20 st.s (pd l))) := rfl
theorem Qu {res : List PR} {PR PP : AV -> ASt -> Prop} {st : St} : SQ res PR PP .normal st = (st.df = [] ∧ ∃ l, ly st.tm st.s res = some l ∧ ∃ v', gg 20 st.s (pd l) = some v' ∧ PR v' (frz 20 st.s (pd l))) := rfl
theorem a27 {res : List PR} {PR PP : AV -> ASt -> Prop} {v : AV} {st : St} : SQ res PR PP (.pan v) st = (st.df = [] ∧ ∃ v', gg 20 st.s v = some v' ∧ PP v' (frz 20 st.s v)) := rfl
theorem kg {f : FuncId} {pf : PF} (hp : pfs f = some pf) {args : List AV} {s : ASt} {PR PP : AV -> ASt -> Prop} (hn : args.length <= pf.nt) (h : W (run md pfs) md pf.body ⟨tmE pf.nt (tk args), [], s⟩ (SQ pf.res PR PP) ()) : Sh md pfs f args s PR PP := by
 unfold Sh
 rw [run_eq hp (Nb h)]
 unfold Du
 rw [D7 args pf.nt hn]
 unfold W at h
 cases hx : ic (run md pfs) md (og (run md pfs) md) pf.body ⟨tmE pf.nt (tk args), [], s⟩ with
 | none => rw [hx] at h; exact h.elim
 | some x =>
  obtain ⟨r, st⟩ := x
  obtain ⟨tm, df, s⟩ := st
  rw [hx] at h
  cases r with
  | exit i => exact h.elim
  | pan v =>
   obtain ⟨h1, v', h2, h3⟩ := h
   simp only at h1; subst h1
   exact ⟨.pan v, s, .pan v', by simp only [List.isEmpty_nil, dy, ej, dx, if_false]; rfl, by simp only [jr.gg]; rw [h2]; rfl, h3⟩
  | normal =>
   obtain ⟨h1, l, h2, v', h3, h4⟩ := h
   simp only at h1; subst h1
   refine ⟨.ret (pd l), s, .ret v', ?_, by simp only [jr.gg]; rw [h3]; rfl, h4⟩
   simp only [List.isEmpty_nil, dy, ej, dx, if_false]
   show (ly tm s pf.res).map _ = _
   simp only at h2
   rw [h2]; rfl
  | ret =>
   obtain ⟨h1, l, h2, v', h3, h4⟩ := h
   simp only at h1; subst h1
   refine ⟨.ret (pd l), s, .ret v', ?_, by simp only [jr.gg]; rw [h3]; rfl, h4⟩
   simp only [List.isEmpty_nil, dy, ej, dx, if_false]
   show (ly tm s pf.res).map _ = _
   simp only at h2
   rw [h2]; rfl
theorem Sh.call {f : FuncId} {args : List AV} {s : ASt} {PR PP : AV -> ASt -> Prop} (h : Sh md pfs f args s PR PP) (hm : md f = .shared) : (∃ v s', PR v s' ∧ ∀ K KP, CW (run md pfs) md false s f args K KP () = K v s') ∨ (∃ v s', PP v s' ∧ ∀ K KP, CW (run md pfs) md false s f args K KP () = KP v s') := by
 obtain ⟨out, s1, out', h1, h2, h3⟩ := h
 cases out' with
 | ret v => exact .inl ⟨v, _, h3, fun K KP => by simp [CW, lh, hm, h1, h2]⟩
 | pan v => exact .inr ⟨v, _, h3, fun K KP => by simp [CW, lh, hm, h1, h2]⟩
theorem Sh.mono {f : FuncId} {args : List AV} {s : ASt} {PR PP PR' PP' : AV -> ASt -> Prop} (h : Sh md pfs f args s PR PP) (h1 : ∀ v s, PR v s -> PR' v s) (h2 : ∀ v s, PP v s -> PP' v s) : Sh md pfs f args s PR' PP' := by
 obtain ⟨out, s1, out', e1, e2, e3⟩ := h
 refine ⟨out, s1, out', e1, e2, ?_⟩
 cases out' with
 | ret v => exact h1 _ _ e3
 | pan v => exact h2 _ _ e3
theorem Out.Yx {f : FuncId} {args : List AV} {PP : AV -> Prop} (h : Out md pfs f args (fun _ => False) PP) (hm : md f = .pure) (ha : fy args = true) : ∃ v, PP v ∧ ∀ pm s K KP, CW (run md pfs) md pm s f args K KP () = KP v s := by
 rcases h.call2 hm ha with ⟨_, h, _⟩ | h
 ·exact h.elim
 ·exact h
def LW (md : FuncId -> Md) (pfs : FuncId -> Option PF) (res : List PR) (P : jr -> ASt -> Prop) : ft -> St -> Prop
 | .exit _, _ => False
 | .pan v, st => ∃ x, jo (run md pfs) md pfs res st (some v) = some x ∧ P x.1 x.2
 | _, st => ∃ x, jo (run md pfs) md pfs res st none = some x ∧ P x.1 x.2
theorem a3u {res : List PR} {P : jr -> ASt -> Prop} {st : St} : LW md pfs res P .ret st = ∃ x, jo (run md pfs) md pfs res st none = some x ∧ P x.1 x.2 := rfl
theorem a3b {res : List PR} {P : jr -> ASt -> Prop} {st : St} {v : AV} : LW md pfs res P (.pan v) st = ∃ x, jo (run md pfs) md pfs res st (some v) = some x ∧ P x.1 x.2 := rfl
theorem R1 {f : FuncId} {pf : PF} (hp : pfs f = some pf) {args : List AV} {s : ASt} {P : jr -> ASt -> Prop} (hn : args.length <= pf.nt) (h : W (run md pfs) md pf.body ⟨tmE pf.nt (tk args), [], s⟩ (LW md pfs pf.res P) ()) (hq : pf.body.ot = false := by rfl) : ∃ out s1, run md pfs f args s = some (out, s1) ∧ P out s1 := by
 rw [run_eq hp (Nb h)]
 unfold Du
 rw [D7 args pf.nt hn]
 unfold W at h
 cases hx : ic (run md pfs) md (og (run md pfs) md) pf.body ⟨tmE pf.nt (tk args), [], s⟩ with
 | none => rw [hx] at h; exact h.elim
 | some x =>
  obtain ⟨r, st⟩ := x
  rw [hx] at h
  cases r with
  | exit i => exact h.elim
  | pan v => obtain ⟨⟨o, s1⟩, h1, h2⟩ := h; exact ⟨o, s1, by simp only [hq, ei, dx, if_false]; exact h1, h2⟩
  | normal => obtain ⟨⟨o, s1⟩, h1, h2⟩ := h; exact ⟨o, s1, by simp only [hq, ei, dx, if_false]; exact h1, h2⟩
  | ret => obtain ⟨⟨o, s1⟩, h1, h2⟩ := h; exact ⟨o, s1, by simp only [hq, ei, dx, if_false]; exact h1, h2⟩
end
end Go.Proofs.Eng
namespace Go.Proofs.Eng
open Go
set_option maxRecDepth 10000
def fh := And.intro @a1e (And.intro @a5l (And.intro @a50 (And.intro @a5u (And.intro @a1v (And.intro @De (And.intro @a6e (And.intro @a73 (And.intro @a6x (And.intro @a78 (And.intro @a6n (And.intro @a6m (And.intro @a6j (And.intro @a6s (And.intro @a6v (And.intro @a4a (And.intro @Zi (And.intro @a2j (And.intro @Xn (And.intro @Uy (And.intro @La (And.intro @a2c (And.intro @a0b (And.intro @a25 (And.intro @Z7 (And.intro @a6f (@a6z))))))))))))))))))))))))))
def a7e := And.intro @a6h (And.intro @a7b (And.intro @a4q (And.intro @Zd (And.intro @Up (And.intro @a5d (And.intro @a3k (And.intro @a38 (And.intro @Xd (And.intro @Qm (And.intro @a5j (And.intro @Ut (And.intro @Sp (And.intro @Uj (And.intro @Wn (And.intro @W7 (And.intro @Zv (And.intro @a2x (And.intro @a0s (And.intro @a1k (And.intro @Yg (And.intro @Td (And.intro @a22 (And.intro @Sv (And.intro @a2b (And.intro @Yd (And.intro @Wm (And.intro @Sx (And.intro @a3l (And.intro @a3w (And.intro @a3p (And.intro @a4c (And.intro @Zp (And.intro @a6d (And.intro @Ya (And.intro @Xv (And.intro @a0t (And.intro @Ts (And.intro @Ub (And.intro @Vj (And.intro @Rs (And.intro @Qe (And.intro @a0f (And.intro @Yv (And.intro @Xl (And.intro @T6 (And.intro @a2f (And.intro @a0i (And.intro @a0p (And.intro @a58 (And.intro @We (And.intro @Kw (And.intro @Gj (And.intro @Y7 (And.intro @Yi (And.intro @a4h (And.intro @a4u (And.intro @W8 (And.intro @a2p (And.intro @Wp (And.intro @a5f (And.intro @a5h (And.intro @a5m (And.intro @a5o (And.intro @Yy (And.intro @a04 (And.intro @vh (And.intro @Q2 (And.intro @Nc (And.intro @Zu (And.intro @U8 (And.intro @Tn (And.intro @Qv (And.intro @Qb (And.intro @Tg (And.intro @Ul (And.intro @Uz (And.intro @Us (And.intro @Wq (And.intro @Vb (And.intro @U5 (And.intro @S4 (And.intro @Ko (And.intro @Kg (And.intro @Ij (And.intro @Yb (And.intro @Rz (And.intro @O9 (And.intro @a0m (And.intro @a0g (And.intro @Yo (And.intro @M8 (And.intro @a4j (And.intro @Re (And.intro @a3f (And.intro @Db (And.intro @j6 (And.intro @ks (And.intro @lf (And.intro @lz (And.intro @I7 (And.intro @Be (And.intro @y9 (And.intro @Oo (And.intro @ga (And.intro @fq (And.intro @a4f (And.intro @Zk (And.intro @a29 (And.intro @F5 (And.intro @R5 (And.intro @a1g (And.intro @Ug (And.intro @Te (And.intro @U3 (And.intro @yr (And.intro @a0y (And.intro @a2g (And.intro @a4d (And.intro @Sz (And.intro @Mq (And.intro @a5e (And.intro @a60 (And.intro @a5p (And.intro @O6 (And.intro @Tz (And.intro @Q6 (And.intro @Gp (And.intro @a4w (And.intro @Qu (And.intro @a27 (And.intro @Xx (And.intro @a3x (And.intro @Xh (And.intro @a69 (And.intro @a6a (And.intro @a03 (And.intro @a54 (And.intro @Ye (And.intro @T5 (And.intro @a1m (And.intro @U2 (And.intro @a30 (And.intro @a3c (And.intro @a3y (And.intro @a1n (And.intro @a63 (And.intro @Xy (And.intro @Zt (And.intro @Uf (And.intro @Vq (And.intro @X9 (And.intro @a08 (And.intro @a2d (@U4))))))))))))))))))))))))))))))))))))))))))))))))))))))))))))))))))))))))))))))))))))))))))))))))))))))))))))))))))))))))))))))))))))))))))))))))))))))))))
def a5x := And.intro @not_false_eq_true (And.intro @Option.map_some.{0,0} (And.intro @Option.bind_some.{0,0} (And.intro @Option.some.injEq.{0} (And.intro @Bool.false_eq_true (And.intro @List.nil_append.{0} (And.intro @List.cons_append.{0} (And.intro @List.length_cons.{0} (And.intro @List.length_nil.{0} (And.intro @List.getElem?_cons_zero.{0} (And.intro @List.getElem?_cons_succ.{0} (And.intro @List.set_cons_zero.{0} (And.intro @List.set_cons_succ.{0} (And.intro @List.drop_zero.{0} (And.intro @List.drop_succ_cons.{0} (And.intro @List.take_zero.{0} (And.intro @List.take_succ_cons.{0} (And.intro @List.take_nil.{0} (And.intro @List.drop_nil.{0} (And.intro @List.append_nil.{0} (And.intro @Nat.zero_add (And.intro @Nat.add_zero (And.intro @and_true (And.intro @true_and (And.intro @List.all_cons.{0} (And.intro @List.all_nil.{0} (And.intro @Bool.and_true (And.intro @Bool.true_and (And.intro @List.getD_cons_zero.{0} (And.intro @List.getD_cons_succ.{0} (And.intro @List.getD_nil.{0} (And.intro @List.head?_cons.{0} (And.intro @decide_eq_true_eq (And.intro @decide_eq_false_iff_not (And.intro @List.getElem?_concat_length.{0} (And.intro @Int.toNat_natCast (And.intro @Nat.le_refl (And.intro @Int.le_refl (And.intro @List.head?_nil.{0} (And.intro @Option.ite_none_right_eq_some.{0} (And.intro @and_self (And.intro @Bool.not_true (And.intro @Bool.not_false (And.intro @Option.isSome_some.{0} (And.intro @Option.isSome_none.{0} (And.intro @Bool.xor_false (And.intro @Bool.false_xor (And.intro @Bool.true_xor (And.intro @Bool.xor_true (And.intro @beq_self_eq_true.{0} (And.intro @bne_self_eq_false.{0} (And.intro @decide_true (And.intro @decide_false (And.intro @Option.getD_some.{0} (And.intro @Nat.zero_le (And.intro @Int.natCast_nonneg (And.intro @List.foldl_cons.{0,0} (And.intro @List.foldl_nil.{0,0} (And.intro @Bool.and_false (And.intro @Bool.false_and (And.intro @List.replicate_succ.{0} (And.intro @List.replicate_zero.{0} (And.intro @Nat.zero_div (And.intro @Nat.zero_mul (And.intro @Nat.lt_add_one (And.intro @Nat.zero_lt_succ (And.intro @Nat.lt_irrefl (And.intro @Int.cast_ofNat_Int (And.intro @Int.toNat_zero (And.intro @Int.toNat_one (And.intro @List.contains_cons.{0} (And.intro @List.contains_nil.{0} (And.intro @Bool.or_false (And.intro @Bool.or_true (And.intro @Bool.false_or (@Bool.true_or)))))))))))))))))))))))))))))))))))))))))))))))))))))))))))))))))))))))))))
end Go.Proofs.Eng
namespace Go.Proofs.Eng
open Go
def O7 (es : Nat) (l : List AV) : Prop := ∀ x ∈ l, ∃ c, x = .agg c ∧ c.length = es ∧ c.all gv = true
theorem O7.set {es : Nat} {l : List AV} (h : O7 es l) (m : Nat) {c : List AV} (hc : c.length = es) (ho : c.all gv = true) : O7 es (l.set m (.agg c)) := by
 intro x hx
 rcases List.mem_or_eq_of_mem_set hx with h1 | rfl
 ·exact h x h1
 ·exact ⟨c, rfl, hc, ho⟩
theorem LIs.rows {α : Type} {R : α -> AV -> Prop} {es : Nat} (hR : Qg R es) : ∀ {l : List α} {al : List AV}, LIs R l al -> O7 es al
 | [], [], _ => fun x hx => by simp at hx
 | a :: l, b :: al, h => fun x hx => by
  simp only [LIs] at h
  rcases List.mem_cons.1 hx with rfl | hx
  ·exact hR.cells h.1
  ·exact LIs.rows hR h.2 x hx
 | [], _ :: _, h => by simp [LIs] at h
 | _ :: _, [], h => by simp [LIs] at h
end Go.Proofs.Eng
