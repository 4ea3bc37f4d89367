/- The engine's calculus, ninth part: what holds behind code, computed from the code's end. No conditions. -/
import Derived.Test.YtflfmkkcnphdcaaGreatG4
import Derived.IntWalk
set_option linter.all false
set_option linter.deprecated false
set_option linter.unnecessarySimpa false
set_option linter.unusedVariables false
set_option linter.unusedSimpArgs false
set_option linter.defProp false
namespace Go.Proofs.Eng
abbrev Env := Nat -> AV
def Hu (e : Env) (d : Nat) (v : AV) : Env := λ n => if n = d then v else e n
def tmE (nt : Nat) (e : Env) : List AV := (List.range nt).map e
def uv (l : List AV) : Env := λ n => l.getD n .undef
theorem Dz {nt n : Nat} {e : Env} (h : n < nt) : (tmE nt e)[n]? = some (e n) := by simp [tmE, h]
theorem a6y {nt n : Nat} {e : Env} (h : n < nt) : evX (tmE nt e) (.t n) = some (e n) := Dz h
theorem a7s {tm : List AV} {v : AV} : evX tm (.c v) = some v := by rw [evX]
theorem a4s {tm : List AV} {s : ASt} {x : X} : opA tm s (.mov x) = ((evX tm x).map (.val · s)) := Eq.trans rfl rfl
theorem a0x {tm : List AV} {s : ASt} {c : X} {a : X} {b : X} : opA tm s (.pick c a b) = (
  match evX tm c, evX tm a, evX tm b with
  | some (.v (.bool c)), some a, some b => some (.val (if c then a else b) s)
  | _, _, _ => none) := Eq.trans rfl rfl
theorem T5 {tm : List AV} {s : ASt} {l : List AV} : opA tm s (.alloc l) = (some (.val (.ptr s.H.length 0) { s with H := s.H ++ [.cells false l] })) := Eq.trans rfl rfl
theorem a4t {tm : List AV} {s : ASt} {x : X} : opA tm s (.box x) = ((evX tm x).bind λ a => if a.known then some (.val (.ptr s.H.length 0) { s with H := s.H ++ [.cells false a.cells] }) else none) := Eq.trans rfl rfl
theorem Uq {tm : List AV} {s : ASt} {z : List AV} {ps : List (Nat × Nat × X)} : opA tm s (.build z ps) = ((uo tm z ps).map λ l => .val (.agg l) s) := Eq.trans rfl rfl
theorem a55 {tm : List AV} {s : ASt} {z : AV} {n : Nat} {ps : List (Nat × Nat × X)} : opA tm s (.bsl z n ps) = ((xn tm z.cells.length (List.replicate n z) ps).map λ l => .val (.sl l (.cap n)) s) := Eq.trans rfl rfl
theorem a0g {tm : List AV} {s : ASt} {ag : Bool} {n : Nat} {a : X} : opA tm s (.load ag n a) = (((evX tm a).bind (ru s ag n)).map (.val · s)) := Eq.trans rfl rfl
theorem X1 {tm : List AV} {s : ASt} {n : Nat} {a : X} {x : X} : opA tm s (.store n a x) = (
  match evX tm a, evX tm x with
  | some a, some x => (u4 s n x a).map (.val .undef ·)
  | _, _ => none) := Eq.trans rfl rfl
theorem Sq {tm : List AV} {s : ASt} {x : X} : opA tm s (.ir x) = (
  match evX tm x with
  | some (.ptr i o) => some (.val (.ptr i o) s)
  | some (.ip l o) => some (.val (.ip l o) s)
  | some (.fn f l) => some (.val (.fn f l) s)
  | some (.bm f l) => some (.val (.bm f l) s)
  | _ => none) := Eq.trans rfl rfl
theorem a5h {tm : List AV} {s : ASt} {op : BinOp} {x : X} {y : X} : opA tm s (.bin op x y) = (
  match evX tm x, evX tm y with
  | some a, some b => (G6 op a b).map (.val · s)
  | _, _ => none) := Eq.trans rfl rfl
theorem a5x {tm : List AV} {s : ASt} {neg : Bool} {x : X} {y : X} : opA tm s (.eqb neg x y) = (
  match evX tm x, evX tm y with
  | some (.v (.bool a)), some (.v (.bool b)) => some (.val (.bool (neg ^^ (a == b))) s)
  | _, _ => none) := Eq.trans rfl rfl
theorem a41 {tm : List AV} {s : ASt} {neg : Bool} {x : X} {y : X} : opA tm s (.eqi neg x y) = (
  match evX tm x, evX tm y with
  | some a, some b => (Gf y.isC a b).map λ r => .val (.bool (neg ^^ r)) s
  | _, _ => none) := Eq.trans rfl rfl
theorem a4k {tm : List AV} {s : ASt} {neg : Bool} {x : X} {y : X} : opA tm s (.eqs neg x y) = (
  match evX tm x, evX tm y with
  | some a, some b => (Jy a b).map λ r => .val (.bool (neg ^^ r)) s
  | _, _ => none) := Eq.trans rfl rfl
theorem a0y {tm : List AV} {s : ASt} {es : Nat} {x y n v d : X} : opA tm s (.Lz es x y n v d) = (
  match evX tm x, (evX tm y).bind (An s), evX tm n, evX tm v, evX tm d with
  | some (.sl l t), some [z], some (.v (.int _ k)), some q, some _ =>
   if k = l.length /\ z.cells.length = es /\ z.cells.all gv = true then (K3 s es l t [q]).map λ (a, s) => .val a s else none
  | _, _, _, _, _ => none) := Eq.trans rfl rfl
theorem a7r {tm : List AV} {s : ASt} {op : UnOp} {x : X} : opA tm s (.un op x) = (((evX tm x).bind (unA op)).map (.val · s)) := Eq.trans rfl rfl
theorem a0m {tm : List AV} {s : ASt} {k : IntKind} {x : X} : opA tm s (.conv k x) = (
  match evX tm x with
  | some (.v (.int _ n)) => some (.val (.v (.int k (k.wrap n))) s)
  | _ => none) := Eq.trans rfl rfl
theorem a0r {tm : List AV} {s : ASt} {t : TypeId} {x : X} : opA tm s (.Kg t x) = ((evX tm x).map λ a => .val (.iface t a) s) := Eq.trans rfl rfl
theorem a1r {tm : List AV} {s : ASt} {f : FuncId} {caps : List X} : opA tm s (.Bk f caps) = ((iq (evX tm) caps).map λ l => .val (.fn f l) s) := Eq.trans rfl rfl
theorem a0c {tm : List AV} {s : ASt} {f : FuncId} {caps : List X} : opA tm s (.tx f caps) = ((iq (evX tm) caps).map λ l => .val (.bm f l) s) := Eq.trans rfl rfl
theorem Vt {tm : List AV} {s : ASt}  : opA tm s (.qj) = (some (.val (.mp s.H.length) { s with H := s.H ++ [.map []] })) := Eq.trans rfl rfl
theorem V9 {tm : List AV} {s : ASt} {es : Nat} {x : X} {lo : Option X} {hi : Option X} {mx : Option X} : opA tm s (.slice es x lo hi mx) = (
  match evX tm x with
  | some (.sl l t) =>
   if l.all λ x => x.cells.length == es then
   match j8 l.length 0 lo tm, j8 l.length l.length hi tm with
   | some a, some b =>
    match mx with
    | none => (r6 es l t a b none).map (.val · s)
    | some m => if hi.isSome then (j8 l.length 0 (some m) tm).bind λ m => (r6 es l t a b (some m)).map (.val · s) else none
   | _, _ => none
   else none
  | some (.bs i off len es' ag) =>
   match j8 len 0 lo tm, j8 len len hi tm with
   | some a, some b => (A7 i off len es es' ag a b hi.isSome (mx.map (evX tm))).map (.val · s)
   | _, _ => none
  | _ => none) := Eq.trans rfl rfl
theorem Xh {tm : List AV} {s : ASt} {d : Nat} {x : X} : opA tm s (.gp d x) = (
  match evX tm x with
  | some (.ptr i o) => some (.val (.ptr i (o + d)) s)
  | some (.ip l o) => if o + d <= l.length then some (.val (.ip l (o + d)) s) else none
  | _ => none) := Eq.trans rfl rfl
theorem Xj {tm : List AV} {s : ASt} {es : Nat} {x : X} {ix : X} : opA tm s (.j9 es x ix) = (
  match evX tm x, evX tm ix with
  | some (.sl l _), some (.v (.int _ n)) =>
   if 0 <= n /\ (l.all λ x => x.cells.length == es) then (l[n.toNat]?).map λ e => .val (.ip e.cells 0) s else none
  | some (.bs i off len es' _), some (.v (.int _ n)) =>
   if 0 <= n /\ n < len /\ es = es' then some (.val (.ptr i (off + n.toNat * es)) s) else none
  | _, _ => none) := Eq.trans rfl rfl
theorem S9 {tm : List AV} {s : ASt} {len : Nat} {es : Nat} {x : X} {ix : X} : opA tm s (.wh len es x ix) = (
  match evX tm x, evX tm ix with
  | some (.ptr i o), some (.v (.int _ n)) => if 0 <= n /\ n < len then some (.val (.ptr i (o + n.toNat * es)) s) else none
  | some (.ip l o), some (.v (.int _ n)) => if 0 <= n /\ n < len /\ o + n.toNat * es <= l.length then some (.val (.ip l (o + n.toNat * es)) s) else none
  | _, _ => none) := Eq.trans rfl rfl
theorem Yn {tm : List AV} {s : ASt} {len : Nat} {es : Nat} {ag : Bool} {x : X} {ix : X} : opA tm s (.Ll len es ag x ix) = (
  match evX tm x, evX tm ix with
  | some (.agg l), some (.v (.int _ n)) => if 0 <= n /\ n < len then (vu ag es (l.drop (n.toNat * es))).map (.val · s) else none
  | _, _ => none) := Eq.trans rfl rfl
theorem a04 {tm : List AV} {s : ASt} {x : X} {ix : X} : opA tm s (.Jg x ix) = (
  match evX tm x, evX tm ix with
  | some (.v (.string b)), some (.v (.int _ n)) => if 0 <= n then (b.toList[n.toNat]?).map λ c => .val (.v (.int .u8 c.toNat)) s else none
  | _, _ => none) := Eq.trans rfl rfl
theorem a2i {tm : List AV} {s : ASt} {z : AV} {ok : Bool} {st : KK} {m : X} {k : X} : opA tm s (.look z ok st m k) = (
  match evX tm m, evX tm k with
  | some (.mp i), some k =>
   if u6 st k then
   match s.H[i]? with
   | some (.map es) =>
    if s6 s.H st k es then
    match mj st k es with
    | some (some x) => some (.val (if ok then .tup [x, .bool true] else x) s)
    | some none => some (.val (if ok then .tup [z, .bool false] else z) s)
    | none => none
    else none
   | _ => none
   else none
  | _, _ => none) := Eq.trans rfl rfl
theorem U0 {tm : List AV} {s : ASt} {st : KK} {m : X} {k : X} {x : X} : opA tm s (.qk st m k x) = (
  match evX tm m, evX tm k, evX tm x with
  | some (.mp i), some k, some x =>
   if u6 st k then
   match s.H[i]? with
   | some (.map es) => if s6 s.H st k es then (upA st k x es).map λ es => .val .undef { s with H := s.H.set i (.map es) } else none
   | _ => none
   else none
  | _, _, _ => none) := Eq.trans rfl rfl
theorem a6n {tm : List AV} {s : ASt} {x : X} {i : Nat} : opA tm s (.ext x i) = (
  match evX tm x with
  | some (.tup l) => (l[i]?).map (.val · s)
  | _ => none) := Eq.trans rfl rfl
theorem a09 {tm : List AV} {s : ASt} {t : TypeId} {ok : Bool} {z : AV} {x : X} : opA tm s (.T6 t ok z x) = (
  match evX tm x with
  | some (.iface u a) =>
   if u = t then some (.val (if ok then .tup [a, .bool true] else a) s)
   else if ok then some (.val (.tup [z, .bool false]) s) else none
  | some (.v .nilIface) => if ok then some (.val (.tup [z, .bool false]) s) else none
  | _ => none) := Eq.trans rfl rfl
theorem a0i {tm : List AV} {s : ASt} {f : X} {args : List X} : opA tm s (.call f args) = (
  match evX tm f, iq (evX tm) args with
  | some (.fn g caps), some l => some (.call g (l ++ caps))
  | some (.bm g fs), some l => some (.call g (fs ++ l))
  | _, _ => none) := Eq.trans rfl rfl
theorem a4v {tm : List AV} {s : ASt} {es : Nat} {bs : Option Bool} {x : X} {y : X} : opA tm s (.app es bs x y) = (
  match evX tm x, (evX tm y).bind (An s) with
  | some (.sl l t), some xs => (qz s es bs l t xs).map λ (a, s) => .val a s
  | some (.bs i off len es' ag), some xs => if bs.isSome then (Qg s es i off len es' ag xs).map λ (a, s) => .val a s else none
  | _, _ => none) := Eq.trans rfl rfl
def Yb (s : ASt) (es : Nat) (ag tl : Bool) (a : AV) : List AV -> Option OpR
 | [] => some (.val (.sl [] (sv a)) s)
 | x :: l => if (x :: l).length <= 1073741824 /\ ((x :: l).all λ x => x.cells.length == es && x.cells.all gv) then (match tl with
  | true => some (.val (.sl (x :: l) (.tl s.T.length 0)) { s with T := s.T ++ [0] })
  | false => some (.val (.bs s.H.length 0 (x :: l).length es ag) { s with H := s.H ++ [.cells false (flat (x :: l))] })) else none
theorem Lv {s : ASt} {es : Nat} {ag tl : Bool} {a : AV} : Yb s es ag tl a [] = some (.val (.sl [] (sv a)) s) := Eq.trans rfl rfl
theorem Gp {s : ASt} {es : Nat} {ag : Bool} {a x : AV} {l : List AV} : Yb s es ag false a (x :: l) = if (x :: l).length <= 1073741824 /\ ((x :: l).all λ x => x.cells.length == es && x.cells.all gv) then some (.val (.bs s.H.length 0 (x :: l).length es ag) { s with H := s.H ++ [.cells false (flat (x :: l))] }) else none := Eq.trans rfl rfl
theorem Yf {s : ASt} {es : Nat} {ag : Bool} {a : AV} {l : List AV} (hl : l ≠ []) (h1 : l.length <= 1073741824) (h2 : (l.all λ x => x.cells.length == es && x.cells.all gv) = true) : Yb s es ag false a l = some (.val (.bs s.H.length 0 l.length es ag) { s with H := s.H ++ [.cells false (flat l)] }) := by
 cases l with
 | nil => exact absurd rfl hl
 | cons x l => rw [Gp, if_pos ⟨h1, h2⟩]
theorem Tv {tm : List AV} {s : ASt} {es : Nat} {ag tl : Bool} {x : X} : opA tm s (.clone es ag tl x) = (evX tm x).bind λ a => (kq s a).bind (Yb s es ag tl a) := by
 rw [opA]
 cases evX tm x with
 | none => rfl
 | some a =>
  simp only [Option.bind_some, Option.getD_some]
  cases kq s a with
  | none => rfl
  | some l => cases l <;> rfl
theorem Yk {tm : List AV} {s : ASt} {x : X} : opA tm s (.qw x) = (
  match evX tm x with
  | some (.sl l _) => some (.val (.int l.length) s)
  | some (.bs _ _ n _ _) => some (.val (.int n) s)
  | _ => none) := Eq.trans rfl rfl
theorem a2b {tm : List AV} {s : ASt} {x : X} : opA tm s (.Lm x) = (
  match evX tm x with
  | some (.bs i off _ es _) => if 0 < es then some (.val (.cp i off es) s) else none
  | _ => none) := Eq.trans rfl rfl
theorem a3h {tm : List AV} {s : ASt} {neg : Bool} {x : X} {y : X} : opA tm s (.eqp neg x y) = (
  match evX tm x, evX tm y with
  | some a, some b => (M4 a b).map λ r => .val (.bool (neg ^^ r)) s
  | _, _ => none) := Eq.trans rfl rfl
theorem Y2 {H : List fp} {b : Bool} {k : AV} {es : List (AV × AV)} : s6 H (.sc b) k es = true := rfl
theorem a0u {tm : List AV} {s : ASt} {x : X} : opA tm s (.Iv x) = (
  match evX tm x with
  | some (.v (.string b)) => some (.val (.int b.size) s)
  | _ => none) := Eq.trans rfl rfl
theorem a4x {tm : List AV} {s : ASt} {x : X} {y : X} : opA tm s (.max x y) = (
  match evX tm x, evX tm y with
  | some (.v (.int k a)), some (.v (.int _ b)) => some (.val (.v (.int k (if b > a then b else a))) s)
  | _, _ => none) := Eq.trans rfl rfl
theorem a67 {tm : List AV} {s : ASt} {x : X} {y : X} : opA tm s (.min x y) = (
  match evX tm x, evX tm y with
  | some (.v (.int k a)), some (.v (.int _ b)) => some (.val (.v (.int k (if b < a then b else a))) s)
  | _, _ => none) := Eq.trans rfl rfl
theorem Vm {tm : List AV} {s : ASt}  : opA tm s (.ua) = (some .ua) := Eq.trans rfl rfl
theorem a4u {tm : List AV} {s : ASt} {f : X} {args : List X} : opA tm s (.dfr f args) = (
  match evX tm f, iq (evX tm) args with
  | some (.fn g caps), some l => some (.dfr g (l ++ caps))
  | _, _ => none) := Eq.trans rfl rfl
theorem Tc {tm : List AV} {s : ASt} {x : X} : opA tm s (.panic x) = (
  match evX tm x with
  | some (.iface t a) => some (.panic (.iface t a))
  | _ => none) := Eq.trans rfl rfl
theorem a6z {nt d : Nat} {e : Env} {v : AV} : put (tmE nt e) (some d) v = tmE nt (Hu e d v) := by
 apply List.ext_getElem?
 intro n
 simp only [put, tmE, b9, dg, List.length_range, bh, Hu]
 by_cases h : d = n
 ·subst h
  by_cases h2 : d < nt <;> simp [h2, Hu]
 ·simp only [h, if_false]
  cases hr : (List.range nt)[n]? with
  | none => rfl
  | some m =>
   have hm : m = n := by
    rw [List.getElem?_eq_some_iff] at hr
    obtain ⟨h1, h2⟩ := hr
    simpa using h2.symm
   subst hm
   simp [Hu, Ne.symm h]
theorem a7k {tm : List AV} {v : AV} : put tm none v = tm := rfl
theorem Zb {e : Env} {d : Nat} {v : AV} : Hu e d v d = v := by simp [Hu]
theorem Yo {e : Env} {d n : Nat} {v : AV} (h : n ≠ d) : Hu e d v n = e n := by simp [Hu, h]
theorem Dy (l : List AV) (nt : Nat) (h : l.length <= nt) : l ++ List.replicate (nt - l.length) .undef = tmE nt (uv l) := by
 apply List.ext_getElem?
 intro n
 simp only [tmE, uv, bh]
 by_cases hn : n < nt
 ·rw [de hn]
  simp only [fg]
  by_cases h1 : n < l.length
  ·rw [ae h1]; simp [h1, uv]
  ·rw [af (by omega), List.getElem?_replicate]
   simp [h1, show n - l.length < nt - l.length by omega, uv]
 ·rw [da (by simp; omega), da (by simp; omega)]; rfl
theorem tj {l : List AV} : (AV.agg l).cells = l := rfl
theorem Qt {l : List AV} : (AV.agg l).known = true := rfl
theorem Od {x : Value} : (AV.v x).cells = [.v x] := rfl
theorem Ze {x : Value} : (AV.v x).known = true := rfl
theorem Hy {x : Value} : gv (AV.v x) = true := rfl
theorem Vx {l : List AV} {o : Nat} : (AV.ip l o).cells = [.ip l o] := rfl
theorem Wd {l : List AV} {o : Nat} : (AV.ip l o).known = true := rfl
theorem a2a {l : List AV} {o : Nat} : gv (AV.ip l o) = true := rfl
theorem Sj {i o : Nat} : (AV.ptr i o).cells = [.ptr i o] := rfl
theorem Qi {i o : Nat} : (AV.ptr i o).known = true := rfl
theorem U4 {i o : Nat} : gv (AV.ptr i o) = true := rfl
theorem Wm {l : List AV} {t : Tl} : (AV.sl l t).cells = [.sl l t] := rfl
theorem Sv {l : List AV} {t : Tl} : (AV.sl l t).known = true := rfl
theorem Pa {l : List AV} {t : Tl} : gv (AV.sl l t) = true := rfl
theorem Ub {i o n es : Nat} {ag : Bool} : (AV.bs i o n es ag).cells = [.bs i o n es ag] := rfl
theorem Ty {i o n es : Nat} {ag : Bool} : (AV.bs i o n es ag).known = true := rfl
theorem a0e {i o n es : Nat} {ag : Bool} : gv (AV.bs i o n es ag) = true := rfl
theorem Vk {i : Nat} : (AV.mp i).cells = [.mp i] := rfl
theorem Wf {i : Nat} : (AV.mp i).known = true := rfl
theorem Zs {i : Nat} : gv (AV.mp i) = true := rfl
theorem T3 {f : FuncId} {l : List AV} : (AV.fn f l).cells = [.fn f l] := rfl
theorem Xw {i o es : Nat} : (AV.cp i o es).cells = [.cp i o es] := rfl
theorem Tg {i o es : Nat} : (AV.cp i o es).known = true := rfl
theorem Zi {i o es : Nat} : gv (AV.cp i o es) = true := rfl
theorem X9 {f : FuncId} {l : List AV} : (AV.bm f l).cells = [.bm f l] := rfl
theorem Y1 {f : FuncId} {l : List AV} : (AV.fn f l).known = true := rfl
theorem Tk {f : FuncId} {l : List AV} : (AV.bm f l).known = true := rfl
theorem Z5 {f : FuncId} {l : List AV} : gv (AV.fn f l) = true := rfl
theorem a1j {f : FuncId} {l : List AV} : gv (AV.bm f l) = true := rfl
theorem K6 {t : TypeId} {x : AV} : (AV.iface t x).cells = [.iface t x] := rfl
theorem Lq {t : TypeId} {x : AV} : (AV.iface t x).known = true := rfl
theorem O1 {t : TypeId} {x : AV} : gv (AV.iface t x) = true := rfl
theorem mg {x : Value} : gz (.v x) = true := Eq.trans rfl rfl
theorem lg {l : List AV} {t : Tl} : gz (.sl l t) = (t.pure && gg l) := by rw [gz]
theorem lu {l : List AV} : gz (.agg l) = gg l := by rw [gz]
theorem Ii {l : List AV} : gz (.tup l) = gg l := by rw [gz]
theorem Ax {t : TypeId} {x : AV} : gz (.iface t x) = gz x := by rw [gz]
theorem yo {f : FuncId} {l : List AV} : gz (.fn f l) = gg l := by rw [gz]
theorem a6u {f : FuncId} {l : List AV} : gz (.bm f l) = gg l := by rw [gz]
theorem Oj {l : List AV} {o : Nat} : gz (.ip l o) = gg l := by rw [gz]
theorem gu : gg [] = true := by rw [gg]
theorem ga {x : AV} {l : List AV} : gg (x :: l) = (gz x && gg l) := by rw [gg]
theorem a65 : Tl.pure .nil = true := Eq.trans rfl rfl
theorem a1f : Tl.pure .none = true := Eq.trans rfl rfl
theorem a4l {n : Nat} : Tl.pure (.cap n) = true := Eq.trans rfl rfl
section
variable {c : gr} {md : FuncId -> Md} {pfs : FuncId -> Option PF}
def Fx1 {α : Sort _} (_ : α) : Type := Unit
def Fx2 {α β : Sort _} (_ : α) (_ : β) : Type := Unit
def Fx4 {α β γ δ : Sort _} (_ : α) (_ : β) (_ : γ) (_ : δ) : Type := Unit
def OW (o : Option OpR) (K : AV -> ASt -> Prop) (KC : FuncId -> List AV -> Prop) (KP : AV -> Prop) (KD : FuncId -> List AV -> Prop) (_ : Fx4 K KC KP KD) : Prop :=
 match o with
 | some (.val v s) => K v s
 | some (.call f l) => KC f l
 | some (.panic v) => KP v
 | some (.dfr f l) => KD f l
 | _ => False
def GW (o : Option Bool) (A B : Prop) (_ : Fx2 A B) : Prop :=
 match o with
 | some b => (b = false -> A) /\ (b = true -> B)
 | none => False
def IW (o : Option AV) (A B : Prop) (_ : Fx2 A B) : Prop :=
 match o with
 | some (.v (.bool t)) => (t = true -> A) /\ (t = false -> B)
 | _ => False
def CW (c : gr) (md : FuncId -> Md) (pm : Bool) (s : ASt) (f : FuncId) (args : List AV) (K KP : AV -> ASt -> Prop) (_ : Fx2 K KP) : Prop :=
 match lj c md pm s f args with
 | some (.ret v, s) => K v s
 | some (.pan v, s) => KP v s
 | none => False
def EW (o : Option (fu × St)) (Q : fu -> St -> Prop) (_ : Fx1 Q) : Prop :=
 match o with
 | some (r, st) => Q r st
 | none => False
def W (c : gr) (md : FuncId -> Md) (b : PC) (st : St) (Q : fu -> St -> Prop) (_ : Fx1 Q) : Prop := EW (ij c md (oh c md) b st) Q ()
def WS (c : gr) (md : FuncId -> Md) (l : List PI) (st : St) (Q : fu -> St -> Prop) (_ : Fx1 Q) : Prop := EW (jv c md l st) Q ()
def LQ (J : St -> Prop) (Q : fu -> St -> Prop) : fu -> St -> Prop
 | .normal, st => J st
 | .exit n, st => Q (.exit n) st
 | .ret, st => Q .ret st
 | .pan v, st => Q (.pan v) st
def BQ (n : Nat) (Q : fu -> St -> Prop) : fu -> St -> Prop
 | .exit i, st => if i = n then Q .normal st else Q (.exit i) st
 | .normal, st => Q .normal st
 | .ret, st => Q .ret st
 | .pan v, st => Q (.pan v) st
variable {st : St} {Q : fu -> St -> Prop} {J : St -> Prop} {K : AV -> ASt -> Prop} {KC : FuncId -> List AV -> Prop} {KP : AV -> Prop} {KD : FuncId -> List AV -> Prop}
@[congr] theorem OW_congr {o o' : Option OpR} (h : True -> o = o') : OW o K KC KP KD () = OW o' K KC KP KD () := by rw [h trivial]
@[congr] theorem GW_congr {o o' : Option Bool} {A B : Prop} (h : True -> o = o') : GW o A B () = GW o' A B () := by rw [h trivial]
@[congr] theorem IW_congr {o o' : Option AV} {A B : Prop} (h : True -> o = o') : IW o A B () = IW o' A B () := by rw [h trivial]
@[congr] theorem CW_congr {pm : Bool} {s s' : ASt} {f f' : FuncId} {args args' : List AV} {K KP : AV -> ASt -> Prop} (h1 : True -> s = s') (h2 : True -> f = f') (h3 : True -> args = args') : CW c md pm s f args K KP () = CW c md pm s' f' args' K KP () := by rw [h1 trivial, h2 trivial, h3 trivial]
@[congr] theorem EW_congr {o o' : Option (fu × St)} (h : True -> o = o') : EW o Q () = EW o' Q () := by rw [h trivial]
@[congr] theorem W_congr {b : PC} {st' : St} (h : True -> st = st') : W c md b st Q () = W c md b st' Q () := by rw [h trivial]
@[congr] theorem WS_congr {l : List PI} {st' : St} (h : True -> st = st') : WS c md l st Q () = WS c md l st' Q () := by rw [h trivial]
@[congr] theorem LQ_congr {r r' : fu} {st' : St} (h : True -> r = r') (h2 : True -> st = st') : LQ J Q r st = LQ J Q r' st' := by rw [h trivial, h2 trivial]
@[congr] theorem BQ_congr {n : Nat} {r r' : fu} {st' : St} (h : True -> r = r') (h2 : True -> st = st') : BQ n Q r st = BQ n Q r' st' := by rw [h trivial, h2 trivial]
theorem a8q : LQ J Q .normal st = J st := rfl
theorem a8g : LQ J Q .ret st = Q .ret st := rfl
theorem a8m {n : Nat} : LQ J Q (.exit n) st = Q (.exit n) st := rfl
theorem a7z {v : AV} : LQ J Q (.pan v) st = Q (.pan v) st := rfl
theorem a8p {n : Nat} : BQ n Q .normal st = Q .normal st := rfl
theorem a8k {n : Nat} : BQ n Q .ret st = Q .ret st := rfl
theorem a8t {n : Nat} : BQ n Q (.exit n) st = Q .normal st := by simp [BQ]
theorem a8c {n : Nat} {v : AV} : BQ n Q (.pan v) st = Q (.pan v) st := rfl
theorem a58 {v : AV} {s : ASt} : OW (some (.val v s)) K KC KP KD () = K v s := rfl
theorem a1o {f : FuncId} {l : List AV} : OW (some (.call f l)) K KC KP KD () = KC f l := rfl
theorem Xt {v : AV} : OW (some (.panic v)) K KC KP KD () = KP v := rfl
theorem a5q {f : FuncId} {l : List AV} : OW (some (.dfr f l)) K KC KP KD () = KD f l := rfl
theorem a52 {p : Prop} [Decidable p] {o : Option OpR} : OW (if p then o else none) K KC KP KD () = (p /\ OW o K KC KP KD ()) := by
 by_cases h : p <;> simp [h, OW]
theorem a5d {α : Type} {o : Option α} {g : α -> OpR} : OW (o.map g) K KC KP KD () = ∃ x, o = some x /\ OW (some (g x)) K KC KP KD () := by
 cases o <;> simp [OW]
theorem a16 {α : Type} {o : Option α} {g : α -> Option OpR} : OW (o.bind g) K KC KP KD () = ∃ x, o = some x /\ OW (g x) K KC KP KD () := by
 cases o <;> simp [OW]
theorem R6 {A B : Prop} : GW (some true) A B () = B := by simp [GW]
theorem a7l {A B : Prop} : GW (some false) A B () = A := by simp [GW]
theorem Vz {tm : List AV} : ic tm none = some true := by rw [ic]
theorem Bw {nt t : Nat} {e : Env} {w b : Bool} (h : t < nt) (h2 : e t = .v (.bool b)) : ic (tmE nt e) (some (t, w)) = some (b == w) := by simp only [ic, Dz h, h2]
theorem Xr {nt t : Nat} {e : Env} {w : Bool} (h : t < nt) (h2 : e t = .tup []) : ic (tmE nt e) (some (t, w)) = some false := by simp only [ic, Dz h, h2]
theorem a68 : W c md .skip st Q () = Q .normal st := rfl
theorem a4r {n : Nat} : W c md (.exit n) st Q () = Q (.exit n) st := rfl
theorem a74 : W c md .ret st Q () = Q .ret st := rfl
theorem a6x {l : List PI} : W c md (.reg l) st Q () = WS c md l st Q () := rfl
theorem a2q {a b : PC} : W c md (.seq a b) st Q () = W c md a st (LQ (λ st' => W c md b st' Q ()) Q) () := by
 unfold W
 rw [ij]
 cases ij c md (oh c md) a st with
 | none => rfl
 | some x =>
  obtain ⟨r, st'⟩ := x
  cases r <;> rfl
theorem E8 {n : Nat} {a : PC} : W c md (.block n a) st Q () = W c md a st (BQ n Q) () := by
 unfold W
 rw [ij]
 cases ij c md (oh c md) a st with
 | none => rfl
 | some x =>
  obtain ⟨r, st'⟩ := x
  cases r with
  | exit i =>
   simp only [EW, BQ]
   by_cases h : i = n <;> simp [h]
  | _ => rfl
theorem a81 {x : X} {a b : PC} : W c md (.cond x a b) st Q () = IW (evX st.tm x) (W c md a st Q ()) (W c md b st Q ()) () := by
 unfold W
 rw [ij]
 cases h : evX st.tm x with
 | none => rfl
 | some v =>
  cases v with
  | v x =>
   cases x with
   | bool t => cases t <;> simp [IW]
   | _ => rfl
  | _ => rfl
theorem a82 {A B : Prop} : IW (some (.v (.bool true))) A B () = A := by simp [IW]
theorem a7u {A B : Prop} : IW (some (.v (.bool false))) A B () = B := by simp [IW]
theorem a4f : WS c md [] st Q () = Q .normal st := rfl
theorem Yt {i : PI} {l : List PI} {tm : List AV} {df : List (FuncId × List AV)} {s : ASt} : WS c md (i :: l) ⟨tm, df, s⟩ Q () =
  GW (ic tm i.g) (WS c md l ⟨put tm i.dst .undef, df, s⟩ Q ())
   (OW (opA tm s i.op) (λ v s => WS c md l ⟨put tm i.dst v, df, s⟩ Q ())
    (λ f args => CW c md false s f args (λ v s => WS c md l ⟨put tm i.dst v, df, s⟩ Q ()) (λ v s => Q (.pan v) ⟨tm, df, s⟩) ())
    (λ v => Q (.pan v) ⟨tm, df, s⟩)
    (λ f args => WS c md l ⟨put tm i.dst .undef, (f, args) :: df, s⟩ Q ()) ()) () := by
 unfold WS
 rw [jv, ik]
 cases ic tm i.g with
 | none => rfl
 | some b =>
  cases b with
  | false => simp [GW]
  | true =>
   simp only [R6]
   cases opA tm s i.op with
   | none => rfl
   | some o =>
    cases o with
    | call f args =>
     simp only [OW, CW]
     cases lj c md false s f args with
     | none => rfl
     | some x =>
      obtain ⟨r, s'⟩ := x
      cases r <;> rfl
    | _ => rfl
def HW (o : Option (St × Option (AV × ASt))) (K : St -> Prop) (KP : AV -> ASt -> Prop) (_ : Fx2 K KP) : Prop :=
 match o with
 | some (st', none) => K st'
 | some (_, some (v, s)) => KP v s
 | none => False
variable {L : St -> Prop} {LP : AV -> ASt -> Prop} {hd : List PI} {i : PI} {l : List PI} {tm : List AV} {df : List (FuncId × List AV)} {s s0 : ASt} {k : Nat} {v0 : AV}
@[congr] theorem HW_congr {o o' : Option (St × Option (AV × ASt))} (h : True -> o = o') : HW o L LP () = HW o' L LP () := by rw [h trivial]
@[congr] theorem headA_congr {p : Option (Nat × AV × ASt)} {st' : St} (h : True -> st = st') : jk c md hd l st p = jk c md hd l st' p := by rw [h trivial]
theorem a3i : HW (jk c md hd [] st none) L LP () = L st := rfl
theorem Vp : HW (jk c md hd [] st (some (k, v0, s0))) L LP () = LP v0 s0 := rfl
theorem Ym : HW (jk c md hd (i :: l) ⟨tm, df, s⟩ none) L LP () =
  GW (ic tm i.g) (HW (jk c md hd l ⟨put tm i.dst .undef, df, s⟩ none) L LP ())
   (OW (opA tm s i.op) (λ v s' => HW (jk c md hd l ⟨put tm i.dst v, df, s'⟩ none) L LP ())
    (λ f args => CW c md true s f args (λ v s' => HW (jk c md hd l ⟨put tm i.dst v, df, s'⟩ none) L LP ()) (λ v _ => Da hd i = true /\ HW (jk c md hd l ⟨tm, df, s⟩ (some (i.ix, v, s))) L LP ()) ())
    (λ v => Da hd i = true /\ HW (jk c md hd l ⟨tm, df, s⟩ (some (i.ix, v, s))) L LP ())
    (λ f args => HW (jk c md hd l ⟨put tm i.dst .undef, (f, args) :: df, s⟩ none) L LP ()) ()) () := by
 rw [jk, ik]
 cases ic tm i.g with
 | none => rfl
 | some b =>
  cases b with
  | false => simp [GW]
  | true =>
   simp only [R6]
   cases opA tm s i.op with
   | none => rfl
   | some o =>
    cases o with
    | call f args =>
     simp only [OW, CW]
     cases lj c md true s f args with
     | none => rfl
     | some x =>
      obtain ⟨r, s'⟩ := x
      cases r with
      | ret v => rfl
      | pan v =>
       simp only
       by_cases h : Da hd i = true <;> simp [h, HW]
    | panic v =>
     simp only [OW]
     by_cases h : Da hd i = true <;> simp [h, HW]
    | _ => rfl
theorem a0j {i : PI} {ns : List Nat} : W c md (.jr (9000000 :: ns) (i :: l)) st Q () = WS c md [i] st (LQ (λ st1 => W c md (.jr ns l) st1 (LQ (λ st2 => Q .normal st2) (λ _ _ => False)) ()) (λ _ _ => False)) () := by
 unfold W WS
 rw [ij, Wn]
 simp only [jv]
 cases ik c md false i st with
 | none => rfl
 | some x =>
  obtain ⟨ex, st1⟩ := x
  cases ex with
  | normal =>
   simp only [W, ij]
   show EW _ Q () = EW (m4 c md ns l st1) (LQ (λ st2 => Q .normal st2) (λ _ _ => False)) ()
   cases m4 c md ns l st1 with
   | none => rfl
   | some y =>
    obtain ⟨ex2, st2⟩ := y
    cases ex2 <;> rfl
  | _ => rfl
theorem Mu : W c md (.jr [] l) st Q () = WS c md l st Q () := rfl
def PW (o : Option St) (K : St -> Prop) (_ : Fx1 K) : Prop :=
 match o with
 | some st => K st
 | none => False
@[congr] theorem PW_congr {o o' : Option St} (h : True -> o = o') : PW o L () = PW o' L () := by rw [h trivial]
@[congr] theorem runP_congr {st' : St} (h : True -> st = st') : pg c md l st = pg c md l st' := by rw [h trivial]
theorem a57 : PW (pg c md [] st) L () = L st := rfl
theorem a1q : PW (pg c md (i :: l) ⟨tm, df, s⟩) L () =
  GW (ic tm i.g) (PW (pg c md l ⟨put tm i.dst .undef, df, s⟩) L ())
   (OW (opA tm s i.op) (λ v s' => PW (pg c md l ⟨put tm i.dst v, df, s'⟩) L ())
    (λ f args => CW c md true s f args (λ v s' => PW (pg c md l ⟨put tm i.dst v, df, s'⟩) L ()) (λ _ _ => False) ())
    (λ _ => False)
    (λ f args => PW (pg c md l ⟨put tm i.dst .undef, (f, args) :: df, s⟩) L ()) ()) () := by
 rw [pg, ik]
 cases ic tm i.g with
 | none => rfl
 | some b =>
  cases b with
  | false => simp [GW]
  | true =>
   simp only [R6]
   cases opA tm s i.op with
   | none => rfl
   | some o =>
    cases o with
    | call f args =>
     simp only [OW, CW]
     cases lj c md true s f args with
     | none => rfl
     | some x =>
      obtain ⟨r, s'⟩ := x
      cases r <;> rfl
    | _ => rfl
def CK (i : PI) (tm : List AV) (s s' : ASt) : List PI -> Prop
 | [] => True
 | j :: l => (i.pre.contains j.ix || j.op.kd == .S || lz tm s s' j.op) = true /\ CK i tm s s' l
theorem N5 {i : PI} {s' : ASt} : CK i tm s s' l = ((l.all λ j => i.pre.contains j.ix || j.op.kd == .S || lz tm s s' j.op) = true) := by
 induction l with
 | nil => simp [CK]
 | cons j l ih => rw [CK, ih]; simp only [db, dx]
def JW (t : Bool) (A : Prop) : Prop := t = true \/ A
theorem a6w {A : Prop} : JW true A = True := by simp [JW]
theorem a7n {A : Prop} : JW false A = A := by simp [JW]
theorem a5j {s' : ASt} : CK i tm s s' [] = True := rfl
@[congr] theorem JW_congr {t t' : Bool} {A : Prop} (h : True -> t = t') : JW t A = JW t' A := by rw [h trivial]
theorem a1a {j : PI} {s' : ASt} : CK i tm s s' (j :: l) = (JW (j.op.kd == .S) (JW (i.pre.contains j.ix) (OW (opA tm s j.op) (λ v _ => OW (opA tm s' j.op) (λ v' _ => lq v v' = true) (λ _ _ => False) (λ _ => False) (λ _ _ => False) ()) (λ _ _ => False) (λ _ => False) (λ _ _ => False) ())) /\ CK i tm s s' l) := by
 rw [CK]
 unfold JW
 cases hc : (i.pre.contains j.ix) with
 | true => simp
 | false =>
  cases hk : (j.op.kd == .S) with
  | true => simp
  | false =>
   simp only [Bool.false_or, dy, false_or]
   congr 1
   unfold lz
   cases opA tm s j.op with
   | none => simp [OW]
   | some r =>
    cases r with
    | val v z =>
     simp only [OW]
     cases opA tm s' j.op with
     | none => simp
     | some r' => cases r' <;> simp
    | _ => simp [OW]
theorem a3n (x : X) : ((PO.mov x).kd == .S) = true := Eq.trans rfl rfl
theorem Zh (c a b : X) : ((PO.pick c a b).kd == .S) = true := Eq.trans rfl rfl
theorem Td (z : List AV) (ps : List (Nat × Nat × X)) : ((PO.build z ps).kd == .S) = true := Eq.trans rfl rfl
theorem a45 (z : AV) (n : Nat) (ps : List (Nat × Nat × X)) : ((PO.bsl z n ps).kd == .S) = true := Eq.trans rfl rfl
theorem X3 (x : X) : ((PO.ir x).kd == .S) = true := Eq.trans rfl rfl
theorem a44 (o : BinOp) (x y : X) : ((PO.bin o x y).kd == .S) = true := Eq.trans rfl rfl
theorem a5w (n : Bool) (x y : X) : ((PO.eqb n x y).kd == .S) = true := Eq.trans rfl rfl
theorem a4z (n : Bool) (x y : X) : ((PO.eqi n x y).kd == .S) = true := Eq.trans rfl rfl
theorem a3p (n : Bool) (x y : X) : ((PO.eqs n x y).kd == .S) = true := Eq.trans rfl rfl
theorem a3g (n : Bool) (x y : X) : ((PO.eqp n x y).kd == .S) = true := Eq.trans rfl rfl
theorem Yv (x : X) : ((PO.Lm x).kd == .S) = true := Eq.trans rfl rfl
theorem a6v (o : UnOp) (x : X) : ((PO.un o x).kd == .S) = true := Eq.trans rfl rfl
theorem Yq (k : IntKind) (x : X) : ((PO.conv k x).kd == .S) = true := Eq.trans rfl rfl
theorem Zy (t : TypeId) (x : X) : ((PO.Kg t x).kd == .S) = true := Eq.trans rfl rfl
theorem Vb (n : Nat) (x : X) : ((PO.gp n x).kd == .S) = true := Eq.trans rfl rfl
theorem W9 (n : Nat) (x y : X) : ((PO.j9 n x y).kd == .S) = true := Eq.trans rfl rfl
theorem Zo (x : X) : ((PO.qw x).kd == .S) = true := Eq.trans rfl rfl
theorem Y6 (x : X) : ((PO.Iv x).kd == .S) = true := Eq.trans rfl rfl
theorem a3l (x : X) (n : Nat) : ((PO.ext x n).kd == .S) = true := Eq.trans rfl rfl
theorem To (n : Nat) (x : X) (lo hi mx : Option X) : ((PO.slice n x lo hi mx).kd == .S) = true := Eq.trans rfl rfl
theorem a27 (a : Bool) (n : Nat) (x : X) : ((PO.load a n x).kd == .S) = false := Eq.trans rfl rfl
def KQ (i : PI) (l : List PI) (tm : List AV) (s : ASt) (J : St -> Prop) (JP : AV -> ASt -> Prop) : fu -> St -> Prop
 | .normal, st2 => CK i tm s st2.s l /\ J st2
 | .pan v, st2 => JP v st2.s
 | _, _ => False
@[congr] theorem KQ_congr {J : St -> Prop} {JP : AV -> ASt -> Prop} {r r' : fu} {st' : St} (h : True -> r = r') (h2 : True -> st = st') : KQ i l tm s J JP r st = KQ i l tm s J JP r' st' := by rw [h trivial, h2 trivial]
theorem a83 {J : St -> Prop} {JP : AV -> ASt -> Prop} {tm' : List AV} {s' : ASt} : KQ i l tm s J JP .normal ⟨tm', df, s'⟩ = (CK i tm s s' l /\ J ⟨tm', df, s'⟩) := rfl
theorem a8h {J : St -> Prop} {JP : AV -> ASt -> Prop} {tm' : List AV} {s' : ASt} {v : AV} : KQ i l tm s J JP (.pan v) ⟨tm', df, s'⟩ = JP v s' := rfl
theorem Kt {n : Nat} {ns : List Nat} (hn : n < 1000) (hl : l.drop n = []) : W c md (.jr (n :: ns) l) st Q () =
  HW (jk c md (l.take n) (l.take n) st none) (λ st' => Q .normal st') (λ v s => Q (.pan v) { st with tm := kp (l.take n) st.tm, s }) () := by
 unfold W
 rw [ij, Cv (by omega), if_pos hn, Nat.mod_eq_of_lt hn, hl]
 cases jk c md (l.take n) (l.take n) st none with
 | none => rfl
 | some x =>
  obtain ⟨st', p⟩ := x
  cases p <;> rfl
theorem Jc {n : Nat} {ns : List Nat} {b : PI} {l' : List PI} (hn : n < 1000) (hl : l.drop n = b :: l') : W c md (.jr (n :: ns) l) st Q () =
  HW (jk c md (l.take n) (l.take n) st none) (λ st' => WS c md [b] st' (LQ (λ st2 => W c md (.jr ns l') st2 Q ()) Q) ()) (λ v s => Q (.pan v) { st with tm := kp (l.take n) st.tm, s }) () := by
 unfold W
 rw [ij, Cv (by omega), if_pos hn, Nat.mod_eq_of_lt hn, hl]
 cases jk c md (l.take n) (l.take n) st none with
 | none => rfl
 | some x =>
  obtain ⟨st', p⟩ := x
  cases p with
  | some p => rfl
  | none =>
   simp only [HW, WS, jv]
   cases ik c md false b st' with
   | none => rfl
   | some y =>
    obtain ⟨r, st2⟩ := y
    cases r <;> rfl
def DW (c : gr) (md : FuncId -> Md) (ns : List Nat) (l : List PI) (st : St) (Q : fu -> St -> Prop) (_ : Fx1 Q) : Prop :=
 match l with
 | [] => Q .normal st
 | b :: l' => WS c md [b] st (LQ (λ st2 => W c md (.jr ns l') st2 Q ()) Q) ()
theorem a4y {ns : List Nat} : DW c md ns [] st Q () = Q .normal st := Eq.trans rfl rfl
theorem Yj {ns : List Nat} {b : PI} {l' : List PI} : DW c md ns (b :: l') st Q () = WS c md [b] st (LQ (λ st2 => W c md (.jr ns l') st2 Q ()) Q) () := Eq.trans rfl rfl
theorem a43 {n : Nat} {ns : List Nat} (hn : n < 1000) : W c md (.jr (n :: ns) l) st Q () =
  HW (jk c md (l.take n) (l.take n) st none) (λ st' => DW c md ns (l.drop n) st' Q ()) (λ v s => Q (.pan v) { st with tm := kp (l.take n) st.tm, s }) () := by
 cases hl : l.drop n with
 | nil => rw [Kt hn hl]; rfl
 | cons b l' => rw [Jc hn hl]; rfl
def QW (c : gr) (md : FuncId -> Md) (l1 l2 : List PI) (ns : List Nat) (lr la : List PI) (st0 st1 : St) (Q : fu -> St -> Prop) (_ : Fx1 Q) : Prop :=
 match l2 with
 | [] => False
 | i :: l' => WS c md [i] st1 (KQ i l1 st1.tm st1.s (λ st2 => PW (pg c md l' st2) (λ st3 => DW c md ns lr st3 Q ()) ()) (λ v s => Q (.pan v) { st0 with tm := kp la st0.tm, s })) ()
theorem Zz {l1 l' lr la : List PI} {ns : List Nat} {st0 : St} : QW c md l1 (i :: l') ns lr la st0 ⟨tm, df, s⟩ Q () =
  WS c md [i] ⟨tm, df, s⟩ (KQ i l1 tm s (λ st2 => PW (pg c md l' st2) (λ st3 => DW c md ns lr st3 Q ()) ()) (λ v s => Q (.pan v) { st0 with tm := kp la st0.tm, s })) () := Eq.trans rfl rfl
theorem a1c {n : Nat} {ns : List Nat} (hn : 1000 <= n) (hn2 : n < 1001000) : W c md (.jr (n :: ns) l) st Q () =
  PW (pg c md ((l.take (n % 1000)).take (n / 1000 - 1)) st) (λ st1 => QW c md ((l.take (n % 1000)).take (n / 1000 - 1)) ((l.take (n % 1000)).drop (n / 1000 - 1)) ns (l.drop (n % 1000)) (l.take (n % 1000)) st st1 Q ()) () := by
 unfold W
 rw [ij, Cv (by omega), if_neg (by omega)]
 rw [n6, if_pos (by omega)]
 generalize l.take (n % 1000) = l1
 generalize l.drop (n % 1000) = lr
 unfold Ag
 cases pg c md (l1.take (n / 1000 - 1)) st with
 | none => rfl
 | some st1 =>
  simp only [PW]
  cases l1.drop (n / 1000 - 1) with
  | nil => rfl
  | cons i l' =>
   simp only [QW, WS, jv]
   cases ik c md false i st1 with
   | none => rfl
   | some y =>
    obtain ⟨r, st2⟩ := y
    cases r with
    | normal =>
     by_cases h : ((l1.take (n / 1000 - 1)).all λ j => i.pre.contains j.ix || j.op.kd == .S || lz st1.tm st1.s st2.s j.op) = true
     ·have hk : ∀ {J : St -> Prop} {JP : AV -> ASt -> Prop}, KQ i (l1.take (n / 1000 - 1)) st1.tm st1.s J JP .normal st2 = J st2 := by
       intro J JP
       rw [KQ, N5, eq_true h, true_and]
      simp only [EW, h, if_true]
      rw [hk]
      cases pg c md l' st2 with
      | none => rfl
      | some st3 =>
       simp only [fg]
       cases lr with
       | nil => rfl
       | cons b l2 =>
        simp only [DW, WS, jv, PW]
        cases ik c md false b st3 with
        | none => rfl
        | some y => obtain ⟨r, st4⟩ := y; cases r <;> rfl
     ·have hk : ∀ {J : St -> Prop} {JP : AV -> ASt -> Prop}, KQ i (l1.take (n / 1000 - 1)) st1.tm st1.s J JP .normal st2 = False := by
       intro J JP
       rw [KQ, N5, eq_false h, false_and]
      simp only [EW, h]
      rw [hk]
      rfl
    | pan v => rfl
    | _ => rfl
def M1 (b : Bool) (A B : Prop) (_ : Fx2 A B) : Prop := if b = true then A else B
@[congr] theorem M1_congr {b b' : Bool} {A B : Prop} (h : True -> b = b') : M1 b A B () = M1 b' A B () := by rw [h trivial]
theorem a5l {A B : Prop} : M1 true A B () = A := by simp [M1]
theorem a5g {A B : Prop} : M1 false A B () = B := by simp [M1]
def M3 (o : Option (AV × fp)) (K : AV -> fp -> Prop) (_ : Fx1 K) : Prop :=
 match o with
 | some (v, ob) => K v ob
 | none => False
@[congr] theorem M3_congr {o o' : Option (AV × fp)} {K : AV -> fp -> Prop} (h : True -> o = o') : M3 o K () = M3 o' K () := by rw [h trivial]
theorem a15 {v : AV} {ob : fp} {K : AV -> fp -> Prop} : M3 (some (v, ob)) K () = K v ob := Eq.trans rfl rfl
theorem Ud (l : List AV) : ((PO.alloc l).kd == .S) = false := Eq.trans rfl rfl
theorem a5e (x : X) : (PO.mov x).il = true := Eq.trans rfl rfl
theorem a0d (c a b : X) : (PO.pick c a b).il = true := Eq.trans rfl rfl
theorem Ug (z : List AV) (ps : List (Nat × Nat × X)) : (PO.build z ps).il = true := Eq.trans rfl rfl
theorem a3b (z : AV) (n : Nat) (ps : List (Nat × Nat × X)) : (PO.bsl z n ps).il = true := Eq.trans rfl rfl
theorem Tj (x : X) : (PO.ir x).il = true := Eq.trans rfl rfl
theorem a4g (o : BinOp) (x y : X) : (PO.bin o x y).il = true := Eq.trans rfl rfl
theorem a3o (n : Bool) (x y : X) : (PO.eqb n x y).il = true := Eq.trans rfl rfl
theorem a5y (n : Bool) (x y : X) : (PO.eqi n x y).il = true := Eq.trans rfl rfl
theorem a3w (n : Bool) (x y : X) : (PO.eqs n x y).il = true := Eq.trans rfl rfl
theorem a39 (n : Bool) (x y : X) : (PO.eqp n x y).il = true := Eq.trans rfl rfl
theorem Yy (x : X) : (PO.Lm x).il = true := Eq.trans rfl rfl
theorem a7c (o : UnOp) (x : X) : (PO.un o x).il = true := Eq.trans rfl rfl
theorem Zf (k : IntKind) (x : X) : (PO.conv k x).il = true := Eq.trans rfl rfl
theorem Yd (t : TypeId) (x : X) : (PO.Kg t x).il = true := Eq.trans rfl rfl
theorem a1v (f : FuncId) (l : List X) : (PO.Bk f l).il = true := Eq.trans rfl rfl
theorem Y5 (f : FuncId) (l : List X) : (PO.tx f l).il = true := Eq.trans rfl rfl
theorem Ua (n : Nat) (x : X) : (PO.gp n x).il = true := Eq.trans rfl rfl
theorem Ws (n : Nat) (x y : X) : (PO.j9 n x y).il = true := Eq.trans rfl rfl
theorem S7 (l n : Nat) (x y : X) : (PO.wh l n x y).il = true := Eq.trans rfl rfl
theorem a1u (l n : Nat) (a : Bool) (x y : X) : (PO.Ll l n a x y).il = true := Eq.trans rfl rfl
theorem a2g (x y : X) : (PO.Jg x y).il = true := Eq.trans rfl rfl
theorem Z9 (x : X) : (PO.qw x).il = true := Eq.trans rfl rfl
theorem Zc (x : X) : (PO.Iv x).il = true := Eq.trans rfl rfl
theorem a4w (x : X) (n : Nat) : (PO.ext x n).il = true := Eq.trans rfl rfl
theorem Vu (n : Nat) (x : X) (lo hi mx : Option X) : (PO.slice n x lo hi mx).il = true := Eq.trans rfl rfl
theorem a5b (x y : X) : (PO.max x y).il = true := Eq.trans rfl rfl
theorem a4p (x y : X) : (PO.min x y).il = true := Eq.trans rfl rfl
theorem Zn (a : Bool) (n : Nat) (x : X) : (PO.load a n x).il = true := Eq.trans rfl rfl
theorem a06 (z : AV) (a : Bool) (b : KK) (x y : X) : (PO.look z a b x y).il = true := Eq.trans rfl rfl
theorem Yh (x : X) (l : List X) : (PO.call x l).il = true := Eq.trans rfl rfl
theorem a54 (n : Nat) (x y : X) : (PO.app n none x y).il = true := Eq.trans rfl rfl
theorem Ul (l : List AV) : (PO.alloc l).il = false := Eq.trans rfl rfl
theorem a4i (x : X) : (PO.box x).il = false := Eq.trans rfl rfl
theorem Wi : PO.qj.il = false := Eq.trans rfl rfl
theorem a64 (x : X) : ((PO.mov x).kd == .W) = false := Eq.trans rfl rfl
theorem Ya (c a b : X) : ((PO.pick c a b).kd == .W) = false := Eq.trans rfl rfl
theorem Vv (z : List AV) (ps : List (Nat × Nat × X)) : ((PO.build z ps).kd == .W) = false := Eq.trans rfl rfl
theorem a4m (z : AV) (n : Nat) (ps : List (Nat × Nat × X)) : ((PO.bsl z n ps).kd == .W) = false := Eq.trans rfl rfl
theorem X4 (x : X) : ((PO.ir x).kd == .W) = false := Eq.trans rfl rfl
theorem a3t (o : BinOp) (x y : X) : ((PO.bin o x y).kd == .W) = false := Eq.trans rfl rfl
theorem a63 (n : Bool) (x y : X) : ((PO.eqb n x y).kd == .W) = false := Eq.trans rfl rfl
theorem a3q (n : Bool) (x y : X) : ((PO.eqi n x y).kd == .W) = false := Eq.trans rfl rfl
theorem a42 (n : Bool) (x y : X) : ((PO.eqs n x y).kd == .W) = false := Eq.trans rfl rfl
theorem a61 (n : Bool) (x y : X) : ((PO.eqp n x y).kd == .W) = false := Eq.trans rfl rfl
theorem Yr (x : X) : ((PO.Lm x).kd == .W) = false := Eq.trans rfl rfl
theorem a7d (o : UnOp) (x : X) : ((PO.un o x).kd == .W) = false := Eq.trans rfl rfl
theorem Ys (k : IntKind) (x : X) : ((PO.conv k x).kd == .W) = false := Eq.trans rfl rfl
theorem a0q (t : TypeId) (x : X) : ((PO.Kg t x).kd == .W) = false := Eq.trans rfl rfl
theorem Z7 (f : FuncId) (l : List X) : ((PO.Bk f l).kd == .W) = false := Eq.trans rfl rfl
theorem a1t (f : FuncId) (l : List X) : ((PO.tx f l).kd == .W) = false := Eq.trans rfl rfl
theorem Xk (n : Nat) (x : X) : ((PO.gp n x).kd == .W) = false := Eq.trans rfl rfl
theorem Wp (n : Nat) (x y : X) : ((PO.j9 n x y).kd == .W) = false := Eq.trans rfl rfl
theorem Qz (l n : Nat) (x y : X) : ((PO.wh l n x y).kd == .W) = false := Eq.trans rfl rfl
theorem a18 (l n : Nat) (a : Bool) (x y : X) : ((PO.Ll l n a x y).kd == .W) = false := Eq.trans rfl rfl
theorem a1l (x y : X) : ((PO.Jg x y).kd == .W) = false := Eq.trans rfl rfl
theorem Yu (x : X) : ((PO.qw x).kd == .W) = false := Eq.trans rfl rfl
theorem a0l (x : X) : ((PO.Iv x).kd == .W) = false := Eq.trans rfl rfl
theorem a6b (x : X) (n : Nat) : ((PO.ext x n).kd == .W) = false := Eq.trans rfl rfl
theorem Ts (n : Nat) (x : X) (lo hi mx : Option X) : ((PO.slice n x lo hi mx).kd == .W) = false := Eq.trans rfl rfl
theorem a6f (x y : X) : ((PO.max x y).kd == .W) = false := Eq.trans rfl rfl
theorem a4d (x y : X) : ((PO.min x y).kd == .W) = false := Eq.trans rfl rfl
theorem Zw (a : Bool) (n : Nat) (x : X) : ((PO.load a n x).kd == .W) = false := Eq.trans rfl rfl
theorem a1p (z : AV) (a : Bool) (b : KK) (x y : X) : ((PO.look z a b x y).kd == .W) = false := Eq.trans rfl rfl
theorem a2c (x : X) (l : List X) : ((PO.call x l).kd == .W) = false := Eq.trans rfl rfl
theorem a3c (n : Nat) (x y : X) : ((PO.app n none x y).kd == .W) = false := Eq.trans rfl rfl
theorem Vo (l : List AV) : ((PO.alloc l).kd == .W) = false := Eq.trans rfl rfl
theorem a3r (x : X) : ((PO.box x).kd == .W) = false := Eq.trans rfl rfl
theorem Wv : (PO.qj.kd == .W) = false := Eq.trans rfl rfl
theorem V8 (n : Nat) (x y : X) : ((PO.store n x y).kd == .W) = true := Eq.trans rfl rfl
theorem Tx (b : KK) (x y z : X) : ((PO.qk b x y z).kd == .W) = true := Eq.trans rfl rfl
theorem a1n (f : FuncId) (l : List X) : ((PO.Bk f l).kd == .S) = true := Eq.trans rfl rfl
theorem Yx (f : FuncId) (l : List X) : ((PO.tx f l).kd == .S) = true := Eq.trans rfl rfl
theorem Qy (l n : Nat) (x y : X) : ((PO.wh l n x y).kd == .S) = true := Eq.trans rfl rfl
theorem a08 (l n : Nat) (a : Bool) (x y : X) : ((PO.Ll l n a x y).kd == .S) = true := Eq.trans rfl rfl
theorem Yw (x y : X) : ((PO.Jg x y).kd == .S) = true := Eq.trans rfl rfl
theorem a3d (x y : X) : ((PO.max x y).kd == .S) = true := Eq.trans rfl rfl
theorem a3z (x y : X) : ((PO.min x y).kd == .S) = true := Eq.trans rfl rfl
theorem a62 (n : Nat) (x y : X) : ((PO.app n none x y).kd == .S) = false := Eq.trans rfl rfl
theorem a56 (x : X) : ((PO.box x).kd == .S) = false := Eq.trans rfl rfl
theorem a2e (z : AV) (a : Bool) (b : KK) (x y : X) : ((PO.look z a b x y).kd == .S) = false := Eq.trans rfl rfl
theorem Tz : (PO.qj.kd == .S) = false := Eq.trans rfl rfl
theorem Uz {tm : List AV} {idx : Nat} {l : List AV} : og tm idx (.alloc l) = some (.ptr idx 0, .cells false l) := Eq.trans rfl rfl
theorem So {tm : List AV} {idx : Nat} : og tm idx .qj = some (.mp idx, .map []) := Eq.trans rfl rfl
theorem a66 {tm : List AV} {idx : Nat} {x : X} : og tm idx (.box x) = (evX tm x).bind λ a => if a.known = true then some (.ptr idx 0, .cells false a.cells) else none := by
 simp only [og]; cases evX tm x <;> rfl
def XW (c : gr) (md : FuncId -> Md) (l : List PI) (tm : List AV) (s : ASt) (Z : List fp) (K : List AV -> ASt -> List fp -> Prop) (_ : Fx1 K) : Prop :=
 match vz c md l tm s Z with
 | some (tm', s', Z') => K tm' s' Z'
 | none => False
@[congr] theorem XW_congr {l : List PI} {tm tm' : List AV} {s s' : ASt} {Z Z' : List fp} {K : List AV -> ASt -> List fp -> Prop} (h1 : True -> tm = tm') (h2 : True -> s = s') (h4 : True -> Z = Z') : XW c md l tm s Z K () = XW c md l tm' s' Z' K () := by rw [h1 trivial, h2 trivial, h4 trivial]
theorem a3m {p : Prop} [Decidable p] {v : AV} {ob : fp} {K : AV -> fp -> Prop} : M3 (if p then some (v, ob) else none) K () = (p /\ K v ob) := by
 by_cases h : p <;> simp [h, M3]
theorem a50 {Z : List fp} {K : List AV -> ASt -> List fp -> Prop} : XW c md [] tm s Z K () = K tm s Z := Eq.trans rfl rfl
theorem Zt {Z : List fp} {K : List AV -> ASt -> List fp -> Prop} : XW c md (i :: l) tm s Z K () =
  M1 i.op.il (GW (ic tm i.g) (XW c md l (put tm i.dst .undef) s Z K ()) (OW (opA tm s i.op) (λ v s' => XW c md l (put tm i.dst v) s' Z K ()) (λ f args => CW c md true s f args (λ v s' => XW c md l (put tm i.dst v) s' Z K ()) (λ _ _ => False) ()) (λ _ => False) (λ _ _ => XW c md l (put tm i.dst .undef) s Z K ()) ()) ())
   (M3 (og tm (s.H.length + Z.length) i.op) (λ v ob => XW c md l (put tm i.dst v) s (Z ++ [ob]) K ()) ()) () := by
 cases hk : i.op.il with
 | true =>
  rw [a5l]
  unfold XW
  rw [vz, hk]
  simp only [if_true]
  rw [ik]
  cases ic tm i.g with
  | none => rfl
  | some b =>
   cases b with
   | false => simp [GW]
   | true =>
    simp only [R6]
    cases opA tm s i.op with
    | none => rfl
    | some o =>
     cases o with
     | call f args =>
      simp only [OW, CW]
      cases lj c md true s f args with
      | none => rfl
      | some x =>
       obtain ⟨r, s'⟩ := x
       cases r <;> rfl
     | _ => rfl
 | false =>
  rw [a5g]
  unfold XW
  rw [vz, hk]
  simp only [dy, if_false]
  cases og tm (s.H.length + Z.length) i.op with
  | none => rfl
  | some x => rfl
def XE (c : gr) (md : FuncId -> Md) (p : PI) (l : List PI) (df : List (FuncId × List AV)) (K : St -> Prop) (tm : List AV) (s : ASt) : Prop :=
 GW (ic tm p.g) (CK p tm s s l /\ K ⟨put tm p.dst .undef, df, s⟩) (OW (opA tm s p.op) (λ v s' => CK p tm s s' l /\ K ⟨put tm p.dst v, df, s'⟩) (λ f args => CW c md true s f args (λ v s' => CK p tm s s' l /\ K ⟨put tm p.dst v, df, s'⟩) (λ _ _ => False) ()) (λ _ => False) (λ f args => CK p tm s s l /\ K ⟨put tm p.dst .undef, (f, args) :: df, s⟩) ()) ()
def XL (c : gr) (md : FuncId -> Md) (o : Option PI) (l : List PI) (tm : List AV) (df : List (FuncId × List AV)) (s : ASt) (K : St -> Prop) (_ : Fx1 K) : Prop :=
 match o with
 | none => K ⟨tm, df, s⟩
 | some p => M1 (p.op.kd == .W) (XW c md l.dropLast tm s [] (λ tm' s' Z => XE c md p l.dropLast df K tm' ⟨s'.H ++ Z, s'.T⟩) ()) (XW c md l tm s [] (λ tm' s' Z => K ⟨tm', df, ⟨s'.H ++ Z, s'.T⟩⟩) ()) ()
@[congr] theorem XL_congr {o o' : Option PI} {l : List PI} {tm tm' : List AV} {df : List (FuncId × List AV)} {s s' : ASt} {K : St -> Prop} (h0 : True -> o = o') (h1 : True -> tm = tm') (h2 : True -> s = s') : XL c md o l tm df s K () = XL c md o' l tm' df s' K () := by rw [h0 trivial, h1 trivial, h2 trivial]
theorem Pz {p : PI} {K : St -> Prop} : XL c md (some p) l tm df s K () = M1 (p.op.kd == .W) (XW c md l.dropLast tm s [] (λ tm' s' Z => XE c md p l.dropLast df K tm' ⟨s'.H ++ Z, s'.T⟩) ()) (XW c md l tm s [] (λ tm' s' Z => K ⟨tm', df, ⟨s'.H ++ Z, s'.T⟩⟩) ()) () := Eq.trans rfl rfl
theorem a2z {p : PI} {K : St -> Prop} : XE c md p l df K tm s = GW (ic tm p.g) (CK p tm s s l /\ K ⟨put tm p.dst .undef, df, s⟩) (OW (opA tm s p.op) (λ v s' => CK p tm s s' l /\ K ⟨put tm p.dst v, df, s'⟩) (λ f args => CW c md true s f args (λ v s' => CK p tm s s' l /\ K ⟨put tm p.dst v, df, s'⟩) (λ _ _ => False) ()) (λ _ => False) (λ f args => CK p tm s s l /\ K ⟨put tm p.dst .undef, (f, args) :: df, s⟩) ()) () := Eq.trans rfl rfl
theorem a25 {K : St -> Prop} : (match Gi c md l ⟨tm, df, s⟩ with | some st => K st | none => False) = XL c md l.getLast? l tm df s K () := by
 unfold Gi
 cases l.getLast? with
 | none => rfl
 | some p =>
  rw [Pz]
  by_cases hk : (p.op.kd == .W) = true
  ·simp only [hk, if_true, a5l]
   unfold XW
   cases vz c md l.dropLast tm s [] with
   | none => rfl
   | some x =>
    obtain ⟨tm', s', Z⟩ := x
    simp only
    rw [a2z, ik]
    have fin : ∀ (st2 : St), (match (if (l.dropLast.all λ j => p.pre.contains j.ix || j.op.kd == .S || lz tm' ⟨s'.H ++ Z, s'.T⟩ st2.s j.op) = true then some st2 else none : Option St) with | some st => K st | none => False) = (CK p tm' ⟨s'.H ++ Z, s'.T⟩ st2.s l.dropLast /\ K st2) := by
     intro st2
     rw [N5]
     by_cases h : (l.dropLast.all λ j => p.pre.contains j.ix || j.op.kd == .S || lz tm' ⟨s'.H ++ Z, s'.T⟩ st2.s j.op) = true
     ·rw [if_pos h, eq_true h, true_and]
     ·rw [if_neg h, eq_false h, false_and]
    cases ic tm' p.g with
    | none => rfl
    | some b =>
     cases b with
     | false => simp only [a7l]; exact fin ⟨_, _, _⟩
     | true =>
      simp only [R6]
      cases opA tm' ⟨s'.H ++ Z, s'.T⟩ p.op with
      | none => rfl
      | some o =>
       cases o with
       | val v s2 => exact fin ⟨_, _, s2⟩
       | dfr f args => exact fin ⟨_, _, _⟩
       | call f args =>
        simp only [OW, CW]
        cases lj c md true ⟨s'.H ++ Z, s'.T⟩ f args with
        | none => rfl
        | some x =>
         obtain ⟨r, s2⟩ := x
         cases r with
         | ret v => exact fin ⟨_, _, s2⟩
         | pan v => rfl
       | _ => rfl
  ·simp only [Bool.eq_false_iff.2 hk, a5g, dy, if_false]
   unfold XW
   cases vz c md l tm s [] with
   | none => rfl
   | some x => rfl
theorem a1m {n : Nat} {ns : List Nat} (hn : 1002000 <= n) (hn2 : n < 1003000) : W c md (.jr (n :: ns) l) ⟨tm, df, s⟩ Q () = XL c md (l.take (n % 1000)).getLast? (l.take (n % 1000)) tm df s (λ st => DW c md ns (l.drop (n % 1000)) st Q ()) () := by
 rw [<- a25]
 unfold W
 rw [ij, Cv (by omega), if_neg (by omega), n6, if_neg (by omega)]
 generalize l.take (n % 1000) = l1
 generalize l.drop (n % 1000) = lr
 cases Gi c md l1 ⟨tm, df, s⟩ with
 | none => rfl
 | some st' =>
  simp only [fg]
  cases lr with
  | nil => rfl
  | cons b l2 =>
   simp only [DW, WS, jv]
   cases ik c md false b st' with
   | none => rfl
   | some y => obtain ⟨r, st4⟩ := y; cases r <;> rfl
theorem a6o {β : Type} (m : β -> Nat) (I : β -> St -> Prop) {a : PC} (h : ∀ b st, I b st -> W c md a st (LQ (λ st' => ∃ b', m b' < m b /\ I b' st') Q) ()) {b : β} {st : St} (h0 : I b st) : W c md (.loop a) st Q () := by
 have key : ∀ n b st, m b < n -> I b st -> EW (oh c md a st) Q () := by
  intro n
  induction n with
  | zero => intro b st hb; omega
  | succ n ih =>
   intro b st hb hi
   have hw := h b st hi
   unfold W at hw
   rw [Vq]
   cases hx : ij c md (oh c md) a st with
   | none => rw [hx] at hw; exact hw.elim
   | some x =>
    obtain ⟨r, st'⟩ := x
    rw [hx] at hw
    cases r with
    | normal =>
     obtain ⟨b', hb', hi'⟩ := hw
     exact ih b' st' (by omega) hi'
    | _ => exact hw
 exact key (m b + 1) b st (by omega) h0
def RA (K : St -> Prop) : fu -> St -> Prop
 | .normal, st1 => st1.df = [] /\ K st1
 | _, _ => False
def RB (J : ASt -> Prop) (st0 : St) (Q : fu -> St -> Prop) : fu -> St -> Prop
 | .normal, st2 => st2.df = [] /\ J st2.s
 | .exit id, st2 => st2.df = [] /\ Q (.exit id) { st0 with s := st2.s }
 | .ret, st2 => st2.df = [] /\ Q .ret { st0 with s := st2.s }
 | .pan _, _ => False
theorem a77 {K : St -> Prop} {st1 : St} : RA K .normal st1 = (st1.df = [] /\ K st1) := rfl
theorem a7g {J : ASt -> Prop} {st0 st2 : St} : RB J st0 Q .normal st2 = (st2.df = [] /\ J st2.s) := rfl
theorem a8o {J : ASt -> Prop} {st0 st2 : St} {n : Nat} : RB J st0 Q (.exit n) st2 = (st2.df = [] /\ Q (.exit n) { st0 with s := st2.s }) := rfl
theorem a8u {J : ASt -> Prop} {st0 st2 : St} : RB J st0 Q .ret st2 = (st2.df = [] /\ Q .ret { st0 with s := st2.s }) := rfl
theorem Xl {it : FuncId -> List AV -> ASt -> Nat -> Option (Option (List AV))} {x : X} {ps : List Nat} {pa pb : PC} {gf : FuncId} {caps : List AV} (hx : evX st.tm x = some (.fn gf caps)) (hdf : st.df = []) (N : Nat) (hN : N < 1000000) (I : Nat -> ASt -> Prop)
  (h : ∀ i s, I i s -> (it gf caps s i = some none /\ Q .normal { st with s }) \/ (i < N /\ ∃ xs, it gf caps s i = some (some xs) /\ xs.length = ps.length /\ W c md pa ⟨xo st.tm ps xs, [], s⟩ (RA λ st1 => W c md pb st1 (RB (I (i + 1)) st Q) ()) ())) (h0 : I 0 st.s) : W c md (.xg it x ps pa pb) st Q () := by
 have key : ∀ k i s, N + 1 <= k + i -> i <= N -> I i s -> ∃ ex s', Cj (it gf caps) (λ xs s => if xs.length = ps.length then (match ij c md (oh c md) pa ⟨xo st.tm ps xs, [], s⟩ with | some (.normal, st1) => if st1.df.isEmpty then ij c md (oh c md) pb st1 else none | _ => none) else none) k i s = some (ex, s') /\ Q ex { st with s := s' } := by
  intro k
  induction k with
  | zero => intro i s h1 h2 _; omega
  | succ k ih =>
   intro i s h1 h2 hI
   rcases h i s hI with ⟨e1, hq⟩ | ⟨hiN, xs, e1, e2, hw⟩
   ·exact ⟨.normal, s, by simp only [Cj, e1], hq⟩
   ·unfold W EW at hw
    simp only [Cj, e1, if_pos e2]
    cases hxa : ij c md (oh c md) pa ⟨xo st.tm ps xs, [], s⟩ with
    | none => rw [hxa] at hw; exact hw.elim
    | some r =>
     obtain ⟨r1, st1⟩ := r
     rw [hxa] at hw
     cases r1 with
     | normal =>
      obtain ⟨hd1, hw⟩ := hw
      simp only [hd1, List.isEmpty_nil, if_true]
      cases hxb : ij c md (oh c md) pb st1 with
      | none => rw [hxb] at hw; exact hw.elim
      | some r =>
       obtain ⟨r2, st2⟩ := r
       rw [hxb] at hw
       cases r2 with
       | normal =>
        obtain ⟨hd2, hw⟩ := hw
        simp only [hd2, List.isEmpty_nil, if_true]
        exact ih (i + 1) st2.s (by omega) (by omega) hw
       | exit n =>
        obtain ⟨hd2, hw⟩ := hw
        exact ⟨.exit n, st2.s, by simp only [hd2, List.isEmpty_nil, if_true], hw⟩
       | ret =>
        obtain ⟨hd2, hw⟩ := hw
        exact ⟨.ret, st2.s, by simp only [hd2, List.isEmpty_nil, if_true], hw⟩
       | pan v => exact hw.elim
     | _ => exact hw.elim
 obtain ⟨ex, s', e1, hq⟩ := key 1000000 0 st.s (by omega) (dk _) h0
 have e2 : ij c md (oh c md) (.xg it x ps pa pb) st = some (ex, { st with s := s' }) := by
  have hd : st.df.isEmpty = true := by rw [hdf]; rfl
  unfold ij
  simp only [hx]
  rw [if_pos hd]
  exact congrArg (Option.map λ (r : fu × ASt) => (r.1, { st with s := r.2 })) e1
 unfold W EW
 rw [e2]
 exact hq
theorem EW.mono {o : Option (fu × St)} {Q Q' : fu -> St -> Prop} (h : EW o Q ()) (hq : ∀ r st, Q r st -> Q' r st) : EW o Q' () := by
 cases o with
 | none => exact h.elim
 | some x => exact hq _ _ h
theorem W.mono {b : PC} {Q Q' : fu -> St -> Prop} (h : W c md b st Q ()) (hq : ∀ r st, Q r st -> Q' r st) : W c md b st Q' () := EW.mono h hq
def EQ (nt : Nat) (df : List (FuncId × List AV)) (J : Env -> List fp -> List Nat -> Prop) (st : St) : Prop := ∃ E H T, st = ⟨tmE nt E, df, ⟨H, T⟩⟩ /\ J E H T
theorem jm {nt : Nat} {df : List (FuncId × List AV)} {J : Env -> List fp -> List Nat -> Prop} {E : Env} {H : List fp} {T : List Nat} (h : J E H T) : EQ nt df J ⟨tmE nt E, df, ⟨H, T⟩⟩ := ⟨E, H, T, rfl, h⟩
theorem j6 {β : Type} (m : β -> Nat) (I : β -> Env -> List fp -> List Nat -> Prop) {a : PC} {nt : Nat} {df : List (FuncId × List AV)} (h : ∀ b E H T, I b E H T -> W c md a ⟨tmE nt E, df, ⟨H, T⟩⟩ (LQ (EQ nt df λ E H T => ∃ b', m b' < m b /\ I b' E H T) Q) ()) (b : β) {E : Env} {H : List fp} {T : List Nat} (h0 : I b E H T) : W c md (.loop a) ⟨tmE nt E, df, ⟨H, T⟩⟩ Q () := by
 refine a6o m (λ b st => ∃ E H T, st = ⟨tmE nt E, df, ⟨H, T⟩⟩ /\ I b E H T) ?_ (b := b) ⟨E, H, T, rfl, h0⟩
 rintro b st ⟨E, H, T, rfl, hI⟩
 refine (h b E H T hI).mono λ r st' hr => ?_
 cases r with
 | normal =>
  obtain ⟨E', H', T', rfl, b', h1, h2⟩ := hr
  exact ⟨b', h1, E', H', T', rfl, h2⟩
 | _ => exact hr
def Out (md : FuncId -> Md) (pfs : FuncId -> Option PF) (f : FuncId) (args : List AV) (PR PP : AV -> Prop) : Prop :=
 ∃ out s out', run md pfs f args ⟨[], []⟩ = some (out, s) /\ out.gh 1020 s = some out' /\ match out' with | .ret v => PR v | .pan v => PP v
def RQ (res : List PR) (PR PP : AV -> Prop) : fu -> St -> Prop
 | .pan v, st => st.df = [] /\ ∃ v', gh 1020 st.s v = some v' /\ PP v'
 | .exit _, _ => False
 | _, st => st.df = [] /\ ∃ l, m5 st.tm st.s res = some l /\ ∃ v', gh 1020 st.s (qf l) = some v' /\ PR v'
theorem a3y {res : List PR} {PR PP : AV -> Prop} {st : St} : RQ res PR PP .ret st = (st.df = [] /\ ∃ l, m5 st.tm st.s res = some l /\ ∃ v', gh 1020 st.s (qf l) = some v' /\ PR v') := rfl
theorem R1 {res : List PR} {PR PP : AV -> Prop} {st : St} : RQ res PR PP .normal st = (st.df = [] /\ ∃ l, m5 st.tm st.s res = some l /\ ∃ v', gh 1020 st.s (qf l) = some v' /\ PR v') := rfl
theorem a5a {res : List PR} {PR PP : AV -> Prop} {v : AV} {st : St} : RQ res PR PP (.pan v) st = (st.df = [] /\ ∃ v', gh 1020 st.s v = some v' /\ PP v') := rfl
theorem Pn {pc : PC} {st : St} {Q : fu -> St -> Prop} {c : gr} {md : FuncId -> Md} (h : W c md pc st Q ()) : pc.M0 = none := by
 cases pc with
 | ora o => unfold W at h; simp only [ij] at h; exact (show False from h).elim
 | _ => rfl
theorem iy {f : FuncId} {pf : PF} (hp : pfs f = some pf) {args : List AV} {PR PP : AV -> Prop} (hn : args.length <= pf.nt) (h : W (run md pfs) md pf.body ⟨tmE pf.nt (uv args), [], ⟨[], []⟩⟩ (RQ pf.res PR PP) ()) : Out md pfs f args PR PP := by
 unfold Out
 rw [run_eq hp (Pn h)]
 unfold Ft
 rw [Dy args pf.nt hn]
 unfold W at h
 cases hx : ij (run md pfs) md (oh (run md pfs) md) pf.body ⟨tmE pf.nt (uv args), [], ⟨[], []⟩⟩ with
 | none => rw [hx] at h; exact h.elim
 | some x =>
  obtain ⟨r, st⟩ := x
  obtain ⟨tm, df, s⟩ := st
  rw [hx] at h
  cases r with
  | exit i => exact h.elim
  | pan v =>
   obtain ⟨h1, v', h2, h3⟩ := h
   simp only at h1; subst h1
   exact ⟨.pan v, s, .pan v', by simp only [List.isEmpty_nil, dz, er, dy, if_false]; rfl, by simp only [ju.gh]; rw [h2]; rfl, h3⟩
  | normal =>
   obtain ⟨h1, l, h2, v', h3, h4⟩ := h
   simp only at h1; subst h1
   refine ⟨.ret (qf l), s, .ret v', ?_, by simp only [ju.gh]; rw [h3]; rfl, h4⟩
   simp only [List.isEmpty_nil, dz, er, dy, if_false]
   show (m5 tm s pf.res).map _ = _
   simp only at h2
   rw [h2]; rfl
  | ret =>
   obtain ⟨h1, l, h2, v', h3, h4⟩ := h
   simp only at h1; subst h1
   refine ⟨.ret (qf l), s, .ret v', ?_, by simp only [ju.gh]; rw [h3]; rfl, h4⟩
   simp only [List.isEmpty_nil, dz, er, dy, if_false]
   show (m5 tm s pf.res).map _ = _
   simp only at h2
   rw [h2]; rfl
theorem Out.call {f : FuncId} {args : List AV} {PR : AV -> Prop} (h : Out md pfs f args PR λ _ => False) (hm : md f = .pure) (ha : gg args = true) : ∃ v, PR v /\ ∀ pm s K KP, CW (run md pfs) md pm s f args K KP () = K v s := by
 obtain ⟨out, s', out', h1, h2, h3⟩ := h
 cases out' with
 | pan v => exact h3.elim
 | ret v => exact ⟨v, h3, λ pm s K KP => by simp [CW, lj, hm, ha, w7 s ha, h1, h2, Dw s ha]⟩
theorem Out.call2 {f : FuncId} {args : List AV} {PR PP : AV -> Prop} (h : Out md pfs f args PR PP) (hm : md f = .pure) (ha : gg args = true) : (∃ v, PR v /\ ∀ pm s K KP, CW (run md pfs) md pm s f args K KP () = K v s) \/ (∃ v, PP v /\ ∀ pm s K KP, CW (run md pfs) md pm s f args K KP () = KP v s) := by
 obtain ⟨out, s', out', h1, h2, h3⟩ := h
 cases out' with
 | pan v => exact .inr ⟨v, h3, λ pm s K KP => by simp [CW, lj, hm, ha, w7 s ha, h1, h2, Dw s ha]⟩
 | ret v => exact .inl ⟨v, h3, λ pm s K KP => by simp [CW, lj, hm, ha, w7 s ha, h1, h2, Dw s ha]⟩
theorem Out.mono {f : FuncId} {args : List AV} {PR PP PR' PP' : AV -> Prop} (h : Out md pfs f args PR PP) (h1 : ∀ v, PR v -> PR' v) (h2 : ∀ v, PP v -> PP' v) : Out md pfs f args PR' PP' := by
 obtain ⟨out, s', out', e1, e2, e3⟩ := h
 refine ⟨out, s', out', e1, e2, ?_⟩
 cases out' with
 | ret v => exact h1 v e3
 | pan v => exact h2 v e3
end
end Go.Proofs.Eng
namespace Go.Proofs.Eng
open Go
theorem Ur {nt t : Nat} {e : Env} (h : t < nt) (h2 : e t = .v (.bool true)) : ic (tmE nt e) (some (t, true)) = some true := by rw [Bw h h2]; rfl
theorem Y0 {nt t : Nat} {e : Env} (h : t < nt) (h2 : e t = .v (.bool true)) : ic (tmE nt e) (some (t, false)) = some false := by rw [Bw h h2]; rfl
theorem Ux {nt t : Nat} {e : Env} (h : t < nt) (h2 : e t = .v (.bool false)) : ic (tmE nt e) (some (t, true)) = some false := by rw [Bw h h2]; rfl
theorem Xp {nt t : Nat} {e : Env} (h : t < nt) (h2 : e t = .v (.bool false)) : ic (tmE nt e) (some (t, false)) = some true := by rw [Bw h h2]; rfl
theorem a1i {nt t : Nat} {e : Env} {w : Bool} (h : t < nt) (h2 : e t = .undef) : ic (tmE nt e) (some (t, w)) = some false := Xr h h2
theorem G4 {a b : Bool} (h : b = a) : AV.v (.bool a) = AV.bool b := by rw [h]
theorem F6 {α : Type} (H : List α) (x y : α) : (H ++ [x]).set H.length y = H ++ [y] := by rw [List.set_append_right _ _ (di _)]; simp
abbrev jh : Nat := 9223372036854775807
abbrev wi : Nat := 1073741824
abbrev m7 (n : Int) : Prop := -9223372036854775808 <= n /\ n <= 9223372036854775807
theorem je {n : Int} (h : m7 n) : IntKind.i64.wrap n = n := by unfold m7 at h; exact IntWalk.i64_in (by omega) (by omega)
theorem Hr {i : Nat} (h : i < jh) : IntKind.i64.wrap ((i : Int) + 1) = ((i + 1 : Nat) : Int) := by unfold jh at h; rw [je (by unfold m7; omega)]; simp
theorem iw {i : Nat} (h : i < jh) : AV.v (.int .i64 (IntKind.i64.wrap ((i : Int) + 1))) = .int ((i + 1 : Nat) : Int) := by rw [Hr h]
def LIs {α : Type} (R : α -> AV -> Prop) : List α -> List AV -> Prop
 | [], [] => True
 | x :: xs, a :: al => R x a /\ LIs R xs al
 | _, _ => False
structure Mg {α : Type} (R : α -> AV -> Prop) (es : Nat) : Prop where
 cells : ∀ {x a}, R x a -> ∃ c, a = .agg c /\ c.length = es /\ c.all gv = true
 pure : ∀ {x a}, R x a -> gz a = true
section
variable {α : Type} {R : α -> AV -> Prop} {es : Nat}
theorem LIs.len : ∀ {l : List α} {al : List AV}, LIs R l al -> al.length = l.length
 | [], [], _ => rfl
 | _ :: _, _ :: _, h => by simp only [LIs] at h; simp [LIs.len h.2]
 | [], _ :: _, h => by simp [LIs] at h
 | _ :: _, [], h => by simp [LIs] at h
theorem LIs.pure (hR : ∀ x a, R x a -> gz a = true) : ∀ {l : List α} {al : List AV}, LIs R l al -> gg al = true
 | [], [], _ => by rw [gg]
 | _ :: _, _ :: _, h => by simp only [LIs] at h; simp [ga, hR _ _ h.1, LIs.pure hR h.2]
 | [], _ :: _, h => by simp [LIs] at h
 | _ :: _, [], h => by simp [LIs] at h
theorem LIs.all (hR : Mg R es) : ∀ {l : List α} {al : List AV}, LIs R l al -> (al.all λ x => x.cells.length == es) = true
 | [], [], _ => rfl
 | _ :: _, _ :: _, h => by
  simp only [LIs] at h
  obtain ⟨c, rfl, hl, _⟩ := hR.cells h.1
  simp [db, LIs.all hR h.2, tj, hl]
 | [], _ :: _, h => by simp [LIs] at h
 | _ :: _, [], h => by simp [LIs] at h
theorem LIs.Vf (hR : Mg R es) : ∀ {l : List α} {al : List AV}, LIs R l al -> (al.all λ x => x.cells.length == es && x.cells.all gv) = true
 | [], [], _ => rfl
 | _ :: _, _ :: _, h => by
  simp only [LIs] at h
  obtain ⟨c, rfl, hl, ho⟩ := hR.cells h.1
  simp [db, LIs.Vf hR h.2, tj, hl]
  simpa using ho
 | [], _ :: _, h => by simp [LIs] at h
 | _ :: _, [], h => by simp [LIs] at h
theorem LIs.at : ∀ {l : List α} {al : List AV} {i : Nat}, LIs R l al -> i < al.length -> ∃ x a, l[i]? = some x /\ l.drop i = x :: l.drop (i + 1) /\ x ∈ l /\ al[i]? = some a /\ R x a
 | [], [], i, _, h => by simp at h
 | x :: xs, a :: al, 0, h, _ => by
  simp only [LIs] at h
  exact ⟨x, a, rfl, rfl, by simp, rfl, h.1⟩
 | x :: xs, a :: al, i + 1, h, hi => by
  simp only [LIs] at h
  obtain ⟨y, b, h1, h2, h3, h4, h5⟩ := LIs.at (i := i) h.2 (by simpa using hi)
  exact ⟨y, b, by simpa using h1, by simpa using h2, by simp [h3], by simpa using h4, h5⟩
 | [], _ :: _, _, h, _ => by simp [LIs] at h
 | _ :: _, [], _, h, _ => by simp [LIs] at h
theorem LIs.get (hR : Mg R es) {l : List α} {al : List AV} {i : Nat} (h : LIs R l al) (hi : i < al.length) : ∃ x c, l[i]? = some x /\ l.drop i = x :: l.drop (i + 1) /\ x ∈ l /\ al[i]? = some (.agg c) /\ c.length = es /\ c.take es = c /\ c.all gv = true /\ R x (.agg c) := by
 obtain ⟨x, a, h1, h2, h3, h4, h5⟩ := LIs.at h hi
 obtain ⟨c, rfl, hl, ho⟩ := hR.cells h5
 exact ⟨x, c, h1, h2, h3, h4, hl, au (by omega), ho, h5⟩
theorem LIs.append : ∀ {l m : List α} {al am : List AV}, LIs R l al -> LIs R m am -> LIs R (l ++ m) (al ++ am)
 | [], m, [], am, _, h => h
 | _ :: _, m, _ :: _, am, h, h' => by simp only [LIs, bn] at h ⊢; exact ⟨h.1, LIs.append h.2 h'⟩
 | [], _, _ :: _, _, h, _ => by simp [LIs] at h
 | _ :: _, _, [], _, h, _ => by simp [LIs] at h
theorem LIs.one {x : α} {a : AV} (h : R x a) : LIs R [x] [a] := ⟨h, trivial⟩
theorem LIs.take : ∀ (n : Nat) {l : List α} {al : List AV}, LIs R l al -> LIs R (l.take n) (al.take n)
 | 0, _, _, _ => by simp [LIs]
 | n + 1, [], [], h => h
 | n + 1, _ :: _, _ :: _, h => by simp only [LIs] at h; exact ⟨h.1, LIs.take n h.2⟩
 | _ + 1, [], _ :: _, h => by simp [LIs] at h
 | _ + 1, _ :: _, [], h => by simp [LIs] at h
theorem LIs.drop : ∀ (n : Nat) {l : List α} {al : List AV}, LIs R l al -> LIs R (l.drop n) (al.drop n)
 | 0, _, _, h => h
 | n + 1, [], [], h => h
 | n + 1, _ :: _, _ :: _, h => by simp only [LIs] at h; exact LIs.drop n h.2
 | _ + 1, [], _ :: _, h => by simp [LIs] at h
 | _ + 1, _ :: _, [], h => by simp [LIs] at h
theorem LIs.set : ∀ {l : List α} {al : List AV} (i : Nat) {x : α} {a : AV}, LIs R l al -> R x a -> LIs R (l.set i x) (al.set i a)
 | [], [], i, _, _, h, _ => by simp [LIs]
 | _ :: _, _ :: _, 0, _, _, h, h' => by simp only [LIs] at h; exact ⟨h', h.2⟩
 | _ :: _, _ :: _, i + 1, _, _, h, h' => by simp only [LIs] at h; exact ⟨h.1, LIs.set i h.2 h'⟩
 | [], _ :: _, _, _, _, h, _ => by simp [LIs] at h
 | _ :: _, [], _, _, _, h, _ => by simp [LIs] at h
theorem LIs.mono {R' : α -> AV -> Prop} : ∀ {l : List α} {al : List AV}, LIs R l al -> (∀ x ∈ l, ∀ a, R x a -> R' x a) -> LIs R' l al
 | [], [], _, _ => trivial
 | _ :: _, _ :: _, h, h' => by simp only [LIs] at h; exact ⟨h' _ (by simp) _ h.1, LIs.mono h.2 λ x hx => h' x (by simp [hx])⟩
 | [], _ :: _, h, _ => by simp [LIs] at h
 | _ :: _, [], h, _ => by simp [LIs] at h
end
def ints (l : List Int) : List AV := l.map AV.int
theorem ig (l : List Int) : (ints l).length = l.length := by simp [ints]
theorem km : ∀ l : List Int, gg (ints l) = true
 | [] => by rw [ints, List.map_nil, gg]
 | e :: es => by have := km es; simp only [ints] at this ⊢; simp [ga, mg, this]
theorem mn (l : List Int) : ((ints l).all λ x => x.cells.length == 1) = true := by
 induction l with
 | nil => rfl
 | cons x l ih => simp only [ints] at ih ⊢; simp only [bq, db, ih]; rfl
theorem Bu {l : List Int} {i : Nat} (h : i < l.length) : ∃ x, l[i]? = some x /\ l.drop i = x :: l.drop (i + 1) /\ (ints l)[i]? = some (.int x) := by
 refine ⟨l[i], by simp [h], (bx h), ?_⟩
 simp [ints, h]
def App (T : List Nat) (l : List AV) (t : Tl) : Prop := (l = [] /\ t = .nil) \/ (l ≠ [] /\ ∃ id ver, t = .tl id ver /\ T[id]? = some ver)
end Go.Proofs.Eng
namespace Go.Proofs.Eng
open Go
theorem Aq (s : ByteArray) : s.toList.length = s.size := by rw [ByteArray.toList_eq]; rfl
theorem Rk {s : ByteArray} : (s.toList == (ByteArray.mk #[]).toList) = (s.size == 0) := by
 rw [<- Aq, show (ByteArray.mk #[]).toList = [] from by rw [ByteArray.toList_eq]]
 cases s.toList <;> rfl
theorem sd (a b : ByteArray) : (a.toList == b.toList) = decide (a = b) := by
 rw [Bool.eq_iff_iff, beq_iff_eq, decide_eq_true_eq]
 constructor
 ·intro h
  rw [ByteArray.toList_eq, ByteArray.toList_eq] at h
  cases a; cases b
  simp only at h
  rw [Array.toList_inj.1 h]
 ·rintro rfl; rfl
theorem nk (a b : ByteArray) : (a == b) = decide (a = b) := by
 cases a with
 | mk x =>
 cases b with
 | mk y =>
 rw [Bool.eq_iff_iff, decide_eq_true_eq]
 show (x == y) = true ↔ _
 rw [beq_iff_eq, ByteArray.mk.injEq]
theorem Qn {α : Type} {p : Prop} {a : α} {q : α -> Prop} : (∃ x, (p /\ a = x) /\ q x) = (p /\ q a) := by
 simp [and_assoc]
section
variable {α : Type} {R : α -> AV -> Prop} {es : Nat}
theorem Xi : flat [] = [] := rfl
theorem th {n : Nat} {s : ASt} : ∀ {l : List AV}, gg l = true -> iq (gh (n + 1) s) l = some l
 | [], _ => rfl
 | x :: l, h => by
  simp only [ga, dx] at h
  simp only [iq, iu h.1, th h.2]
theorem yx {n : Nat} {s : ASt} : ∀ {l : List AV}, gg l = true -> iq (r9 (gh (n + 1) s)) l = some l
 | [], _ => rfl
 | x :: l, h => by
  simp only [ga, dx] at h
  have hx : r9 (gh (n + 1) s) x = some x := by
   cases x with
   | agg c =>
    have := h.1
    simp only [lu] at this
    simp only [r9, th this, fg]
   | _ => exact iu (n := n) (s := s) h.1
  simp only [iq, hx, yx h.2]
theorem Tu {n : Nat} {s : ASt} {i off : Nat} : gh (n + 1) s (.ptr i off) = match s.H[i]? with
  | some (.cells _ c) => if off <= c.length then (iq (gh n s) c).map (.ip · off) else none
  | _ => none := by
 rw [gh]; simp only [gz, dy, if_false]; rfl
theorem a3x {n : Nat} {s : ASt} {l : List AV} : gh (n + 2) s (.agg l) = (iq (gh (n + 1) s) l).map .agg := by
 cases h : gg l
 ·rw [gh]; simp [lu, h]
 ·rw [iu (by rw [lu, h]), th h]; rfl
theorem Xa {n : Nat} {s : ASt} {l : List AV} : gh (n + 2) s (.tup l) = (iq (gh (n + 1) s) l).map .tup := by
 cases h : gg l
 ·rw [gh]; simp [Ii, h]
 ·rw [iu (by rw [Ii, h]), th h]; rfl
theorem a35 {n : Nat} {s : ASt} {f : FuncId} {l : List AV} : gh (n + 2) s (.fn f l) = (iq (gh (n + 1) s) l).map (.fn f) := by
 cases h : gg l
 ·rw [gh]; simp [yo, h]
 ·rw [iu (by rw [yo, h]), th h]; rfl
theorem X8 {n : Nat} {s : ASt} {t : TypeId} {x : AV} : gh (n + 2) s (.iface t x) = (gh (n + 1) s x).map (.iface t) := by
 cases h : gz x
 ·rw [gh]; simp [Ax, h]
 ·rw [iu (by rw [Ax, h]), iu h]; rfl
theorem Wj {n : Nat} {s : ASt} {l : List AV} {t : Tl} : gh (n + 2) s (.sl l t) = (iq (r9 (gh (n + 1) s)) l).map (.sl · (t.sm (n + 1) s)) := by
 cases h : t.pure && gg l
 ·rw [gh]; simp [lg, h]
 ·simp only [dx] at h
  rw [iu (by rw [lg, h.1, h.2]; rfl), yx h.2]
  cases t <;> simp_all [Tl.sm, Tl.pure]
theorem zk {n : Nat} {s : ASt} {x : AV} (h : gz x = true) : frz n s x = s := by
 cases n with
 | zero => rfl
 | succ n => exact Bm h
theorem a2k {n : Nat} {s : ASt} {f : FuncId} {l : List AV} : frz (n + 1) s (.fn f l) = if gg l then s else l.foldl (frz n) s := by
 rw [frz, yo]
theorem a6g {n : Nat} {s : ASt} {l : List AV} : frz (n + 1) s (.agg l) = if gg l then s else l.foldl (frz n) s := by
 rw [frz, lu]
theorem a69 {n : Nat} {s : ASt} {l : List AV} : frz (n + 1) s (.tup l) = if gg l then s else l.foldl (frz n) s := by
 rw [frz, Ii]
theorem Ml {i o : Nat} : gz (.ptr i o) = false := by rw [gz]; all_goals (intros; simp_all)
theorem a7b {i o n es : Nat} {ag : Bool} : gz (.bs i o n es ag) = false := by rw [gz]; all_goals (intros; simp_all)
theorem a7h {i : Nat} : gz (.mp i) = false := by rw [gz]; all_goals (intros; simp_all)
theorem Su {n : Nat} {s : ASt} {i o : Nat} : frz (n + 1) s (.ptr i o) = match s.H[i]? with
  | some (.cells _ c) => c.foldl (frz n) (s.fz i)
  | _ => s := by
 rw [frz]; simp only [Ml, dy, if_false]; rfl
theorem F7 : ∀ {l m : List AV}, gg (l ++ m) = (gg l && gg m)
 | [], m => by simp [gu]
 | x :: l, m => by simp [ga, F7 (l := l) (m := m), Bool.and_assoc]
theorem Ly {x : AV} (h : gz x = true) : gg x.cells = true := by
 cases x with
 | agg l => rw [tj, <- lu]; exact h
 | _ => simp only [AV.cells, ga, gu, h, Bool.and_true]
theorem Hf : ∀ {l : List AV}, gg l = true -> gg (flat l) = true
 | [], _ => by rw [Xi, gu]
 | x :: l, h => by
  simp only [ga, dx] at h
  rw [l7, F7, Ly h.1, Hf h.2]; rfl
theorem a7p {n : Nat} {s : ASt} {l : List AV} {t : Tl} (h : gg l = true) : frz n s (.sl l t) = s := by
 cases n with
 | zero => rfl
 | succ n =>
  cases ht : t.pure with
  | true => exact Bm (by rw [lg, ht, h]; rfl)
  | false =>
   rw [frz]
   simp only [lg, ht, ej, dy, if_false]
   exact zf (Hf h)
theorem Ok {s : ASt} {l : List AV} {t : Tl} : An s (.sl l t) = some l := Eq.trans rfl rfl
theorem X5 {s : ASt} {b : ByteArray} : An s (.v (.string b)) = some (b.toList.map λ c => .v (.int .u8 c.toNat)) := Eq.trans rfl rfl
theorem Ql {s : ASt} {l : List AV} {t : Tl} : kq s (.sl l t) = some l := Eq.trans rfl rfl
end
section
variable {md : FuncId -> Md} {pfs : FuncId -> Option PF}
theorem Out.n6 {f : FuncId} {args args' : List AV} {PR : AV -> Prop} (h : Out md pfs f args' PR λ _ => False) (hm : md f = .pure) {s : ASt} (hp : iq (gh 20 s) args = some args') : ∃ v, PR v /\ ∀ K KP, CW (run md pfs) md false s f args K KP () = K v (args.foldl (frz 20) s) := by
 obtain ⟨out, s', out', h1, h2, h3⟩ := h
 cases out' with
 | pan v => exact h3.elim
 | ret v => exact ⟨v, h3, λ K KP => by simp [CW, lj, hm, hp, h1, h2]⟩
end
end Go.Proofs.Eng
namespace Go.Proofs.Eng
open Go
theorem yc {α : Type} {H l : List α} : (H ++ l)[H.length]? = l[0]? := by rw [af (di _), Nat.sub_self]
theorem yf {α : Type} {H l : List α} {k : Nat} : (H ++ l)[H.length + k]? = l[k]? := by rw [af (Nat.le_add_right _ _), Nat.add_sub_cancel_left]
theorem Jm {α : Type} {H l : List α} {y : α} : (H ++ l).set H.length y = H ++ l.set 0 y := by rw [List.set_append_right _ _ (di _), Nat.sub_self]
theorem Dj {α : Type} {H l : List α} {k : Nat} {y : α} : (H ++ l).set (H.length + k) y = H ++ l.set k y := by rw [List.set_append_right _ _ (Nat.le_add_right _ _), Nat.add_sub_cancel_left]
theorem gy {α : Type} {H : List α} {i : Nat} {x : α} (h : H[i]? = some x) (l : List α) : (H ++ l)[i]? = some x := by
 rw [ae (List.getElem?_eq_some_iff.1 h).1]; exact h
theorem fy {α : Type} {H : List α} {i : Nat} {x : α} (h : H[i]? = some x) : i < H.length := (List.getElem?_eq_some_iff.1 h).1
def G5 (H : List fp) (s : ASt) : Prop := ∃ G T, s = ⟨H ++ G, T⟩
section
variable {md : FuncId -> Md} {pfs : FuncId -> Option PF}
def Sh (md : FuncId -> Md) (pfs : FuncId -> Option PF) (f : FuncId) (args : List AV) (s : ASt) (PR PP : AV -> ASt -> Prop) : Prop :=
 ∃ out s1 out', run md pfs f args s = some (out, s1) /\ out.gh 20 s1 = some out' /\ match out' with | .ret v => PR v (out.frz 20 s1) | .pan v => PP v (out.frz 20 s1)
def SQ (res : List PR) (PR PP : AV -> ASt -> Prop) : fu -> St -> Prop
 | .pan v, st => st.df = [] /\ ∃ v', gh 20 st.s v = some v' /\ PP v' (frz 20 st.s v)
 | .exit _, _ => False
 | _, st => st.df = [] /\ ∃ l, m5 st.tm st.s res = some l /\ ∃ v', gh 20 st.s (qf l) = some v' /\ PR v' (frz 20 st.s (qf l))
theorem a5o {res : List PR} {PR PP : AV -> ASt -> Prop} {st : St} : SQ res PR PP .ret st = (st.df = [] /\ ∃ l, m5 st.tm st.s res = some l /\ ∃ v', gh 20 st.s (qf l) = some v' /\ PR v' (frz 20 st.s (qf l))) := rfl
theorem Qp {res : List PR} {PR PP : AV -> ASt -> Prop} {st : St} : SQ res PR PP .normal st = (st.df = [] /\ ∃ l, m5 st.tm st.s res = some l /\ ∃ v', gh 20 st.s (qf l) = some v' /\ PR v' (frz 20 st.s (qf l))) := rfl
theorem a6p {res : List PR} {PR PP : AV -> ASt -> Prop} {v : AV} {st : St} : SQ res PR PP (.pan v) st = (st.df = [] /\ ∃ v', gh 20 st.s v = some v' /\ PP v' (frz 20 st.s v)) := rfl
theorem kg {f : FuncId} {pf : PF} (hp : pfs f = some pf) {args : List AV} {s : ASt} {PR PP : AV -> ASt -> Prop} (hn : args.length <= pf.nt) (h : W (run md pfs) md pf.body ⟨tmE pf.nt (uv args), [], s⟩ (SQ pf.res PR PP) ()) : Sh md pfs f args s PR PP := by
 unfold Sh
 rw [run_eq hp (Pn h)]
 unfold Ft
 rw [Dy args pf.nt hn]
 unfold W at h
 cases hx : ij (run md pfs) md (oh (run md pfs) md) pf.body ⟨tmE pf.nt (uv args), [], s⟩ with
 | none => rw [hx] at h; exact h.elim
 | some x =>
  obtain ⟨r, st⟩ := x
  obtain ⟨tm, df, s⟩ := st
  rw [hx] at h
  cases r with
  | exit i => exact h.elim
  | pan v =>
   obtain ⟨h1, v', h2, h3⟩ := h
   simp only at h1; subst h1
   exact ⟨.pan v, s, .pan v', by simp only [List.isEmpty_nil, dz, er, dy, if_false]; rfl, by simp only [ju.gh]; rw [h2]; rfl, h3⟩
  | normal =>
   obtain ⟨h1, l, h2, v', h3, h4⟩ := h
   simp only at h1; subst h1
   refine ⟨.ret (qf l), s, .ret v', ?_, by simp only [ju.gh]; rw [h3]; rfl, h4⟩
   simp only [List.isEmpty_nil, dz, er, dy, if_false]
   show (m5 tm s pf.res).map _ = _
   simp only at h2
   rw [h2]; rfl
  | ret =>
   obtain ⟨h1, l, h2, v', h3, h4⟩ := h
   simp only at h1; subst h1
   refine ⟨.ret (qf l), s, .ret v', ?_, by simp only [ju.gh]; rw [h3]; rfl, h4⟩
   simp only [List.isEmpty_nil, dz, er, dy, if_false]
   show (m5 tm s pf.res).map _ = _
   simp only at h2
   rw [h2]; rfl
theorem Sh.call {f : FuncId} {args : List AV} {s : ASt} {PR PP : AV -> ASt -> Prop} (h : Sh md pfs f args s PR PP) (hm : md f = .shared) : (∃ v s', PR v s' /\ ∀ K KP, CW (run md pfs) md false s f args K KP () = K v s') \/ (∃ v s', PP v s' /\ ∀ K KP, CW (run md pfs) md false s f args K KP () = KP v s') := by
 obtain ⟨out, s1, out', h1, h2, h3⟩ := h
 cases out' with
 | ret v => exact .inl ⟨v, _, h3, λ K KP => by simp [CW, lj, hm, h1, h2]⟩
 | pan v => exact .inr ⟨v, _, h3, λ K KP => by simp [CW, lj, hm, h1, h2]⟩
theorem Sh.mono {f : FuncId} {args : List AV} {s : ASt} {PR PP PR' PP' : AV -> ASt -> Prop} (h : Sh md pfs f args s PR PP) (h1 : ∀ v s, PR v s -> PR' v s) (h2 : ∀ v s, PP v s -> PP' v s) : Sh md pfs f args s PR' PP' := by
 obtain ⟨out, s1, out', e1, e2, e3⟩ := h
 refine ⟨out, s1, out', e1, e2, ?_⟩
 cases out' with
 | ret v => exact h1 _ _ e3
 | pan v => exact h2 _ _ e3
theorem Out.Yl {f : FuncId} {args : List AV} {PP : AV -> Prop} (h : Out md pfs f args (λ _ => False) PP) (hm : md f = .pure) (ha : gg args = true) : ∃ v, PP v /\ ∀ pm s K KP, CW (run md pfs) md pm s f args K KP () = KP v s := by
 rcases h.call2 hm ha with ⟨_, h, _⟩ | h
 ·exact h.elim
 ·exact h
def LW (md : FuncId -> Md) (pfs : FuncId -> Option PF) (res : List PR) (P : ju -> ASt -> Prop) : fu -> St -> Prop
 | .exit _, _ => False
 | .pan v, st => ∃ x, js (run md pfs) md pfs res st (some v) = some x /\ P x.1 x.2
 | _, st => ∃ x, js (run md pfs) md pfs res st none = some x /\ P x.1 x.2
theorem a3f {res : List PR} {P : ju -> ASt -> Prop} {st : St} : LW md pfs res P .ret st = ∃ x, js (run md pfs) md pfs res st none = some x /\ P x.1 x.2 := rfl
theorem a5c {res : List PR} {P : ju -> ASt -> Prop} {st : St} {v : AV} : LW md pfs res P (.pan v) st = ∃ x, js (run md pfs) md pfs res st (some v) = some x /\ P x.1 x.2 := rfl
theorem Rf {f : FuncId} {pf : PF} (hp : pfs f = some pf) {args : List AV} {s : ASt} {P : ju -> ASt -> Prop} (hn : args.length <= pf.nt) (h : W (run md pfs) md pf.body ⟨tmE pf.nt (uv args), [], s⟩ (LW md pfs pf.res P) ()) (hq : pf.body.ou = false := by rfl) : ∃ out s1, run md pfs f args s = some (out, s1) /\ P out s1 := by
 rw [run_eq hp (Pn h)]
 unfold Ft
 rw [Dy args pf.nt hn]
 unfold W at h
 cases hx : ij (run md pfs) md (oh (run md pfs) md) pf.body ⟨tmE pf.nt (uv args), [], s⟩ with
 | none => rw [hx] at h; exact h.elim
 | some x =>
  obtain ⟨r, st⟩ := x
  rw [hx] at h
  cases r with
  | exit i => exact h.elim
  | pan v => obtain ⟨⟨o, s1⟩, h1, h2⟩ := h; exact ⟨o, s1, by simp only [hq, ej, dy, if_false]; exact h1, h2⟩
  | normal => obtain ⟨⟨o, s1⟩, h1, h2⟩ := h; exact ⟨o, s1, by simp only [hq, ej, dy, if_false]; exact h1, h2⟩
  | ret => obtain ⟨⟨o, s1⟩, h1, h2⟩ := h; exact ⟨o, s1, by simp only [hq, ej, dy, if_false]; exact h1, h2⟩
end
end Go.Proofs.Eng
namespace Go.Proofs.Eng
open Go
set_option maxRecDepth 10000
def fj := And.intro @a2q (And.intro @a6x (And.intro @a4r (And.intro @a74 (And.intro @a68 (And.intro @E8 (And.intro @a81 (And.intro @a8q (And.intro @a8g (And.intro @a8m (And.intro @a7z (And.intro @a8p (And.intro @a8k (And.intro @a8t (And.intro @a8c (And.intro @a4f (And.intro @Yt (And.intro @a3i (And.intro @Ym (And.intro @Vp (And.intro @Mu (And.intro @a43 (And.intro @a1c (And.intro @a57 (And.intro @a1q (And.intro @a83 (@a8h))))))))))))))))))))))))))
def a8l := And.intro @a82 (And.intro @a7u (And.intro @a58 (And.intro @a1o (And.intro @Xt (And.intro @a5q (And.intro @a52 (And.intro @a5d (And.intro @a16 (And.intro @R6 (And.intro @a7l (And.intro @Vz (And.intro @Ur (And.intro @Y0 (And.intro @Ux (And.intro @Xp (And.intro @a1i (And.intro @a4y (And.intro @Yj (And.intro @a4s (And.intro @a0x (And.intro @T5 (And.intro @a4t (And.intro @Uq (And.intro @a55 (And.intro @a0g (And.intro @X1 (And.intro @Sq (And.intro @a5h (And.intro @a5x (And.intro @a41 (And.intro @a4k (And.intro @a0y (And.intro @a7r (And.intro @a0m (And.intro @a0r (And.intro @a1r (And.intro @Vt (And.intro @V9 (And.intro @Xh (And.intro @Xj (And.intro @S9 (And.intro @Yn (And.intro @a04 (And.intro @a2i (And.intro @U0 (And.intro @a6n (And.intro @a09 (And.intro @a0i (And.intro @a4v (And.intro @Tv (And.intro @Lv (And.intro @Gp (And.intro @Yk (And.intro @a0u (And.intro @a4x (And.intro @a67 (And.intro @Vm (And.intro @a4u (And.intro @Tc (And.intro @a6y (And.intro @a7s (And.intro @a6z (And.intro @a7k (And.intro @Zb (And.intro @Yo (And.intro @tj (And.intro @Qt (And.intro @Od (And.intro @Ze (And.intro @Vx (And.intro @Wd (And.intro @Sj (And.intro @Qi (And.intro @Wm (And.intro @Sv (And.intro @Ub (And.intro @Ty (And.intro @Vk (And.intro @Wf (And.intro @T3 (And.intro @Y1 (And.intro @K6 (And.intro @Lq (And.intro @Hy (And.intro @a2a (And.intro @U4 (And.intro @Pa (And.intro @a0e (And.intro @Zs (And.intro @Z5 (And.intro @O1 (And.intro @a3y (And.intro @R1 (And.intro @a5a (And.intro @Dz (And.intro @iu (And.intro @mg (And.intro @lg (And.intro @lu (And.intro @Ii (And.intro @Ax (And.intro @yo (And.intro @Oj (And.intro @gu (And.intro @ga (And.intro @a65 (And.intro @a1f (And.intro @a4l (And.intro @F6 (And.intro @Qn (And.intro @a35 (And.intro @Tu (And.intro @Xa (And.intro @X8 (And.intro @zk (And.intro @a2k (And.intro @a6g (And.intro @a69 (And.intro @Su (And.intro @Ml (And.intro @a7b (And.intro @a7h (And.intro @a7p (And.intro @Ok (And.intro @X5 (And.intro @Ql (And.intro @Rk (And.intro @a5o (And.intro @Qp (And.intro @a6p (And.intro @Zz (And.intro @a5j (And.intro @a1a (And.intro @a6w (And.intro @a7n (And.intro @a27 (And.intro @a3n (And.intro @Zh (And.intro @Td (And.intro @a45 (And.intro @X3 (And.intro @a44 (And.intro @a5w (And.intro @a4z (And.intro @a3p (And.intro @a6v (And.intro @Yq (And.intro @Zy (And.intro @Vb (And.intro @W9 (And.intro @Zo (And.intro @Y6 (And.intro @a3l (@To))))))))))))))))))))))))))))))))))))))))))))))))))))))))))))))))))))))))))))))))))))))))))))))))))))))))))))))))))))))))))))))))))))))))))))))))))))))))))
def a7i := And.intro @not_false_eq_true (And.intro @Option.map_some.{0,0} (And.intro @Option.bind_some.{0,0} (And.intro @Option.some.injEq.{0} (And.intro @Bool.false_eq_true (And.intro @List.nil_append.{0} (And.intro @List.cons_append.{0} (And.intro @List.length_cons.{0} (And.intro @List.length_nil.{0} (And.intro @List.getElem?_cons_zero.{0} (And.intro @List.getElem?_cons_succ.{0} (And.intro @List.set_cons_zero.{0} (And.intro @List.set_cons_succ.{0} (And.intro @List.drop_zero.{0} (And.intro @List.drop_succ_cons.{0} (And.intro @List.take_zero.{0} (And.intro @List.take_succ_cons.{0} (And.intro @List.take_nil.{0} (And.intro @List.drop_nil.{0} (And.intro @List.append_nil.{0} (And.intro @Nat.zero_add (And.intro @Nat.add_zero (And.intro @and_true (And.intro @true_and (And.intro @List.all_cons.{0} (And.intro @List.all_nil.{0} (And.intro @Bool.and_true (And.intro @Bool.true_and (And.intro @List.getD_cons_zero.{0} (And.intro @List.getD_cons_succ.{0} (And.intro @List.getD_nil.{0} (And.intro @List.head?_cons.{0} (And.intro @decide_eq_true_eq (And.intro @decide_eq_false_iff_not (And.intro @List.getElem?_concat_length.{0} (And.intro @Int.toNat_natCast (And.intro @Nat.le_refl (And.intro @Int.le_refl (And.intro @List.head?_nil.{0} (And.intro @Option.ite_none_right_eq_some.{0} (And.intro @and_self (And.intro @Bool.not_true (And.intro @Bool.not_false (And.intro @Option.isSome_some.{0} (And.intro @Option.isSome_none.{0} (And.intro @Bool.xor_false (And.intro @Bool.false_xor (And.intro @Bool.true_xor (And.intro @Bool.xor_true (And.intro @beq_self_eq_true.{0} (And.intro @bne_self_eq_false.{0} (And.intro @decide_true (And.intro @decide_false (And.intro @Option.getD_some.{0} (And.intro @Nat.zero_le (And.intro @Int.natCast_nonneg (And.intro @List.foldl_cons.{0,0} (And.intro @List.foldl_nil.{0,0} (And.intro @Bool.and_false (And.intro @Bool.false_and (And.intro @List.replicate_succ.{0} (And.intro @List.replicate_zero.{0} (And.intro @Nat.zero_div (And.intro @Nat.zero_mul (And.intro @Nat.lt_add_one (And.intro @Nat.zero_lt_succ (And.intro @Nat.lt_irrefl (And.intro @Int.cast_ofNat_Int (And.intro @Int.toNat_zero (And.intro @Int.toNat_one (And.intro @List.contains_cons.{0} (And.intro @List.contains_nil.{0} (And.intro @Bool.or_false (And.intro @Bool.or_true (And.intro @Bool.false_or (@Bool.true_or)))))))))))))))))))))))))))))))))))))))))))))))))))))))))))))))))))))))))))
end Go.Proofs.Eng
namespace Go.Proofs.Eng
open Go
def Oi (es : Nat) (l : List AV) : Prop := ∀ x ∈ l, ∃ c, x = .agg c /\ c.length = es /\ c.all gv = true
theorem Oi.set {es : Nat} {l : List AV} (h : Oi es l) (m : Nat) {c : List AV} (hc : c.length = es) (ho : c.all gv = true) : Oi es (l.set m (.agg c)) := by
 intro x hx
 rcases List.mem_or_eq_of_mem_set hx with h1 | rfl
 ·exact h x h1
 ·exact ⟨c, rfl, hc, ho⟩
theorem LIs.rows {α : Type} {R : α -> AV -> Prop} {es : Nat} (hR : Mg R es) : ∀ {l : List α} {al : List AV}, LIs R l al -> Oi es al
 | [], [], _ => λ x hx => by simp at hx
 | a :: l, b :: al, h => λ x hx => by
  simp only [LIs] at h
  rcases List.mem_cons.1 hx with rfl | hx
  ·exact hR.cells h.1
  ·exact LIs.rows hR h.2 x hx
 | [], _ :: _, h => by simp [LIs] at h
 | _ :: _, [], h => by simp [LIs] at h
end Go.Proofs.Eng
