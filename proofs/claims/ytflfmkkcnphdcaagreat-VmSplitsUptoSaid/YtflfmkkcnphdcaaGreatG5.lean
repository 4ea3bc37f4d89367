/- The engine's calculus, ninth part: what holds behind code, computed from the code's end. No conditions. -/
import Derived.Test.YtflfmkkcnphdcaaGreatG4
import Derived.IntWalk
set_option linter.all false
set_option linter.deprecated false
set_option linter.unnecessarySimpa false
set_option linter.unusedVariables false
set_option linter.unusedSimpArgs false
set_option linter.defProp false
namespace Go.Proofs.Eng
abbrev Env := Nat -> AV
def J2 (e : Env) (d : Nat) (v : AV) : Env := λ n => if n = d then v else e n
def tmE (nt : Nat) (e : Env) : List AV := (List.range nt).map e
def tw (l : List AV) : Env := λ n => l.getD n .undef
theorem Du {nt n : Nat} {e : Env} (h : n < nt) : (tmE nt e)[n]? = some (e n) := by simp [tmE, h]
theorem a7i {nt n : Nat} {e : Env} (h : n < nt) : evX (tmE nt e) (.t n) = some (e n) := Du h
theorem a7g {tm : List AV} {v : AV} : evX tm (.c v) = some v := by rw [evX]
theorem a64 {tm : List AV} {s : ASt} {x : X} : opA tm s (.mov x) = ((evX tm x).map (.val · s)) := Eq.trans rfl rfl
theorem a17 {tm : List AV} {s : ASt} {c : X} {a : X} {b : X} : opA tm s (.pick c a b) = (
  match evX tm c, evX tm a, evX tm b with
  | some (.v (.bool c)), some a, some b => some (.val (if c then a else b) s)
  | _, _, _ => none) := Eq.trans rfl rfl
theorem Wy {tm : List AV} {s : ASt} {l : List AV} : opA tm s (.alloc l) = (some (.val (.ptr s.H.length 0) { s with H := s.H ++ [.cells false l] })) := Eq.trans rfl rfl
theorem a4k {tm : List AV} {s : ASt} {x : X} : opA tm s (.box x) = ((evX tm x).bind λ a => if a.known then some (.val (.ptr s.H.length 0) { s with H := s.H ++ [.cells false a.cells] }) else none) := Eq.trans rfl rfl
theorem Th {tm : List AV} {s : ASt} {z : List AV} {ps : List (Nat × Nat × X)} : opA tm s (.build z ps) = ((um tm z ps).map λ l => .val (.agg l) s) := Eq.trans rfl rfl
theorem a6h {tm : List AV} {s : ASt} {z : AV} {n : Nat} {ps : List (Nat × Nat × X)} : opA tm s (.bsl z n ps) = ((xn tm z.cells.length (List.replicate n z) ps).map λ l => .val (.sl l (.cap n)) s) := Eq.trans rfl rfl
theorem a1c {tm : List AV} {s : ASt} {ag : Bool} {n : Nat} {a : X} : opA tm s (.load ag n a) = (((evX tm a).bind (ri s ag n)).map (.val · s)) := Eq.trans rfl rfl
theorem Xm {tm : List AV} {s : ASt} {n : Nat} {a : X} {x : X} : opA tm s (.store n a x) = (
  match evX tm a, evX tm x with
  | some a, some x => (u7 s n x a).map (.val .undef ·)
  | _, _ => none) := Eq.trans rfl rfl
theorem Ts {tm : List AV} {s : ASt} {x : X} : opA tm s (.iy x) = (
  match evX tm x with
  | some (.ptr i o) => some (.val (.ptr i o) s)
  | some (.ip l o) => some (.val (.ip l o) s)
  | some (.fn f l) => some (.val (.fn f l) s)
  | some (.bm f l) => some (.val (.bm f l) s)
  | _ => none) := Eq.trans rfl rfl
theorem a69 {tm : List AV} {s : ASt} {op : BinOp} {x : X} {y : X} : opA tm s (.bin op x y) = (
  match evX tm x, evX tm y with
  | some a, some b => (Gg op a b).map (.val · s)
  | _, _ => none) := Eq.trans rfl rfl
theorem a6c {tm : List AV} {s : ASt} {neg : Bool} {x : X} {y : X} : opA tm s (.eqb neg x y) = (
  match evX tm x, evX tm y with
  | some (.v (.bool a)), some (.v (.bool b)) => some (.val (.bool (neg ^^ (a == b))) s)
  | _, _ => none) := Eq.trans rfl rfl
theorem a3w {tm : List AV} {s : ASt} {neg : Bool} {x : X} {y : X} : opA tm s (.eqi neg x y) = (
  match evX tm x, evX tm y with
  | some a, some b => (G8 y.isC a b).map λ r => .val (.bool (neg ^^ r)) s
  | _, _ => none) := Eq.trans rfl rfl
theorem a2u {tm : List AV} {s : ASt} {neg : Bool} {x : X} {y : X} : opA tm s (.eqs neg x y) = (
  match evX tm x, evX tm y with
  | some a, some b => (K7 a b).map λ r => .val (.bool (neg ^^ r)) s
  | _, _ => none) := Eq.trans rfl rfl
theorem Yc {tm : List AV} {s : ASt} {es : Nat} {x y n v d : X} : opA tm s (.Mk es x y n v d) = (
  match evX tm x, (evX tm y).bind (Af s), evX tm n, evX tm v, evX tm d with
  | some (.sl l t), some [z], some (.v (.int _ k)), some q, some _ =>
   if k = l.length /\ z.cells.length = es /\ z.cells.all gv = true then (Km s es l t [q]).map λ (a, s) => .val a s else none
  | _, _, _, _, _ => none) := Eq.trans rfl rfl
theorem a7b {tm : List AV} {s : ASt} {op : UnOp} {x : X} : opA tm s (.un op x) = (((evX tm x).bind (unA op)).map (.val · s)) := Eq.trans rfl rfl
theorem a2a {tm : List AV} {s : ASt} {k : IntKind} {x : X} : opA tm s (.conv k x) = (
  match evX tm x with
  | some (.v (.int _ n)) => some (.val (.v (.int k (k.wrap n))) s)
  | _ => none) := Eq.trans rfl rfl
theorem a1d {tm : List AV} {s : ASt} {t : TypeId} {x : X} : opA tm s (.K0 t x) = ((evX tm x).map λ a => .val (.iface t a) s) := Eq.trans rfl rfl
theorem a16 {tm : List AV} {s : ASt} {f : FuncId} {caps : List X} : opA tm s (.Bw f caps) = ((im (evX tm) caps).map λ l => .val (.fn f l) s) := Eq.trans rfl rfl
theorem Y6 {tm : List AV} {s : ASt} {f : FuncId} {caps : List X} : opA tm s (.u5 f caps) = ((im (evX tm) caps).map λ l => .val (.bm f l) s) := Eq.trans rfl rfl
theorem Ur {tm : List AV} {s : ASt}  : opA tm s (.qk) = (some (.val (.mp s.H.length) { s with H := s.H ++ [.map []] })) := Eq.trans rfl rfl
theorem T6 {tm : List AV} {s : ASt} {es : Nat} {x : X} {lo : Option X} {hi : Option X} {mx : Option X} : opA tm s (.slice es x lo hi mx) = (
  match evX tm x with
  | some (.sl l t) =>
   if l.all λ x => x.cells.length == es then
   match j9 l.length 0 lo tm, j9 l.length l.length hi tm with
   | some a, some b =>
    match mx with
    | none => (qz es l t a b none).map (.val · s)
    | some m => if hi.isSome then (j9 l.length 0 (some m) tm).bind λ m => (qz es l t a b (some m)).map (.val · s) else none
   | _, _ => none
   else none
  | some (.bs i off len es' ag) =>
   match j9 len 0 lo tm, j9 len len hi tm with
   | some a, some b => (A5 i off len es es' ag a b hi.isSome (mx.map (evX tm))).map (.val · s)
   | _, _ => none
  | _ => none) := Eq.trans rfl rfl
theorem Ug {tm : List AV} {s : ASt} {d : Nat} {x : X} : opA tm s (.gh d x) = (
  match evX tm x with
  | some (.ptr i o) => some (.val (.ptr i (o + d)) s)
  | some (.ip l o) => if o + d <= l.length then some (.val (.ip l (o + d)) s) else none
  | _ => none) := Eq.trans rfl rfl
theorem Vd {tm : List AV} {s : ASt} {es : Nat} {x : X} {ix : X} : opA tm s (.iw es x ix) = (
  match evX tm x, evX tm ix with
  | some (.sl l _), some (.v (.int _ n)) =>
   if 0 <= n /\ (l.all λ x => x.cells.length == es) then (l[n.toNat]?).map λ e => .val (.ip e.cells 0) s else none
  | some (.bs i off len es' _), some (.v (.int _ n)) =>
   if 0 <= n /\ n < len /\ es = es' then some (.val (.ptr i (off + n.toNat * es)) s) else none
  | _, _ => none) := Eq.trans rfl rfl
theorem Rx {tm : List AV} {s : ASt} {len : Nat} {es : Nat} {x : X} {ix : X} : opA tm s (.xe len es x ix) = (
  match evX tm x, evX tm ix with
  | some (.ptr i o), some (.v (.int _ n)) => if 0 <= n /\ n < len then some (.val (.ptr i (o + n.toNat * es)) s) else none
  | some (.ip l o), some (.v (.int _ n)) => if 0 <= n /\ n < len /\ o + n.toNat * es <= l.length then some (.val (.ip l (o + n.toNat * es)) s) else none
  | _, _ => none) := Eq.trans rfl rfl
theorem Z5 {tm : List AV} {s : ASt} {len : Nat} {es : Nat} {ag : Bool} {x : X} {ix : X} : opA tm s (.Ka len es ag x ix) = (
  match evX tm x, evX tm ix with
  | some (.agg l), some (.v (.int _ n)) => if 0 <= n /\ n < len then (v8 ag es (l.drop (n.toNat * es))).map (.val · s) else none
  | _, _ => none) := Eq.trans rfl rfl
theorem Y9 {tm : List AV} {s : ASt} {x : X} {ix : X} : opA tm s (.Iv x ix) = (
  match evX tm x, evX tm ix with
  | some (.v (.string b)), some (.v (.int _ n)) => if 0 <= n then (b.toList[n.toNat]?).map λ c => .val (.v (.int .u8 c.toNat)) s else none
  | _, _ => none) := Eq.trans rfl rfl
theorem Y0 {tm : List AV} {s : ASt} {z : AV} {ok : Bool} {st : KK} {m : X} {k : X} : opA tm s (.look z ok st m k) = (
  match evX tm m, evX tm k with
  | some (.mp i), some k =>
   if tn st k then
   match s.H[i]? with
   | some (.map es) =>
    if rn s.H st k es then
    match ml st k es with
    | some (some x) => some (.val (if ok then .tup [x, .bool true] else x) s)
    | some none => some (.val (if ok then .tup [z, .bool false] else z) s)
    | none => none
    else none
   | _ => none
   else none
  | _, _ => none) := Eq.trans rfl rfl
theorem Td {tm : List AV} {s : ASt} {st : KK} {m : X} {k : X} {x : X} : opA tm s (.qm st m k x) = (
  match evX tm m, evX tm k, evX tm x with
  | some (.mp i), some k, some x =>
   if tn st k then
   match s.H[i]? with
   | some (.map es) => if rn s.H st k es then (upA st k x es).map λ es => .val .undef { s with H := s.H.set i (.map es) } else none
   | _ => none
   else none
  | _, _, _ => none) := Eq.trans rfl rfl
theorem a5g {tm : List AV} {s : ASt} {x : X} {i : Nat} : opA tm s (.ext x i) = (
  match evX tm x with
  | some (.tup l) => (l[i]?).map (.val · s)
  | _ => none) := Eq.trans rfl rfl
theorem Yj {tm : List AV} {s : ASt} {t : TypeId} {ok : Bool} {z : AV} {x : X} : opA tm s (.Ve t ok z x) = (
  match evX tm x with
  | some (.iface u a) =>
   if u = t then some (.val (if ok then .tup [a, .bool true] else a) s)
   else if ok then some (.val (.tup [z, .bool false]) s) else none
  | some (.v .nilIface) => if ok then some (.val (.tup [z, .bool false]) s) else none
  | _ => none) := Eq.trans rfl rfl
theorem Zk {tm : List AV} {s : ASt} {f : X} {args : List X} : opA tm s (.call f args) = (
  match evX tm f, im (evX tm) args with
  | some (.fn g caps), some l => some (.call g (l ++ caps))
  | some (.bm g fs), some l => some (.call g (fs ++ l))
  | _, _ => none) := Eq.trans rfl rfl
theorem a38 {tm : List AV} {s : ASt} {es : Nat} {bs : Option Bool} {x : X} {y : X} : opA tm s (.app es bs x y) = (
  match evX tm x, (evX tm y).bind (Af s) with
  | some (.sl l t), some xs => (qw s es bs l t xs).map λ (a, s) => .val a s
  | some (.bs i off len es' ag), some xs => if bs.isSome then (Qh s es i off len es' ag xs).map λ (a, s) => .val a s else none
  | _, _ => none) := Eq.trans rfl rfl
def Zz (s : ASt) (es : Nat) (ag tl : Bool) (a : AV) : List AV -> Option OpR
 | [] => some (.val (.sl [] (su a)) s)
 | x :: l => if (x :: l).length <= 1073741824 /\ ((x :: l).all λ x => x.cells.length == es && x.cells.all gv) then (match tl with
  | true => some (.val (.sl (x :: l) (.tl s.T.length 0)) { s with T := s.T ++ [0] })
  | false => some (.val (.bs s.H.length 0 (x :: l).length es ag) { s with H := s.H ++ [.cells false (flat (x :: l))] })) else none
theorem Jz {s : ASt} {es : Nat} {ag tl : Bool} {a : AV} : Zz s es ag tl a [] = some (.val (.sl [] (su a)) s) := Eq.trans rfl rfl
theorem Gs {s : ASt} {es : Nat} {ag : Bool} {a x : AV} {l : List AV} : Zz s es ag false a (x :: l) = if (x :: l).length <= 1073741824 /\ ((x :: l).all λ x => x.cells.length == es && x.cells.all gv) then some (.val (.bs s.H.length 0 (x :: l).length es ag) { s with H := s.H ++ [.cells false (flat (x :: l))] }) else none := Eq.trans rfl rfl
theorem Ye {s : ASt} {es : Nat} {ag : Bool} {a : AV} {l : List AV} (hl : l ≠ []) (h1 : l.length <= 1073741824) (h2 : (l.all λ x => x.cells.length == es && x.cells.all gv) = true) : Zz s es ag false a l = some (.val (.bs s.H.length 0 l.length es ag) { s with H := s.H ++ [.cells false (flat l)] }) := by
 cases l with
 | nil => exact absurd rfl hl
 | cons x l => rw [Gs, if_pos ⟨h1, h2⟩]
theorem Uu {tm : List AV} {s : ASt} {es : Nat} {ag tl : Bool} {x : X} : opA tm s (.clone es ag tl x) = (evX tm x).bind λ a => (ko s a).bind (Zz s es ag tl a) := by
 rw [opA]
 cases evX tm x with
 | none => rfl
 | some a =>
  simp only [Option.bind_some, Option.getD_some]
  cases ko s a with
  | none => rfl
  | some l => cases l <;> rfl
theorem Zi {tm : List AV} {s : ASt} {x : X} : opA tm s (.n7 x) = (
  match evX tm x with
  | some (.sl l _) => some (.val (.int l.length) s)
  | some (.bs _ _ n _ _) => some (.val (.int n) s)
  | _ => none) := Eq.trans rfl rfl
theorem a0a {tm : List AV} {s : ASt} {x : X} : opA tm s (.Jh x) = (
  match evX tm x with
  | some (.bs i off _ es _) => if 0 < es then some (.val (.cp i off es) s) else none
  | _ => none) := Eq.trans rfl rfl
theorem a45 {tm : List AV} {s : ASt} {neg : Bool} {x : X} {y : X} : opA tm s (.eqp neg x y) = (
  match evX tm x, evX tm y with
  | some a, some b => (Mz a b).map λ r => .val (.bool (neg ^^ r)) s
  | _, _ => none) := Eq.trans rfl rfl
theorem Ue {H : List fp} {b : Bool} {k : AV} {es : List (AV × AV)} : rn H (.sc b) k es = true := rfl
theorem a1r {tm : List AV} {s : ASt} {x : X} : opA tm s (.G5 x) = (
  match evX tm x with
  | some (.v (.string b)) => some (.val (.int b.size) s)
  | _ => none) := Eq.trans rfl rfl
theorem a2z {tm : List AV} {s : ASt} {x : X} {y : X} : opA tm s (.max x y) = (
  match evX tm x, evX tm y with
  | some (.v (.int k a)), some (.v (.int _ b)) => some (.val (.v (.int k (if b > a then b else a))) s)
  | _, _ => none) := Eq.trans rfl rfl
theorem a4t {tm : List AV} {s : ASt} {x : X} {y : X} : opA tm s (.min x y) = (
  match evX tm x, evX tm y with
  | some (.v (.int k a)), some (.v (.int _ b)) => some (.val (.v (.int k (if b < a then b else a))) s)
  | _, _ => none) := Eq.trans rfl rfl
theorem V9 {tm : List AV} {s : ASt}  : opA tm s (.tu) = (some .tu) := Eq.trans rfl rfl
theorem a33 {tm : List AV} {s : ASt} {f : X} {args : List X} : opA tm s (.dfr f args) = (
  match evX tm f, im (evX tm) args with
  | some (.fn g caps), some l => some (.dfr g (l ++ caps))
  | _, _ => none) := Eq.trans rfl rfl
theorem Wc {tm : List AV} {s : ASt} {x : X} : opA tm s (.panic x) = (
  match evX tm x with
  | some (.iface t a) => some (.panic (.iface t a))
  | _ => none) := Eq.trans rfl rfl
theorem a6o {nt d : Nat} {e : Env} {v : AV} : put (tmE nt e) (some d) v = tmE nt (J2 e d v) := by
 apply List.ext_getElem?
 intro n
 simp only [put, tmE, b9, de, List.length_range, bh, J2]
 by_cases h : d = n
 ·subst h
  by_cases h2 : d < nt <;> simp [h2, J2]
 ·simp only [h, if_false]
  cases hr : (List.range nt)[n]? with
  | none => rfl
  | some m =>
   have hm : m = n := by
    rw [List.getElem?_eq_some_iff] at hr
    obtain ⟨h1, h2⟩ := hr
    simpa using h2.symm
   subst hm
   simp [J2, Ne.symm h]
theorem a6n {tm : List AV} {v : AV} : put tm none v = tm := rfl
theorem a04 {e : Env} {d : Nat} {v : AV} : J2 e d v d = v := by simp [J2]
theorem a0i {e : Env} {d n : Nat} {v : AV} (h : n ≠ d) : J2 e d v n = e n := by simp [J2, h]
theorem E4 (l : List AV) (nt : Nat) (h : l.length <= nt) : l ++ List.replicate (nt - l.length) .undef = tmE nt (tw l) := by
 apply List.ext_getElem?
 intro n
 simp only [tmE, tw, bh]
 by_cases hn : n < nt
 ·rw [dc hn]
  simp only [ff]
  by_cases h1 : n < l.length
  ·rw [ae h1]; simp [h1, tw]
  ·rw [af (by omega), List.getElem?_replicate]
   simp [h1, show n - l.length < nt - l.length by omega, tw]
 ·rw [cz (by simp; omega), cz (by simp; omega)]; rfl
theorem tf {l : List AV} : (AV.agg l).cells = l := rfl
theorem Rl {l : List AV} : (AV.agg l).known = true := rfl
theorem Ol {x : Value} : (AV.v x).cells = [.v x] := rfl
theorem a0h {x : Value} : (AV.v x).known = true := rfl
theorem I5 {x : Value} : gv (AV.v x) = true := rfl
theorem Wo {l : List AV} {o : Nat} : (AV.ip l o).cells = [.ip l o] := rfl
theorem Vy {l : List AV} {o : Nat} : (AV.ip l o).known = true := rfl
theorem a0n {l : List AV} {o : Nat} : gv (AV.ip l o) = true := rfl
theorem Rn {i o : Nat} : (AV.ptr i o).cells = [.ptr i o] := rfl
theorem R6 {i o : Nat} : (AV.ptr i o).known = true := rfl
theorem Wb {i o : Nat} : gv (AV.ptr i o) = true := rfl
theorem Wl {l : List AV} {t : Tl} : (AV.sl l t).cells = [.sl l t] := rfl
theorem U0 {l : List AV} {t : Tl} : (AV.sl l t).known = true := rfl
theorem Oc {l : List AV} {t : Tl} : gv (AV.sl l t) = true := rfl
theorem Vs {i o n es : Nat} {ag : Bool} : (AV.bs i o n es ag).cells = [.bs i o n es ag] := rfl
theorem Sr {i o n es : Nat} {ag : Bool} : (AV.bs i o n es ag).known = true := rfl
theorem a1t {i o n es : Nat} {ag : Bool} : gv (AV.bs i o n es ag) = true := rfl
theorem T3 {i : Nat} : (AV.mp i).cells = [.mp i] := rfl
theorem Vh {i : Nat} : (AV.mp i).known = true := rfl
theorem a19 {i : Nat} : gv (AV.mp i) = true := rfl
theorem Tz {f : FuncId} {l : List AV} : (AV.fn f l).cells = [.fn f l] := rfl
theorem Va {i o es : Nat} : (AV.cp i o es).cells = [.cp i o es] := rfl
theorem Vf {i o es : Nat} : (AV.cp i o es).known = true := rfl
theorem a05 {i o es : Nat} : gv (AV.cp i o es) = true := rfl
theorem Wk {f : FuncId} {l : List AV} : (AV.bm f l).cells = [.bm f l] := rfl
theorem Vt {f : FuncId} {l : List AV} : (AV.fn f l).known = true := rfl
theorem Ta {f : FuncId} {l : List AV} : (AV.bm f l).known = true := rfl
theorem Y8 {f : FuncId} {l : List AV} : gv (AV.fn f l) = true := rfl
theorem Yo {f : FuncId} {l : List AV} : gv (AV.bm f l) = true := rfl
theorem Lr {t : TypeId} {x : AV} : (AV.iface t x).cells = [.iface t x] := rfl
theorem Kj {t : TypeId} {x : AV} : (AV.iface t x).known = true := rfl
theorem O3 {t : TypeId} {x : AV} : gv (AV.iface t x) = true := rfl
theorem ku {x : Value} : ia (.v x) = true := Eq.trans rfl rfl
theorem lk {l : List AV} {t : Tl} : ia (.sl l t) = (t.pure && ga l) := by rw [ia]
theorem m5 {l : List AV} : ia (.agg l) = ga l := by rw [ia]
theorem Hz {l : List AV} : ia (.tup l) = ga l := by rw [ia]
theorem Bp {t : TypeId} {x : AV} : ia (.iface t x) = ia x := by rw [ia]
theorem yf {f : FuncId} {l : List AV} : ia (.fn f l) = ga l := by rw [ia]
theorem a7a {f : FuncId} {l : List AV} : ia (.bm f l) = ga l := by rw [ia]
theorem Pn {l : List AV} {o : Nat} : ia (.ip l o) = ga l := by rw [ia]
theorem gg : ga [] = true := by rw [ga]
theorem ft {x : AV} {l : List AV} : ga (x :: l) = (ia x && ga l) := by rw [ga]
theorem a3i : Tl.pure .nil = true := Eq.trans rfl rfl
theorem a1o : Tl.pure .none = true := Eq.trans rfl rfl
theorem a5z {n : Nat} : Tl.pure (.cap n) = true := Eq.trans rfl rfl
section
variable {c : gu} {md : FuncId -> Md} {pfs : FuncId -> Option PF}
def Fx1 {α : Sort _} (_ : α) : Type := Unit
def Fx2 {α β : Sort _} (_ : α) (_ : β) : Type := Unit
def Fx4 {α β γ δ : Sort _} (_ : α) (_ : β) (_ : γ) (_ : δ) : Type := Unit
def OW (o : Option OpR) (K : AV -> ASt -> Prop) (KC : FuncId -> List AV -> Prop) (KP : AV -> Prop) (KD : FuncId -> List AV -> Prop) (_ : Fx4 K KC KP KD) : Prop :=
 match o with
 | some (.val v s) => K v s
 | some (.call f l) => KC f l
 | some (.panic v) => KP v
 | some (.dfr f l) => KD f l
 | _ => False
def GW (o : Option Bool) (A B : Prop) (_ : Fx2 A B) : Prop :=
 match o with
 | some b => (b = false -> A) /\ (b = true -> B)
 | none => False
def IW (o : Option AV) (A B : Prop) (_ : Fx2 A B) : Prop :=
 match o with
 | some (.v (.bool t)) => (t = true -> A) /\ (t = false -> B)
 | _ => False
def CW (c : gu) (md : FuncId -> Md) (pm : Bool) (s : ASt) (f : FuncId) (args : List AV) (K KP : AV -> ASt -> Prop) (_ : Fx2 K KP) : Prop :=
 match ln c md pm s f args with
 | some (.ret v, s) => K v s
 | some (.pan v, s) => KP v s
 | none => False
def EW (o : Option (fu × St)) (Q : fu -> St -> Prop) (_ : Fx1 Q) : Prop :=
 match o with
 | some (r, st) => Q r st
 | none => False
def W (c : gu) (md : FuncId -> Md) (b : PC) (st : St) (Q : fu -> St -> Prop) (_ : Fx1 Q) : Prop := EW (ij c md (oj c md) b st) Q ()
def WS (c : gu) (md : FuncId -> Md) (l : List PI) (st : St) (Q : fu -> St -> Prop) (_ : Fx1 Q) : Prop := EW (js c md l st) Q ()
def LQ (J : St -> Prop) (Q : fu -> St -> Prop) : fu -> St -> Prop
 | .normal, st => J st
 | .exit n, st => Q (.exit n) st
 | .ret, st => Q .ret st
 | .pan v, st => Q (.pan v) st
def BQ (n : Nat) (Q : fu -> St -> Prop) : fu -> St -> Prop
 | .exit i, st => if i = n then Q .normal st else Q (.exit i) st
 | .normal, st => Q .normal st
 | .ret, st => Q .ret st
 | .pan v, st => Q (.pan v) st
variable {st : St} {Q : fu -> St -> Prop} {J : St -> Prop} {K : AV -> ASt -> Prop} {KC : FuncId -> List AV -> Prop} {KP : AV -> Prop} {KD : FuncId -> List AV -> Prop}
@[congr] theorem OW_congr {o o' : Option OpR} (h : True -> o = o') : OW o K KC KP KD () = OW o' K KC KP KD () := by rw [h trivial]
@[congr] theorem GW_congr {o o' : Option Bool} {A B : Prop} (h : True -> o = o') : GW o A B () = GW o' A B () := by rw [h trivial]
@[congr] theorem IW_congr {o o' : Option AV} {A B : Prop} (h : True -> o = o') : IW o A B () = IW o' A B () := by rw [h trivial]
@[congr] theorem CW_congr {pm : Bool} {s s' : ASt} {f f' : FuncId} {args args' : List AV} {K KP : AV -> ASt -> Prop} (h1 : True -> s = s') (h2 : True -> f = f') (h3 : True -> args = args') : CW c md pm s f args K KP () = CW c md pm s' f' args' K KP () := by rw [h1 trivial, h2 trivial, h3 trivial]
@[congr] theorem EW_congr {o o' : Option (fu × St)} (h : True -> o = o') : EW o Q () = EW o' Q () := by rw [h trivial]
@[congr] theorem W_congr {b : PC} {st' : St} (h : True -> st = st') : W c md b st Q () = W c md b st' Q () := by rw [h trivial]
@[congr] theorem WS_congr {l : List PI} {st' : St} (h : True -> st = st') : WS c md l st Q () = WS c md l st' Q () := by rw [h trivial]
@[congr] theorem LQ_congr {r r' : fu} {st' : St} (h : True -> r = r') (h2 : True -> st = st') : LQ J Q r st = LQ J Q r' st' := by rw [h trivial, h2 trivial]
@[congr] theorem BQ_congr {n : Nat} {r r' : fu} {st' : St} (h : True -> r = r') (h2 : True -> st = st') : BQ n Q r st = BQ n Q r' st' := by rw [h trivial, h2 trivial]
theorem a7t : LQ J Q .normal st = J st := rfl
theorem a8k : LQ J Q .ret st = Q .ret st := rfl
theorem a7s {n : Nat} : LQ J Q (.exit n) st = Q (.exit n) st := rfl
theorem a8m {v : AV} : LQ J Q (.pan v) st = Q (.pan v) st := rfl
theorem a7z {n : Nat} : BQ n Q .normal st = Q .normal st := rfl
theorem a8d {n : Nat} : BQ n Q .ret st = Q .ret st := rfl
theorem a82 {n : Nat} : BQ n Q (.exit n) st = Q .normal st := by simp [BQ]
theorem a88 {n : Nat} {v : AV} : BQ n Q (.pan v) st = Q (.pan v) st := rfl
theorem a3l {v : AV} {s : ASt} : OW (some (.val v s)) K KC KP KD () = K v s := rfl
theorem Za {f : FuncId} {l : List AV} : OW (some (.call f l)) K KC KP KD () = KC f l := rfl
theorem Ua {v : AV} : OW (some (.panic v)) K KC KP KD () = KP v := rfl
theorem a2x {f : FuncId} {l : List AV} : OW (some (.dfr f l)) K KC KP KD () = KD f l := rfl
theorem a32 {p : Prop} [Decidable p] {o : Option OpR} : OW (if p then o else none) K KC KP KD () = (p /\ OW o K KC KP KD ()) := by
 by_cases h : p <;> simp [h, OW]
theorem a6f {α : Type} {o : Option α} {g : α -> OpR} : OW (o.map g) K KC KP KD () = ∃ x, o = some x /\ OW (some (g x)) K KC KP KD () := by
 cases o <;> simp [OW]
theorem a0l {α : Type} {o : Option α} {g : α -> Option OpR} : OW (o.bind g) K KC KP KD () = ∃ x, o = some x /\ OW (g x) K KC KP KD () := by
 cases o <;> simp [OW]
theorem Qp {A B : Prop} : GW (some true) A B () = B := by simp [GW]
theorem a73 {A B : Prop} : GW (some false) A B () = A := by simp [GW]
theorem Vc {tm : List AV} : ic tm none = some true := by rw [ic]
theorem Aw {nt t : Nat} {e : Env} {w b : Bool} (h : t < nt) (h2 : e t = .v (.bool b)) : ic (tmE nt e) (some (t, w)) = some (b == w) := by simp only [ic, Du h, h2]
theorem Sy {nt t : Nat} {e : Env} {w : Bool} (h : t < nt) (h2 : e t = .tup []) : ic (tmE nt e) (some (t, w)) = some false := by simp only [ic, Du h, h2]
theorem a43 : W c md .skip st Q () = Q .normal st := rfl
theorem a5v {n : Nat} : W c md (.exit n) st Q () = Q (.exit n) st := rfl
theorem a7j : W c md .ret st Q () = Q .ret st := rfl
theorem a6r {l : List PI} : W c md (.reg l) st Q () = WS c md l st Q () := rfl
theorem a2l {a b : PC} : W c md (.seq a b) st Q () = W c md a st (LQ (λ st' => W c md b st' Q ()) Q) () := by
 unfold W
 rw [ij]
 cases ij c md (oj c md) a st with
 | none => rfl
 | some x =>
  obtain ⟨r, st'⟩ := x
  cases r <;> rfl
theorem Dx {n : Nat} {a : PC} : W c md (.block n a) st Q () = W c md a st (BQ n Q) () := by
 unfold W
 rw [ij]
 cases ij c md (oj c md) a st with
 | none => rfl
 | some x =>
  obtain ⟨r, st'⟩ := x
  cases r with
  | exit i =>
   simp only [EW, BQ]
   by_cases h : i = n <;> simp [h]
  | _ => rfl
theorem a84 {x : X} {a b : PC} : W c md (.cond x a b) st Q () = IW (evX st.tm x) (W c md a st Q ()) (W c md b st Q ()) () := by
 unfold W
 rw [ij]
 cases h : evX st.tm x with
 | none => rfl
 | some v =>
  cases v with
  | v x =>
   cases x with
   | bool t => cases t <;> simp [IW]
   | _ => rfl
  | _ => rfl
theorem a8b {A B : Prop} : IW (some (.v (.bool true))) A B () = A := by simp [IW]
theorem a86 {A B : Prop} : IW (some (.v (.bool false))) A B () = B := by simp [IW]
theorem a5x : WS c md [] st Q () = Q .normal st := rfl
theorem Yn {i : PI} {l : List PI} {tm : List AV} {df : List (FuncId × List AV)} {s : ASt} : WS c md (i :: l) ⟨tm, df, s⟩ Q () =
  GW (ic tm i.g) (WS c md l ⟨put tm i.dst .undef, df, s⟩ Q ())
   (OW (opA tm s i.op) (λ v s => WS c md l ⟨put tm i.dst v, df, s⟩ Q ())
    (λ f args => CW c md false s f args (λ v s => WS c md l ⟨put tm i.dst v, df, s⟩ Q ()) (λ v s => Q (.pan v) ⟨tm, df, s⟩) ())
    (λ v => Q (.pan v) ⟨tm, df, s⟩)
    (λ f args => WS c md l ⟨put tm i.dst .undef, (f, args) :: df, s⟩ Q ()) ()) () := by
 unfold WS
 rw [js, ik]
 cases ic tm i.g with
 | none => rfl
 | some b =>
  cases b with
  | false => simp [GW]
  | true =>
   simp only [Qp]
   cases opA tm s i.op with
   | none => rfl
   | some o =>
    cases o with
    | call f args =>
     simp only [OW, CW]
     cases ln c md false s f args with
     | none => rfl
     | some x =>
      obtain ⟨r, s'⟩ := x
      cases r <;> rfl
    | _ => rfl
def HW (o : Option (St × Option (AV × ASt))) (K : St -> Prop) (KP : AV -> ASt -> Prop) (_ : Fx2 K KP) : Prop :=
 match o with
 | some (st', none) => K st'
 | some (_, some (v, s)) => KP v s
 | none => False
variable {L : St -> Prop} {LP : AV -> ASt -> Prop} {hd : List PI} {i : PI} {l : List PI} {tm : List AV} {df : List (FuncId × List AV)} {s s0 : ASt} {k : Nat} {v0 : AV}
@[congr] theorem HW_congr {o o' : Option (St × Option (AV × ASt))} (h : True -> o = o') : HW o L LP () = HW o' L LP () := by rw [h trivial]
@[congr] theorem headA_congr {p : Option (Nat × AV × ASt)} {st' : St} (h : True -> st = st') : jl c md hd l st p = jl c md hd l st' p := by rw [h trivial]
theorem a5n : HW (jl c md hd [] st none) L LP () = L st := rfl
theorem Uf : HW (jl c md hd [] st (some (k, v0, s0))) L LP () = LP v0 s0 := rfl
theorem Y2 : HW (jl c md hd (i :: l) ⟨tm, df, s⟩ none) L LP () =
  GW (ic tm i.g) (HW (jl c md hd l ⟨put tm i.dst .undef, df, s⟩ none) L LP ())
   (OW (opA tm s i.op) (λ v s' => HW (jl c md hd l ⟨put tm i.dst v, df, s'⟩ none) L LP ())
    (λ f args => CW c md true s f args (λ v s' => HW (jl c md hd l ⟨put tm i.dst v, df, s'⟩ none) L LP ()) (λ v _ => D4 hd i = true /\ HW (jl c md hd l ⟨tm, df, s⟩ (some (i.ix, v, s))) L LP ()) ())
    (λ v => D4 hd i = true /\ HW (jl c md hd l ⟨tm, df, s⟩ (some (i.ix, v, s))) L LP ())
    (λ f args => HW (jl c md hd l ⟨put tm i.dst .undef, (f, args) :: df, s⟩ none) L LP ()) ()) () := by
 rw [jl, ik]
 cases ic tm i.g with
 | none => rfl
 | some b =>
  cases b with
  | false => simp [GW]
  | true =>
   simp only [Qp]
   cases opA tm s i.op with
   | none => rfl
   | some o =>
    cases o with
    | call f args =>
     simp only [OW, CW]
     cases ln c md true s f args with
     | none => rfl
     | some x =>
      obtain ⟨r, s'⟩ := x
      cases r with
      | ret v => rfl
      | pan v =>
       simp only
       by_cases h : D4 hd i = true <;> simp [h, HW]
    | panic v =>
     simp only [OW]
     by_cases h : D4 hd i = true <;> simp [h, HW]
    | _ => rfl
theorem a26 {i : PI} {ns : List Nat} : W c md (.jm (9000000 :: ns) (i :: l)) st Q () = WS c md [i] st (LQ (λ st1 => W c md (.jm ns l) st1 (LQ (λ st2 => Q .normal st2) (λ _ _ => False)) ()) (λ _ _ => False)) () := by
 unfold W WS
 rw [ij, Xg]
 simp only [js]
 cases ik c md false i st with
 | none => rfl
 | some x =>
  obtain ⟨ex, st1⟩ := x
  cases ex with
  | normal =>
   simp only [W, ij]
   show EW _ Q () = EW (m7 c md ns l st1) (LQ (λ st2 => Q .normal st2) (λ _ _ => False)) ()
   cases m7 c md ns l st1 with
   | none => rfl
   | some y =>
    obtain ⟨ex2, st2⟩ := y
    cases ex2 <;> rfl
  | _ => rfl
theorem Nb : W c md (.jm [] l) st Q () = WS c md l st Q () := rfl
def PW (o : Option St) (K : St -> Prop) (_ : Fx1 K) : Prop :=
 match o with
 | some st => K st
 | none => False
@[congr] theorem PW_congr {o o' : Option St} (h : True -> o = o') : PW o L () = PW o' L () := by rw [h trivial]
@[congr] theorem runP_congr {st' : St} (h : True -> st = st') : qg c md l st = qg c md l st' := by rw [h trivial]
theorem a4z : PW (qg c md [] st) L () = L st := rfl
theorem Y4 : PW (qg c md (i :: l) ⟨tm, df, s⟩) L () =
  GW (ic tm i.g) (PW (qg c md l ⟨put tm i.dst .undef, df, s⟩) L ())
   (OW (opA tm s i.op) (λ v s' => PW (qg c md l ⟨put tm i.dst v, df, s'⟩) L ())
    (λ f args => CW c md true s f args (λ v s' => PW (qg c md l ⟨put tm i.dst v, df, s'⟩) L ()) (λ _ _ => False) ())
    (λ _ => False)
    (λ f args => PW (qg c md l ⟨put tm i.dst .undef, (f, args) :: df, s⟩) L ()) ()) () := by
 rw [qg, ik]
 cases ic tm i.g with
 | none => rfl
 | some b =>
  cases b with
  | false => simp [GW]
  | true =>
   simp only [Qp]
   cases opA tm s i.op with
   | none => rfl
   | some o =>
    cases o with
    | call f args =>
     simp only [OW, CW]
     cases ln c md true s f args with
     | none => rfl
     | some x =>
      obtain ⟨r, s'⟩ := x
      cases r <;> rfl
    | _ => rfl
def CK (i : PI) (tm : List AV) (s s' : ASt) : List PI -> Prop
 | [] => True
 | j :: l => (i.pre.contains j.ix || j.op.kd == .S || m9 tm s s' j.op) = true /\ CK i tm s s' l
theorem Mt {i : PI} {s' : ASt} : CK i tm s s' l = ((l.all λ j => i.pre.contains j.ix || j.op.kd == .S || m9 tm s s' j.op) = true) := by
 induction l with
 | nil => simp [CK]
 | cons j l ih => rw [CK, ih]; simp only [da, dw]
def JW (t : Bool) (A : Prop) : Prop := t = true \/ A
theorem a6u {A : Prop} : JW true A = True := by simp [JW]
theorem a7l {A : Prop} : JW false A = A := by simp [JW]
theorem a4x {s' : ASt} : CK i tm s s' [] = True := rfl
@[congr] theorem JW_congr {t t' : Bool} {A : Prop} (h : True -> t = t') : JW t A = JW t' A := by rw [h trivial]
theorem Yg {j : PI} {s' : ASt} : CK i tm s s' (j :: l) = (JW (j.op.kd == .S) (JW (i.pre.contains j.ix) (OW (opA tm s j.op) (λ v _ => OW (opA tm s' j.op) (λ v' _ => l6 v v' = true) (λ _ _ => False) (λ _ => False) (λ _ _ => False) ()) (λ _ _ => False) (λ _ => False) (λ _ _ => False) ())) /\ CK i tm s s' l) := by
 rw [CK]
 unfold JW
 cases hc : (i.pre.contains j.ix) with
 | true => simp
 | false =>
  cases hk : (j.op.kd == .S) with
  | true => simp
  | false =>
   simp only [Bool.false_or, dx, false_or]
   congr 1
   unfold m9
   cases opA tm s j.op with
   | none => simp [OW]
   | some r =>
    cases r with
    | val v z =>
     simp only [OW]
     cases opA tm s' j.op with
     | none => simp
     | some r' => cases r' <;> simp
    | _ => simp [OW]
theorem a4e (x : X) : ((PO.mov x).kd == .S) = true := Eq.trans rfl rfl
theorem Zd (c a b : X) : ((PO.pick c a b).kd == .S) = true := Eq.trans rfl rfl
theorem Xk (z : List AV) (ps : List (Nat × Nat × X)) : ((PO.build z ps).kd == .S) = true := Eq.trans rfl rfl
theorem a4o (z : AV) (n : Nat) (ps : List (Nat × Nat × X)) : ((PO.bsl z n ps).kd == .S) = true := Eq.trans rfl rfl
theorem X3 (x : X) : ((PO.iy x).kd == .S) = true := Eq.trans rfl rfl
theorem a3z (o : BinOp) (x y : X) : ((PO.bin o x y).kd == .S) = true := Eq.trans rfl rfl
theorem a6e (n : Bool) (x y : X) : ((PO.eqb n x y).kd == .S) = true := Eq.trans rfl rfl
theorem a4q (n : Bool) (x y : X) : ((PO.eqi n x y).kd == .S) = true := Eq.trans rfl rfl
theorem a6b (n : Bool) (x y : X) : ((PO.eqs n x y).kd == .S) = true := Eq.trans rfl rfl
theorem a47 (n : Bool) (x y : X) : ((PO.eqp n x y).kd == .S) = true := Eq.trans rfl rfl
theorem a0x (x : X) : ((PO.Jh x).kd == .S) = true := Eq.trans rfl rfl
theorem a71 (o : UnOp) (x : X) : ((PO.un o x).kd == .S) = true := Eq.trans rfl rfl
theorem a1e (k : IntKind) (x : X) : ((PO.conv k x).kd == .S) = true := Eq.trans rfl rfl
theorem a1y (t : TypeId) (x : X) : ((PO.K0 t x).kd == .S) = true := Eq.trans rfl rfl
theorem T5 (n : Nat) (x : X) : ((PO.gh n x).kd == .S) = true := Eq.trans rfl rfl
theorem T4 (n : Nat) (x y : X) : ((PO.iw n x y).kd == .S) = true := Eq.trans rfl rfl
theorem Yh (x : X) : ((PO.n7 x).kd == .S) = true := Eq.trans rfl rfl
theorem Zh (x : X) : ((PO.G5 x).kd == .S) = true := Eq.trans rfl rfl
theorem a5p (x : X) (n : Nat) : ((PO.ext x n).kd == .S) = true := Eq.trans rfl rfl
theorem Tv (n : Nat) (x : X) (lo hi mx : Option X) : ((PO.slice n x lo hi mx).kd == .S) = true := Eq.trans rfl rfl
theorem Yb (a : Bool) (n : Nat) (x : X) : ((PO.load a n x).kd == .S) = false := Eq.trans rfl rfl
def KQ (i : PI) (l : List PI) (tm : List AV) (s : ASt) (J : St -> Prop) (JP : AV -> ASt -> Prop) : fu -> St -> Prop
 | .normal, st2 => CK i tm s st2.s l /\ J st2
 | .pan v, st2 => JP v st2.s
 | _, _ => False
@[congr] theorem KQ_congr {J : St -> Prop} {JP : AV -> ASt -> Prop} {r r' : fu} {st' : St} (h : True -> r = r') (h2 : True -> st = st') : KQ i l tm s J JP r st = KQ i l tm s J JP r' st' := by rw [h trivial, h2 trivial]
theorem a8c {J : St -> Prop} {JP : AV -> ASt -> Prop} {tm' : List AV} {s' : ASt} : KQ i l tm s J JP .normal ⟨tm', df, s'⟩ = (CK i tm s s' l /\ J ⟨tm', df, s'⟩) := rfl
theorem a80 {J : St -> Prop} {JP : AV -> ASt -> Prop} {tm' : List AV} {s' : ASt} {v : AV} : KQ i l tm s J JP (.pan v) ⟨tm', df, s'⟩ = JP v s' := rfl
theorem Kh {n : Nat} {ns : List Nat} (hn : n < 1000) (hl : l.drop n = []) : W c md (.jm (n :: ns) l) st Q () =
  HW (jl c md (l.take n) (l.take n) st none) (λ st' => Q .normal st') (λ v s => Q (.pan v) { st with tm := km (l.take n) st.tm, s }) () := by
 unfold W
 rw [ij, Bz (by omega), if_pos hn, Nat.mod_eq_of_lt hn, hl]
 cases jl c md (l.take n) (l.take n) st none with
 | none => rfl
 | some x =>
  obtain ⟨st', p⟩ := x
  cases p <;> rfl
theorem L9 {n : Nat} {ns : List Nat} {b : PI} {l' : List PI} (hn : n < 1000) (hl : l.drop n = b :: l') : W c md (.jm (n :: ns) l) st Q () =
  HW (jl c md (l.take n) (l.take n) st none) (λ st' => WS c md [b] st' (LQ (λ st2 => W c md (.jm ns l') st2 Q ()) Q) ()) (λ v s => Q (.pan v) { st with tm := km (l.take n) st.tm, s }) () := by
 unfold W
 rw [ij, Bz (by omega), if_pos hn, Nat.mod_eq_of_lt hn, hl]
 cases jl c md (l.take n) (l.take n) st none with
 | none => rfl
 | some x =>
  obtain ⟨st', p⟩ := x
  cases p with
  | some p => rfl
  | none =>
   simp only [HW, WS, js]
   cases ik c md false b st' with
   | none => rfl
   | some y =>
    obtain ⟨r, st2⟩ := y
    cases r <;> rfl
def DW (c : gu) (md : FuncId -> Md) (ns : List Nat) (l : List PI) (st : St) (Q : fu -> St -> Prop) (_ : Fx1 Q) : Prop :=
 match l with
 | [] => Q .normal st
 | b :: l' => WS c md [b] st (LQ (λ st2 => W c md (.jm ns l') st2 Q ()) Q) ()
theorem a5e {ns : List Nat} : DW c md ns [] st Q () = Q .normal st := Eq.trans rfl rfl
theorem a1w {ns : List Nat} {b : PI} {l' : List PI} : DW c md ns (b :: l') st Q () = WS c md [b] st (LQ (λ st2 => W c md (.jm ns l') st2 Q ()) Q) () := Eq.trans rfl rfl
theorem a4u {n : Nat} {ns : List Nat} (hn : n < 1000) : W c md (.jm (n :: ns) l) st Q () =
  HW (jl c md (l.take n) (l.take n) st none) (λ st' => DW c md ns (l.drop n) st' Q ()) (λ v s => Q (.pan v) { st with tm := km (l.take n) st.tm, s }) () := by
 cases hl : l.drop n with
 | nil => rw [Kh hn hl]; rfl
 | cons b l' => rw [L9 hn hl]; rfl
def QW (c : gu) (md : FuncId -> Md) (l1 l2 : List PI) (ns : List Nat) (lr la : List PI) (st0 st1 : St) (Q : fu -> St -> Prop) (_ : Fx1 Q) : Prop :=
 match l2 with
 | [] => False
 | i :: l' => WS c md [i] st1 (KQ i l1 st1.tm st1.s (λ st2 => PW (qg c md l' st2) (λ st3 => DW c md ns lr st3 Q ()) ()) (λ v s => Q (.pan v) { st0 with tm := km la st0.tm, s })) ()
theorem Xu {l1 l' lr la : List PI} {ns : List Nat} {st0 : St} : QW c md l1 (i :: l') ns lr la st0 ⟨tm, df, s⟩ Q () =
  WS c md [i] ⟨tm, df, s⟩ (KQ i l1 tm s (λ st2 => PW (qg c md l' st2) (λ st3 => DW c md ns lr st3 Q ()) ()) (λ v s => Q (.pan v) { st0 with tm := km la st0.tm, s })) () := Eq.trans rfl rfl
theorem a0p {n : Nat} {ns : List Nat} (hn : 1000 <= n) (hn2 : n < 1001000) : W c md (.jm (n :: ns) l) st Q () =
  PW (qg c md ((l.take (n % 1000)).take (n / 1000 - 1)) st) (λ st1 => QW c md ((l.take (n % 1000)).take (n / 1000 - 1)) ((l.take (n % 1000)).drop (n / 1000 - 1)) ns (l.drop (n % 1000)) (l.take (n % 1000)) st st1 Q ()) () := by
 unfold W
 rw [ij, Bz (by omega), if_neg (by omega)]
 rw [nj, if_pos (by omega)]
 generalize l.take (n % 1000) = l1
 generalize l.drop (n % 1000) = lr
 unfold Ae
 cases qg c md (l1.take (n / 1000 - 1)) st with
 | none => rfl
 | some st1 =>
  simp only [PW]
  cases l1.drop (n / 1000 - 1) with
  | nil => rfl
  | cons i l' =>
   simp only [QW, WS, js]
   cases ik c md false i st1 with
   | none => rfl
   | some y =>
    obtain ⟨r, st2⟩ := y
    cases r with
    | normal =>
     by_cases h : ((l1.take (n / 1000 - 1)).all λ j => i.pre.contains j.ix || j.op.kd == .S || m9 st1.tm st1.s st2.s j.op) = true
     ·have hk : ∀ {J : St -> Prop} {JP : AV -> ASt -> Prop}, KQ i (l1.take (n / 1000 - 1)) st1.tm st1.s J JP .normal st2 = J st2 := by
       intro J JP
       rw [KQ, Mt, eq_true h, true_and]
      simp only [EW, h, if_true]
      rw [hk]
      cases qg c md l' st2 with
      | none => rfl
      | some st3 =>
       simp only [ff]
       cases lr with
       | nil => rfl
       | cons b l2 =>
        simp only [DW, WS, js, PW]
        cases ik c md false b st3 with
        | none => rfl
        | some y => obtain ⟨r, st4⟩ := y; cases r <;> rfl
     ·have hk : ∀ {J : St -> Prop} {JP : AV -> ASt -> Prop}, KQ i (l1.take (n / 1000 - 1)) st1.tm st1.s J JP .normal st2 = False := by
       intro J JP
       rw [KQ, Mt, eq_false h, false_and]
      simp only [EW, h]
      rw [hk]
      rfl
    | pan v => rfl
    | _ => rfl
def M1 (b : Bool) (A B : Prop) (_ : Fx2 A B) : Prop := if b = true then A else B
@[congr] theorem M1_congr {b b' : Bool} {A B : Prop} (h : True -> b = b') : M1 b A B () = M1 b' A B () := by rw [h trivial]
theorem a4i {A B : Prop} : M1 true A B () = A := by simp [M1]
theorem a3p {A B : Prop} : M1 false A B () = B := by simp [M1]
def M3 (o : Option (AV × fp)) (K : AV -> fp -> Prop) (_ : Fx1 K) : Prop :=
 match o with
 | some (v, ob) => K v ob
 | none => False
@[congr] theorem M3_congr {o o' : Option (AV × fp)} {K : AV -> fp -> Prop} (h : True -> o = o') : M3 o K () = M3 o' K () := by rw [h trivial]
theorem a0z {v : AV} {ob : fp} {K : AV -> fp -> Prop} : M3 (some (v, ob)) K () = K v ob := Eq.trans rfl rfl
theorem T9 (l : List AV) : ((PO.alloc l).kd == .S) = false := Eq.trans rfl rfl
theorem a63 (x : X) : (PO.mov x).il = true := Eq.trans rfl rfl
theorem Yp (c a b : X) : (PO.pick c a b).il = true := Eq.trans rfl rfl
theorem To (z : List AV) (ps : List (Nat × Nat × X)) : (PO.build z ps).il = true := Eq.trans rfl rfl
theorem a6l (z : AV) (n : Nat) (ps : List (Nat × Nat × X)) : (PO.bsl z n ps).il = true := Eq.trans rfl rfl
theorem Wi (x : X) : (PO.iy x).il = true := Eq.trans rfl rfl
theorem a48 (o : BinOp) (x y : X) : (PO.bin o x y).il = true := Eq.trans rfl rfl
theorem a4c (n : Bool) (x y : X) : (PO.eqb n x y).il = true := Eq.trans rfl rfl
theorem a67 (n : Bool) (x y : X) : (PO.eqi n x y).il = true := Eq.trans rfl rfl
theorem a3c (n : Bool) (x y : X) : (PO.eqs n x y).il = true := Eq.trans rfl rfl
theorem a4s (n : Bool) (x y : X) : (PO.eqp n x y).il = true := Eq.trans rfl rfl
theorem Zl (x : X) : (PO.Jh x).il = true := Eq.trans rfl rfl
theorem a6z (o : UnOp) (x : X) : (PO.un o x).il = true := Eq.trans rfl rfl
theorem a0e (k : IntKind) (x : X) : (PO.conv k x).il = true := Eq.trans rfl rfl
theorem a0u (t : TypeId) (x : X) : (PO.K0 t x).il = true := Eq.trans rfl rfl
theorem a1k (f : FuncId) (l : List X) : (PO.Bw f l).il = true := Eq.trans rfl rfl
theorem a0y (f : FuncId) (l : List X) : (PO.u5 f l).il = true := Eq.trans rfl rfl
theorem Vq (n : Nat) (x : X) : (PO.gh n x).il = true := Eq.trans rfl rfl
theorem Xh (n : Nat) (x y : X) : (PO.iw n x y).il = true := Eq.trans rfl rfl
theorem R1 (l n : Nat) (x y : X) : (PO.xe l n x y).il = true := Eq.trans rfl rfl
theorem Zg (l n : Nat) (a : Bool) (x y : X) : (PO.Ka l n a x y).il = true := Eq.trans rfl rfl
theorem a29 (x y : X) : (PO.Iv x y).il = true := Eq.trans rfl rfl
theorem a1p (x : X) : (PO.n7 x).il = true := Eq.trans rfl rfl
theorem a0w (x : X) : (PO.G5 x).il = true := Eq.trans rfl rfl
theorem a4f (x : X) (n : Nat) : (PO.ext x n).il = true := Eq.trans rfl rfl
theorem Vz (n : Nat) (x : X) (lo hi mx : Option X) : (PO.slice n x lo hi mx).il = true := Eq.trans rfl rfl
theorem a4r (x y : X) : (PO.max x y).il = true := Eq.trans rfl rfl
theorem a5f (x y : X) : (PO.min x y).il = true := Eq.trans rfl rfl
theorem a23 (a : Bool) (n : Nat) (x : X) : (PO.load a n x).il = true := Eq.trans rfl rfl
theorem a0o (z : AV) (a : Bool) (b : KK) (x y : X) : (PO.look z a b x y).il = true := Eq.trans rfl rfl
theorem a1a (x : X) (l : List X) : (PO.call x l).il = true := Eq.trans rfl rfl
theorem a3f (n : Nat) (x y : X) : (PO.app n none x y).il = true := Eq.trans rfl rfl
theorem Tu (l : List AV) : (PO.alloc l).il = false := Eq.trans rfl rfl
theorem a3h (x : X) : (PO.box x).il = false := Eq.trans rfl rfl
theorem U1 : PO.qk.il = false := Eq.trans rfl rfl
theorem a6d (x : X) : ((PO.mov x).kd == .W) = false := Eq.trans rfl rfl
theorem a1l (c a b : X) : ((PO.pick c a b).kd == .W) = false := Eq.trans rfl rfl
theorem T7 (z : List AV) (ps : List (Nat × Nat × X)) : ((PO.build z ps).kd == .W) = false := Eq.trans rfl rfl
theorem a54 (z : AV) (n : Nat) (ps : List (Nat × Nat × X)) : ((PO.bsl z n ps).kd == .W) = false := Eq.trans rfl rfl
theorem W9 (x : X) : ((PO.iy x).kd == .W) = false := Eq.trans rfl rfl
theorem a4m (o : BinOp) (x y : X) : ((PO.bin o x y).kd == .W) = false := Eq.trans rfl rfl
theorem a2s (n : Bool) (x y : X) : ((PO.eqb n x y).kd == .W) = false := Eq.trans rfl rfl
theorem a6j (n : Bool) (x y : X) : ((PO.eqi n x y).kd == .W) = false := Eq.trans rfl rfl
theorem a5j (n : Bool) (x y : X) : ((PO.eqs n x y).kd == .W) = false := Eq.trans rfl rfl
theorem a50 (n : Bool) (x y : X) : ((PO.eqp n x y).kd == .W) = false := Eq.trans rfl rfl
theorem a25 (x : X) : ((PO.Jh x).kd == .W) = false := Eq.trans rfl rfl
theorem a7m (o : UnOp) (x : X) : ((PO.un o x).kd == .W) = false := Eq.trans rfl rfl
theorem Zq (k : IntKind) (x : X) : ((PO.conv k x).kd == .W) = false := Eq.trans rfl rfl
theorem a1q (t : TypeId) (x : X) : ((PO.K0 t x).kd == .W) = false := Eq.trans rfl rfl
theorem Zy (f : FuncId) (l : List X) : ((PO.Bw f l).kd == .W) = false := Eq.trans rfl rfl
theorem a14 (f : FuncId) (l : List X) : ((PO.u5 f l).kd == .W) = false := Eq.trans rfl rfl
theorem We (n : Nat) (x : X) : ((PO.gh n x).kd == .W) = false := Eq.trans rfl rfl
theorem X8 (n : Nat) (x y : X) : ((PO.iw n x y).kd == .W) = false := Eq.trans rfl rfl
theorem Ql (l n : Nat) (x y : X) : ((PO.xe l n x y).kd == .W) = false := Eq.trans rfl rfl
theorem a0q (l n : Nat) (a : Bool) (x y : X) : ((PO.Ka l n a x y).kd == .W) = false := Eq.trans rfl rfl
theorem a0g (x y : X) : ((PO.Iv x y).kd == .W) = false := Eq.trans rfl rfl
theorem a0c (x : X) : ((PO.n7 x).kd == .W) = false := Eq.trans rfl rfl
theorem Zn (x : X) : ((PO.G5 x).kd == .W) = false := Eq.trans rfl rfl
theorem a3v (x : X) (n : Nat) : ((PO.ext x n).kd == .W) = false := Eq.trans rfl rfl
theorem Ss (n : Nat) (x : X) (lo hi mx : Option X) : ((PO.slice n x lo hi mx).kd == .W) = false := Eq.trans rfl rfl
theorem a4y (x y : X) : ((PO.max x y).kd == .W) = false := Eq.trans rfl rfl
theorem a2v (x y : X) : ((PO.min x y).kd == .W) = false := Eq.trans rfl rfl
theorem Yt (a : Bool) (n : Nat) (x : X) : ((PO.load a n x).kd == .W) = false := Eq.trans rfl rfl
theorem Yr (z : AV) (a : Bool) (b : KK) (x y : X) : ((PO.look z a b x y).kd == .W) = false := Eq.trans rfl rfl
theorem Zf (x : X) (l : List X) : ((PO.call x l).kd == .W) = false := Eq.trans rfl rfl
theorem a4v (n : Nat) (x y : X) : ((PO.app n none x y).kd == .W) = false := Eq.trans rfl rfl
theorem V0 (l : List AV) : ((PO.alloc l).kd == .W) = false := Eq.trans rfl rfl
theorem a68 (x : X) : ((PO.box x).kd == .W) = false := Eq.trans rfl rfl
theorem Sj : (PO.qk.kd == .W) = false := Eq.trans rfl rfl
theorem Xb (n : Nat) (x y : X) : ((PO.store n x y).kd == .W) = true := Eq.trans rfl rfl
theorem Su (b : KK) (x y z : X) : ((PO.qm b x y z).kd == .W) = true := Eq.trans rfl rfl
theorem Zr (f : FuncId) (l : List X) : ((PO.Bw f l).kd == .S) = true := Eq.trans rfl rfl
theorem Yd (f : FuncId) (l : List X) : ((PO.u5 f l).kd == .S) = true := Eq.trans rfl rfl
theorem R0 (l n : Nat) (x y : X) : ((PO.xe l n x y).kd == .S) = true := Eq.trans rfl rfl
theorem Ya (l n : Nat) (a : Bool) (x y : X) : ((PO.Ka l n a x y).kd == .S) = true := Eq.trans rfl rfl
theorem Yq (x y : X) : ((PO.Iv x y).kd == .S) = true := Eq.trans rfl rfl
theorem a57 (x y : X) : ((PO.max x y).kd == .S) = true := Eq.trans rfl rfl
theorem a5d (x y : X) : ((PO.min x y).kd == .S) = true := Eq.trans rfl rfl
theorem a6a (n : Nat) (x y : X) : ((PO.app n none x y).kd == .S) = false := Eq.trans rfl rfl
theorem a4g (x : X) : ((PO.box x).kd == .S) = false := Eq.trans rfl rfl
theorem Xw (z : AV) (a : Bool) (b : KK) (x y : X) : ((PO.look z a b x y).kd == .S) = false := Eq.trans rfl rfl
theorem Vk : (PO.qk.kd == .S) = false := Eq.trans rfl rfl
theorem Tn {tm : List AV} {idx : Nat} {l : List AV} : oh tm idx (.alloc l) = some (.ptr idx 0, .cells false l) := Eq.trans rfl rfl
theorem Tp {tm : List AV} {idx : Nat} : oh tm idx .qk = some (.mp idx, .map []) := Eq.trans rfl rfl
theorem a5u {tm : List AV} {idx : Nat} {x : X} : oh tm idx (.box x) = (evX tm x).bind λ a => if a.known = true then some (.ptr idx 0, .cells false a.cells) else none := by
 simp only [oh]; cases evX tm x <;> rfl
def XW (c : gu) (md : FuncId -> Md) (l : List PI) (tm : List AV) (s : ASt) (Z : List fp) (K : List AV -> ASt -> List fp -> Prop) (_ : Fx1 K) : Prop :=
 match vx c md l tm s Z with
 | some (tm', s', Z') => K tm' s' Z'
 | none => False
@[congr] theorem XW_congr {l : List PI} {tm tm' : List AV} {s s' : ASt} {Z Z' : List fp} {K : List AV -> ASt -> List fp -> Prop} (h1 : True -> tm = tm') (h2 : True -> s = s') (h4 : True -> Z = Z') : XW c md l tm s Z K () = XW c md l tm' s' Z' K () := by rw [h1 trivial, h2 trivial, h4 trivial]
theorem a3g {p : Prop} [Decidable p] {v : AV} {ob : fp} {K : AV -> fp -> Prop} : M3 (if p then some (v, ob) else none) K () = (p /\ K v ob) := by
 by_cases h : p <;> simp [h, M3]
theorem a3o {Z : List fp} {K : List AV -> ASt -> List fp -> Prop} : XW c md [] tm s Z K () = K tm s Z := Eq.trans rfl rfl
theorem Yz {Z : List fp} {K : List AV -> ASt -> List fp -> Prop} : XW c md (i :: l) tm s Z K () =
  M1 i.op.il (GW (ic tm i.g) (XW c md l (put tm i.dst .undef) s Z K ()) (OW (opA tm s i.op) (λ v s' => XW c md l (put tm i.dst v) s' Z K ()) (λ f args => CW c md true s f args (λ v s' => XW c md l (put tm i.dst v) s' Z K ()) (λ _ _ => False) ()) (λ _ => False) (λ _ _ => XW c md l (put tm i.dst .undef) s Z K ()) ()) ())
   (M3 (oh tm (s.H.length + Z.length) i.op) (λ v ob => XW c md l (put tm i.dst v) s (Z ++ [ob]) K ()) ()) () := by
 cases hk : i.op.il with
 | true =>
  rw [a4i]
  unfold XW
  rw [vx, hk]
  simp only [if_true]
  rw [ik]
  cases ic tm i.g with
  | none => rfl
  | some b =>
   cases b with
   | false => simp [GW]
   | true =>
    simp only [Qp]
    cases opA tm s i.op with
    | none => rfl
    | some o =>
     cases o with
     | call f args =>
      simp only [OW, CW]
      cases ln c md true s f args with
      | none => rfl
      | some x =>
       obtain ⟨r, s'⟩ := x
       cases r <;> rfl
     | _ => rfl
 | false =>
  rw [a3p]
  unfold XW
  rw [vx, hk]
  simp only [dx, if_false]
  cases oh tm (s.H.length + Z.length) i.op with
  | none => rfl
  | some x => rfl
def XE (c : gu) (md : FuncId -> Md) (p : PI) (l : List PI) (df : List (FuncId × List AV)) (K : St -> Prop) (tm : List AV) (s : ASt) : Prop :=
 GW (ic tm p.g) (CK p tm s s l /\ K ⟨put tm p.dst .undef, df, s⟩) (OW (opA tm s p.op) (λ v s' => CK p tm s s' l /\ K ⟨put tm p.dst v, df, s'⟩) (λ f args => CW c md true s f args (λ v s' => CK p tm s s' l /\ K ⟨put tm p.dst v, df, s'⟩) (λ _ _ => False) ()) (λ _ => False) (λ f args => CK p tm s s l /\ K ⟨put tm p.dst .undef, (f, args) :: df, s⟩) ()) ()
def XL (c : gu) (md : FuncId -> Md) (o : Option PI) (l : List PI) (tm : List AV) (df : List (FuncId × List AV)) (s : ASt) (K : St -> Prop) (_ : Fx1 K) : Prop :=
 match o with
 | none => K ⟨tm, df, s⟩
 | some p => M1 (p.op.kd == .W) (XW c md l.dropLast tm s [] (λ tm' s' Z => XE c md p l.dropLast df K tm' ⟨s'.H ++ Z, s'.T⟩) ()) (XW c md l tm s [] (λ tm' s' Z => K ⟨tm', df, ⟨s'.H ++ Z, s'.T⟩⟩) ()) ()
@[congr] theorem XL_congr {o o' : Option PI} {l : List PI} {tm tm' : List AV} {df : List (FuncId × List AV)} {s s' : ASt} {K : St -> Prop} (h0 : True -> o = o') (h1 : True -> tm = tm') (h2 : True -> s = s') : XL c md o l tm df s K () = XL c md o' l tm' df s' K () := by rw [h0 trivial, h1 trivial, h2 trivial]
theorem Of {p : PI} {K : St -> Prop} : XL c md (some p) l tm df s K () = M1 (p.op.kd == .W) (XW c md l.dropLast tm s [] (λ tm' s' Z => XE c md p l.dropLast df K tm' ⟨s'.H ++ Z, s'.T⟩) ()) (XW c md l tm s [] (λ tm' s' Z => K ⟨tm', df, ⟨s'.H ++ Z, s'.T⟩⟩) ()) () := Eq.trans rfl rfl
theorem a2i {p : PI} {K : St -> Prop} : XE c md p l df K tm s = GW (ic tm p.g) (CK p tm s s l /\ K ⟨put tm p.dst .undef, df, s⟩) (OW (opA tm s p.op) (λ v s' => CK p tm s s' l /\ K ⟨put tm p.dst v, df, s'⟩) (λ f args => CW c md true s f args (λ v s' => CK p tm s s' l /\ K ⟨put tm p.dst v, df, s'⟩) (λ _ _ => False) ()) (λ _ => False) (λ f args => CK p tm s s l /\ K ⟨put tm p.dst .undef, (f, args) :: df, s⟩) ()) () := Eq.trans rfl rfl
theorem a01 {K : St -> Prop} : (match Gj c md l ⟨tm, df, s⟩ with | some st => K st | none => False) = XL c md l.getLast? l tm df s K () := by
 unfold Gj
 cases l.getLast? with
 | none => rfl
 | some p =>
  rw [Of]
  by_cases hk : (p.op.kd == .W) = true
  ·simp only [hk, if_true, a4i]
   unfold XW
   cases vx c md l.dropLast tm s [] with
   | none => rfl
   | some x =>
    obtain ⟨tm', s', Z⟩ := x
    simp only
    rw [a2i, ik]
    have fin : ∀ (st2 : St), (match (if (l.dropLast.all λ j => p.pre.contains j.ix || j.op.kd == .S || m9 tm' ⟨s'.H ++ Z, s'.T⟩ st2.s j.op) = true then some st2 else none : Option St) with | some st => K st | none => False) = (CK p tm' ⟨s'.H ++ Z, s'.T⟩ st2.s l.dropLast /\ K st2) := by
     intro st2
     rw [Mt]
     by_cases h : (l.dropLast.all λ j => p.pre.contains j.ix || j.op.kd == .S || m9 tm' ⟨s'.H ++ Z, s'.T⟩ st2.s j.op) = true
     ·rw [if_pos h, eq_true h, true_and]
     ·rw [if_neg h, eq_false h, false_and]
    cases ic tm' p.g with
    | none => rfl
    | some b =>
     cases b with
     | false => simp only [a73]; exact fin ⟨_, _, _⟩
     | true =>
      simp only [Qp]
      cases opA tm' ⟨s'.H ++ Z, s'.T⟩ p.op with
      | none => rfl
      | some o =>
       cases o with
       | val v s2 => exact fin ⟨_, _, s2⟩
       | dfr f args => exact fin ⟨_, _, _⟩
       | call f args =>
        simp only [OW, CW]
        cases ln c md true ⟨s'.H ++ Z, s'.T⟩ f args with
        | none => rfl
        | some x =>
         obtain ⟨r, s2⟩ := x
         cases r with
         | ret v => exact fin ⟨_, _, s2⟩
         | pan v => rfl
       | _ => rfl
  ·simp only [Bool.eq_false_iff.2 hk, a3p, dx, if_false]
   unfold XW
   cases vx c md l tm s [] with
   | none => rfl
   | some x => rfl
theorem Z4 {n : Nat} {ns : List Nat} (hn : 1002000 <= n) (hn2 : n < 1003000) : W c md (.jm (n :: ns) l) ⟨tm, df, s⟩ Q () = XL c md (l.take (n % 1000)).getLast? (l.take (n % 1000)) tm df s (λ st => DW c md ns (l.drop (n % 1000)) st Q ()) () := by
 rw [<- a01]
 unfold W
 rw [ij, Bz (by omega), if_neg (by omega), nj, if_neg (by omega)]
 generalize l.take (n % 1000) = l1
 generalize l.drop (n % 1000) = lr
 cases Gj c md l1 ⟨tm, df, s⟩ with
 | none => rfl
 | some st' =>
  simp only [ff]
  cases lr with
  | nil => rfl
  | cons b l2 =>
   simp only [DW, WS, js]
   cases ik c md false b st' with
   | none => rfl
   | some y => obtain ⟨r, st4⟩ := y; cases r <;> rfl
theorem a61 {β : Type} (m : β -> Nat) (I : β -> St -> Prop) {a : PC} (h : ∀ b st, I b st -> W c md a st (LQ (λ st' => ∃ b', m b' < m b /\ I b' st') Q) ()) {b : β} {st : St} (h0 : I b st) : W c md (.loop a) st Q () := by
 have key : ∀ n b st, m b < n -> I b st -> EW (oj c md a st) Q () := by
  intro n
  induction n with
  | zero => intro b st hb; omega
  | succ n ih =>
   intro b st hb hi
   have hw := h b st hi
   unfold W at hw
   rw [Uh]
   cases hx : ij c md (oj c md) a st with
   | none => rw [hx] at hw; exact hw.elim
   | some x =>
    obtain ⟨r, st'⟩ := x
    rw [hx] at hw
    cases r with
    | normal =>
     obtain ⟨b', hb', hi'⟩ := hw
     exact ih b' st' (by omega) hi'
    | _ => exact hw
 exact key (m b + 1) b st (by omega) h0
def RA (K : St -> Prop) : fu -> St -> Prop
 | .normal, st1 => st1.df = [] /\ K st1
 | _, _ => False
def RB (J : ASt -> Prop) (st0 : St) (Q : fu -> St -> Prop) : fu -> St -> Prop
 | .normal, st2 => st2.df = [] /\ J st2.s
 | .exit id, st2 => st2.df = [] /\ Q (.exit id) { st0 with s := st2.s }
 | .ret, st2 => st2.df = [] /\ Q .ret { st0 with s := st2.s }
 | .pan _, _ => False
theorem a6t {K : St -> Prop} {st1 : St} : RA K .normal st1 = (st1.df = [] /\ K st1) := rfl
theorem a7p {J : ASt -> Prop} {st0 st2 : St} : RB J st0 Q .normal st2 = (st2.df = [] /\ J st2.s) := rfl
theorem a8a {J : ASt -> Prop} {st0 st2 : St} {n : Nat} : RB J st0 Q (.exit n) st2 = (st2.df = [] /\ Q (.exit n) { st0 with s := st2.s }) := rfl
theorem a81 {J : ASt -> Prop} {st0 st2 : St} : RB J st0 Q .ret st2 = (st2.df = [] /\ Q .ret { st0 with s := st2.s }) := rfl
theorem Tx {it : FuncId -> List AV -> ASt -> Nat -> Option (Option (List AV))} {x : X} {ps : List Nat} {pa pb : PC} {gf : FuncId} {caps : List AV} (hx : evX st.tm x = some (.fn gf caps)) (hdf : st.df = []) (N : Nat) (hN : N < 1000000) (I : Nat -> ASt -> Prop)
  (h : ∀ i s, I i s -> (it gf caps s i = some none /\ Q .normal { st with s }) \/ (i < N /\ ∃ xs, it gf caps s i = some (some xs) /\ xs.length = ps.length /\ W c md pa ⟨xk st.tm ps xs, [], s⟩ (RA λ st1 => W c md pb st1 (RB (I (i + 1)) st Q) ()) ())) (h0 : I 0 st.s) : W c md (.x7 it x ps pa pb) st Q () := by
 have key : ∀ k i s, N + 1 <= k + i -> i <= N -> I i s -> ∃ ex s', By (it gf caps) (λ xs s => if xs.length = ps.length then (match ij c md (oj c md) pa ⟨xk st.tm ps xs, [], s⟩ with | some (.normal, st1) => if st1.df.isEmpty then ij c md (oj c md) pb st1 else none | _ => none) else none) k i s = some (ex, s') /\ Q ex { st with s := s' } := by
  intro k
  induction k with
  | zero => intro i s h1 h2 _; omega
  | succ k ih =>
   intro i s h1 h2 hI
   rcases h i s hI with ⟨e1, hq⟩ | ⟨hiN, xs, e1, e2, hw⟩
   ·exact ⟨.normal, s, by simp only [By, e1], hq⟩
   ·unfold W EW at hw
    simp only [By, e1, if_pos e2]
    cases hxa : ij c md (oj c md) pa ⟨xk st.tm ps xs, [], s⟩ with
    | none => rw [hxa] at hw; exact hw.elim
    | some r =>
     obtain ⟨r1, st1⟩ := r
     rw [hxa] at hw
     cases r1 with
     | normal =>
      obtain ⟨hd1, hw⟩ := hw
      simp only [hd1, List.isEmpty_nil, if_true]
      cases hxb : ij c md (oj c md) pb st1 with
      | none => rw [hxb] at hw; exact hw.elim
      | some r =>
       obtain ⟨r2, st2⟩ := r
       rw [hxb] at hw
       cases r2 with
       | normal =>
        obtain ⟨hd2, hw⟩ := hw
        simp only [hd2, List.isEmpty_nil, if_true]
        exact ih (i + 1) st2.s (by omega) (by omega) hw
       | exit n =>
        obtain ⟨hd2, hw⟩ := hw
        exact ⟨.exit n, st2.s, by simp only [hd2, List.isEmpty_nil, if_true], hw⟩
       | ret =>
        obtain ⟨hd2, hw⟩ := hw
        exact ⟨.ret, st2.s, by simp only [hd2, List.isEmpty_nil, if_true], hw⟩
       | pan v => exact hw.elim
     | _ => exact hw.elim
 obtain ⟨ex, s', e1, hq⟩ := key 1000000 0 st.s (by omega) (dj _) h0
 have e2 : ij c md (oj c md) (.x7 it x ps pa pb) st = some (ex, { st with s := s' }) := by
  have hd : st.df.isEmpty = true := by rw [hdf]; rfl
  unfold ij
  simp only [hx]
  rw [if_pos hd]
  exact congrArg (Option.map λ (r : fu × ASt) => (r.1, { st with s := r.2 })) e1
 unfold W EW
 rw [e2]
 exact hq
theorem EW.mono {o : Option (fu × St)} {Q Q' : fu -> St -> Prop} (h : EW o Q ()) (hq : ∀ r st, Q r st -> Q' r st) : EW o Q' () := by
 cases o with
 | none => exact h.elim
 | some x => exact hq _ _ h
theorem W.mono {b : PC} {Q Q' : fu -> St -> Prop} (h : W c md b st Q ()) (hq : ∀ r st, Q r st -> Q' r st) : W c md b st Q' () := EW.mono h hq
def EQ (nt : Nat) (df : List (FuncId × List AV)) (J : Env -> List fp -> List Nat -> Prop) (st : St) : Prop := ∃ E H T, st = ⟨tmE nt E, df, ⟨H, T⟩⟩ /\ J E H T
theorem j6 {nt : Nat} {df : List (FuncId × List AV)} {J : Env -> List fp -> List Nat -> Prop} {E : Env} {H : List fp} {T : List Nat} (h : J E H T) : EQ nt df J ⟨tmE nt E, df, ⟨H, T⟩⟩ := ⟨E, H, T, rfl, h⟩
theorem iq {β : Type} (m : β -> Nat) (I : β -> Env -> List fp -> List Nat -> Prop) {a : PC} {nt : Nat} {df : List (FuncId × List AV)} (h : ∀ b E H T, I b E H T -> W c md a ⟨tmE nt E, df, ⟨H, T⟩⟩ (LQ (EQ nt df λ E H T => ∃ b', m b' < m b /\ I b' E H T) Q) ()) (b : β) {E : Env} {H : List fp} {T : List Nat} (h0 : I b E H T) : W c md (.loop a) ⟨tmE nt E, df, ⟨H, T⟩⟩ Q () := by
 refine a61 m (λ b st => ∃ E H T, st = ⟨tmE nt E, df, ⟨H, T⟩⟩ /\ I b E H T) ?_ (b := b) ⟨E, H, T, rfl, h0⟩
 rintro b st ⟨E, H, T, rfl, hI⟩
 refine (h b E H T hI).mono λ r st' hr => ?_
 cases r with
 | normal =>
  obtain ⟨E', H', T', rfl, b', h1, h2⟩ := hr
  exact ⟨b', h1, E', H', T', rfl, h2⟩
 | _ => exact hr
def Out (md : FuncId -> Md) (pfs : FuncId -> Option PF) (f : FuncId) (args : List AV) (PR PP : AV -> Prop) : Prop :=
 ∃ out s out', run md pfs f args ⟨[], []⟩ = some (out, s) /\ out.gi 1020 s = some out' /\ match out' with | .ret v => PR v | .pan v => PP v
def RQ (res : List PR) (PR PP : AV -> Prop) : fu -> St -> Prop
 | .pan v, st => st.df = [] /\ ∃ v', gi 1020 st.s v = some v' /\ PP v'
 | .exit _, _ => False
 | _, st => st.df = [] /\ ∃ l, ma st.tm st.s res = some l /\ ∃ v', gi 1020 st.s (qf l) = some v' /\ PR v'
theorem a39 {res : List PR} {PR PP : AV -> Prop} {st : St} : RQ res PR PP .ret st = (st.df = [] /\ ∃ l, ma st.tm st.s res = some l /\ ∃ v', gi 1020 st.s (qf l) = some v' /\ PR v') := rfl
theorem Rm {res : List PR} {PR PP : AV -> Prop} {st : St} : RQ res PR PP .normal st = (st.df = [] /\ ∃ l, ma st.tm st.s res = some l /\ ∃ v', gi 1020 st.s (qf l) = some v' /\ PR v') := rfl
theorem a41 {res : List PR} {PR PP : AV -> Prop} {v : AV} {st : St} : RQ res PR PP (.pan v) st = (st.df = [] /\ ∃ v', gi 1020 st.s v = some v' /\ PP v') := rfl
theorem Pe {pc : PC} {st : St} {Q : fu -> St -> Prop} {c : gu} {md : FuncId -> Md} (h : W c md pc st Q ()) : pc.Lv = none := by
 cases pc with
 | ora o => unfold W at h; simp only [ij] at h; exact (show False from h).elim
 | _ => rfl
theorem iu {f : FuncId} {pf : PF} (hp : pfs f = some pf) {args : List AV} {PR PP : AV -> Prop} (hn : args.length <= pf.nt) (h : W (run md pfs) md pf.body ⟨tmE pf.nt (tw args), [], ⟨[], []⟩⟩ (RQ pf.res PR PP) ()) : Out md pfs f args PR PP := by
 unfold Out
 rw [run_eq hp (Pe h)]
 unfold E8
 rw [E4 args pf.nt hn]
 unfold W at h
 cases hx : ij (run md pfs) md (oj (run md pfs) md) pf.body ⟨tmE pf.nt (tw args), [], ⟨[], []⟩⟩ with
 | none => rw [hx] at h; exact h.elim
 | some x =>
  obtain ⟨r, st⟩ := x
  obtain ⟨tm, df, s⟩ := st
  rw [hx] at h
  cases r with
  | exit i => exact h.elim
  | pan v =>
   obtain ⟨h1, v', h2, h3⟩ := h
   simp only at h1; subst h1
   exact ⟨.pan v, s, .pan v', by simp only [List.isEmpty_nil, dy, ej, dx, if_false]; rfl, by simp only [jt.gi]; rw [h2]; rfl, h3⟩
  | normal =>
   obtain ⟨h1, l, h2, v', h3, h4⟩ := h
   simp only at h1; subst h1
   refine ⟨.ret (qf l), s, .ret v', ?_, by simp only [jt.gi]; rw [h3]; rfl, h4⟩
   simp only [List.isEmpty_nil, dy, ej, dx, if_false]
   show (ma tm s pf.res).map _ = _
   simp only at h2
   rw [h2]; rfl
  | ret =>
   obtain ⟨h1, l, h2, v', h3, h4⟩ := h
   simp only at h1; subst h1
   refine ⟨.ret (qf l), s, .ret v', ?_, by simp only [jt.gi]; rw [h3]; rfl, h4⟩
   simp only [List.isEmpty_nil, dy, ej, dx, if_false]
   show (ma tm s pf.res).map _ = _
   simp only at h2
   rw [h2]; rfl
theorem Out.call {f : FuncId} {args : List AV} {PR : AV -> Prop} (h : Out md pfs f args PR λ _ => False) (hm : md f = .pure) (ha : ga args = true) : ∃ v, PR v /\ ∀ pm s K KP, CW (run md pfs) md pm s f args K KP () = K v s := by
 obtain ⟨out, s', out', h1, h2, h3⟩ := h
 cases out' with
 | pan v => exact h3.elim
 | ret v => exact ⟨v, h3, λ pm s K KP => by simp [CW, ln, hm, ha, w9 s ha, h1, h2, E3 s ha]⟩
theorem Out.call2 {f : FuncId} {args : List AV} {PR PP : AV -> Prop} (h : Out md pfs f args PR PP) (hm : md f = .pure) (ha : ga args = true) : (∃ v, PR v /\ ∀ pm s K KP, CW (run md pfs) md pm s f args K KP () = K v s) \/ (∃ v, PP v /\ ∀ pm s K KP, CW (run md pfs) md pm s f args K KP () = KP v s) := by
 obtain ⟨out, s', out', h1, h2, h3⟩ := h
 cases out' with
 | pan v => exact .inr ⟨v, h3, λ pm s K KP => by simp [CW, ln, hm, ha, w9 s ha, h1, h2, E3 s ha]⟩
 | ret v => exact .inl ⟨v, h3, λ pm s K KP => by simp [CW, ln, hm, ha, w9 s ha, h1, h2, E3 s ha]⟩
theorem Out.mono {f : FuncId} {args : List AV} {PR PP PR' PP' : AV -> Prop} (h : Out md pfs f args PR PP) (h1 : ∀ v, PR v -> PR' v) (h2 : ∀ v, PP v -> PP' v) : Out md pfs f args PR' PP' := by
 obtain ⟨out, s', out', e1, e2, e3⟩ := h
 refine ⟨out, s', out', e1, e2, ?_⟩
 cases out' with
 | ret v => exact h1 v e3
 | pan v => exact h2 v e3
end
end Go.Proofs.Eng
namespace Go.Proofs.Eng
open Go
theorem Vx {nt t : Nat} {e : Env} (h : t < nt) (h2 : e t = .v (.bool true)) : ic (tmE nt e) (some (t, true)) = some true := by rw [Aw h h2]; rfl
theorem Sw {nt t : Nat} {e : Env} (h : t < nt) (h2 : e t = .v (.bool true)) : ic (tmE nt e) (some (t, false)) = some false := by rw [Aw h h2]; rfl
theorem U6 {nt t : Nat} {e : Env} (h : t < nt) (h2 : e t = .v (.bool false)) : ic (tmE nt e) (some (t, true)) = some false := by rw [Aw h h2]; rfl
theorem Tb {nt t : Nat} {e : Env} (h : t < nt) (h2 : e t = .v (.bool false)) : ic (tmE nt e) (some (t, false)) = some true := by rw [Aw h h2]; rfl
theorem Zt {nt t : Nat} {e : Env} {w : Bool} (h : t < nt) (h2 : e t = .undef) : ic (tmE nt e) (some (t, w)) = some false := Sy h h2
theorem sm {a b : Bool} (h : b = a) : AV.v (.bool a) = AV.bool b := by rw [h]
theorem Ez {α : Type} (H : List α) (x y : α) : (H ++ [x]).set H.length y = H ++ [y] := by rw [List.set_append_right _ _ (dh _)]; simp
abbrev j7 : Nat := 9223372036854775807
abbrev vy : Nat := 1073741824
abbrev mg (n : Int) : Prop := -9223372036854775808 <= n /\ n <= 9223372036854775807
theorem jd {n : Int} (h : mg n) : IntKind.i64.wrap n = n := by unfold mg at h; exact IntWalk.i64_in (by omega) (by omega)
theorem Dr {i : Nat} (h : i < j7) : IntKind.i64.wrap ((i : Int) + 1) = ((i + 1 : Nat) : Int) := by unfold j7 at h; rw [jd (by unfold mg; omega)]; simp
theorem gw {i : Nat} (h : i < j7) : AV.v (.int .i64 (IntKind.i64.wrap ((i : Int) + 1))) = .int ((i + 1 : Nat) : Int) := by rw [Dr h]
def LIs {α : Type} (R : α -> AV -> Prop) : List α -> List AV -> Prop
 | [], [] => True
 | x :: xs, a :: al => R x a /\ LIs R xs al
 | _, _ => False
structure Lu {α : Type} (R : α -> AV -> Prop) (es : Nat) : Prop where
 cells : ∀ {x a}, R x a -> ∃ c, a = .agg c /\ c.length = es /\ c.all gv = true
 pure : ∀ {x a}, R x a -> ia a = true
section
variable {α : Type} {R : α -> AV -> Prop} {es : Nat}
theorem LIs.len : ∀ {l : List α} {al : List AV}, LIs R l al -> al.length = l.length
 | [], [], _ => rfl
 | _ :: _, _ :: _, h => by simp only [LIs] at h; simp [LIs.len h.2]
 | [], _ :: _, h => by simp [LIs] at h
 | _ :: _, [], h => by simp [LIs] at h
theorem LIs.pure (hR : ∀ x a, R x a -> ia a = true) : ∀ {l : List α} {al : List AV}, LIs R l al -> ga al = true
 | [], [], _ => by rw [ga]
 | _ :: _, _ :: _, h => by simp only [LIs] at h; simp [ft, hR _ _ h.1, LIs.pure hR h.2]
 | [], _ :: _, h => by simp [LIs] at h
 | _ :: _, [], h => by simp [LIs] at h
theorem LIs.all (hR : Lu R es) : ∀ {l : List α} {al : List AV}, LIs R l al -> (al.all λ x => x.cells.length == es) = true
 | [], [], _ => rfl
 | _ :: _, _ :: _, h => by
  simp only [LIs] at h
  obtain ⟨c, rfl, hl, _⟩ := hR.cells h.1
  simp [da, LIs.all hR h.2, tf, hl]
 | [], _ :: _, h => by simp [LIs] at h
 | _ :: _, [], h => by simp [LIs] at h
theorem LIs.Lw (hR : Lu R es) : ∀ {l : List α} {al : List AV}, LIs R l al -> (al.all λ x => x.cells.length == es && x.cells.all gv) = true
 | [], [], _ => rfl
 | _ :: _, _ :: _, h => by
  simp only [LIs] at h
  obtain ⟨c, rfl, hl, ho⟩ := hR.cells h.1
  simp [da, LIs.Lw hR h.2, tf, hl]
  simpa using ho
 | [], _ :: _, h => by simp [LIs] at h
 | _ :: _, [], h => by simp [LIs] at h
theorem LIs.at : ∀ {l : List α} {al : List AV} {i : Nat}, LIs R l al -> i < al.length -> ∃ x a, l[i]? = some x /\ l.drop i = x :: l.drop (i + 1) /\ x ∈ l /\ al[i]? = some a /\ R x a
 | [], [], i, _, h => by simp at h
 | x :: xs, a :: al, 0, h, _ => by
  simp only [LIs] at h
  exact ⟨x, a, rfl, rfl, by simp, rfl, h.1⟩
 | x :: xs, a :: al, i + 1, h, hi => by
  simp only [LIs] at h
  obtain ⟨y, b, h1, h2, h3, h4, h5⟩ := LIs.at (i := i) h.2 (by simpa using hi)
  exact ⟨y, b, by simpa using h1, by simpa using h2, by simp [h3], by simpa using h4, h5⟩
 | [], _ :: _, _, h, _ => by simp [LIs] at h
 | _ :: _, [], _, h, _ => by simp [LIs] at h
theorem LIs.get (hR : Lu R es) {l : List α} {al : List AV} {i : Nat} (h : LIs R l al) (hi : i < al.length) : ∃ x c, l[i]? = some x /\ l.drop i = x :: l.drop (i + 1) /\ x ∈ l /\ al[i]? = some (.agg c) /\ c.length = es /\ c.take es = c /\ c.all gv = true /\ R x (.agg c) := by
 obtain ⟨x, a, h1, h2, h3, h4, h5⟩ := LIs.at h hi
 obtain ⟨c, rfl, hl, ho⟩ := hR.cells h5
 exact ⟨x, c, h1, h2, h3, h4, hl, au (by omega), ho, h5⟩
theorem LIs.append : ∀ {l m : List α} {al am : List AV}, LIs R l al -> LIs R m am -> LIs R (l ++ m) (al ++ am)
 | [], m, [], am, _, h => h
 | _ :: _, m, _ :: _, am, h, h' => by simp only [LIs, bn] at h ⊢; exact ⟨h.1, LIs.append h.2 h'⟩
 | [], _, _ :: _, _, h, _ => by simp [LIs] at h
 | _ :: _, _, [], _, h, _ => by simp [LIs] at h
theorem LIs.one {x : α} {a : AV} (h : R x a) : LIs R [x] [a] := ⟨h, trivial⟩
theorem LIs.take : ∀ (n : Nat) {l : List α} {al : List AV}, LIs R l al -> LIs R (l.take n) (al.take n)
 | 0, _, _, _ => by simp [LIs]
 | n + 1, [], [], h => h
 | n + 1, _ :: _, _ :: _, h => by simp only [LIs] at h; exact ⟨h.1, LIs.take n h.2⟩
 | _ + 1, [], _ :: _, h => by simp [LIs] at h
 | _ + 1, _ :: _, [], h => by simp [LIs] at h
theorem LIs.drop : ∀ (n : Nat) {l : List α} {al : List AV}, LIs R l al -> LIs R (l.drop n) (al.drop n)
 | 0, _, _, h => h
 | n + 1, [], [], h => h
 | n + 1, _ :: _, _ :: _, h => by simp only [LIs] at h; exact LIs.drop n h.2
 | _ + 1, [], _ :: _, h => by simp [LIs] at h
 | _ + 1, _ :: _, [], h => by simp [LIs] at h
theorem LIs.set : ∀ {l : List α} {al : List AV} (i : Nat) {x : α} {a : AV}, LIs R l al -> R x a -> LIs R (l.set i x) (al.set i a)
 | [], [], i, _, _, h, _ => by simp [LIs]
 | _ :: _, _ :: _, 0, _, _, h, h' => by simp only [LIs] at h; exact ⟨h', h.2⟩
 | _ :: _, _ :: _, i + 1, _, _, h, h' => by simp only [LIs] at h; exact ⟨h.1, LIs.set i h.2 h'⟩
 | [], _ :: _, _, _, _, h, _ => by simp [LIs] at h
 | _ :: _, [], _, _, _, h, _ => by simp [LIs] at h
theorem LIs.mono {R' : α -> AV -> Prop} : ∀ {l : List α} {al : List AV}, LIs R l al -> (∀ x ∈ l, ∀ a, R x a -> R' x a) -> LIs R' l al
 | [], [], _, _ => trivial
 | _ :: _, _ :: _, h, h' => by simp only [LIs] at h; exact ⟨h' _ (by simp) _ h.1, LIs.mono h.2 λ x hx => h' x (by simp [hx])⟩
 | [], _ :: _, h, _ => by simp [LIs] at h
 | _ :: _, [], h, _ => by simp [LIs] at h
end
def ints (l : List Int) : List AV := l.map AV.int
theorem gr (l : List Int) : (ints l).length = l.length := by simp [ints]
theorem kl : ∀ l : List Int, ga (ints l) = true
 | [] => by rw [ints, List.map_nil, ga]
 | e :: es => by have := kl es; simp only [ints] at this ⊢; simp [ft, ku, this]
theorem ks (l : List Int) : ((ints l).all λ x => x.cells.length == 1) = true := by
 induction l with
 | nil => rfl
 | cons x l ih => simp only [ints] at ih ⊢; simp only [bq, da, ih]; rfl
theorem vg {l : List Int} {i : Nat} (h : i < l.length) : ∃ x, l[i]? = some x /\ l.drop i = x :: l.drop (i + 1) /\ (ints l)[i]? = some (.int x) := by
 refine ⟨l[i], by simp [h], (bx h), ?_⟩
 simp [ints, h]
def App (T : List Nat) (l : List AV) (t : Tl) : Prop := (l = [] /\ t = .nil) \/ (l ≠ [] /\ ∃ id ver, t = .tl id ver /\ T[id]? = some ver)
end Go.Proofs.Eng
namespace Go.Proofs.Eng
open Go
theorem qu (s : ByteArray) : s.toList.length = s.size := by rw [ByteArray.toList_eq]; rfl
theorem Hr {s : ByteArray} : (s.toList == (ByteArray.mk #[]).toList) = (s.size == 0) := by
 rw [<- qu, show (ByteArray.mk #[]).toList = [] from by rw [ByteArray.toList_eq]]
 cases s.toList <;> rfl
theorem og (a b : ByteArray) : (a.toList == b.toList) = decide (a = b) := by
 rw [Bool.eq_iff_iff, beq_iff_eq, decide_eq_true_eq]
 constructor
 ·intro h
  rw [ByteArray.toList_eq, ByteArray.toList_eq] at h
  cases a; cases b
  simp only at h
  rw [Array.toList_inj.1 h]
 ·rintro rfl; rfl
theorem nq (a b : ByteArray) : (a == b) = decide (a = b) := by
 cases a with
 | mk x =>
 cases b with
 | mk y =>
 rw [Bool.eq_iff_iff, decide_eq_true_eq]
 show (x == y) = true ↔ _
 rw [beq_iff_eq, ByteArray.mk.injEq]
theorem Rf {α : Type} {p : Prop} {a : α} {q : α -> Prop} : (∃ x, (p /\ a = x) /\ q x) = (p /\ q a) := by
 simp [and_assoc]
section
variable {α : Type} {R : α -> AV -> Prop} {es : Nat}
theorem Uy : flat [] = [] := rfl
theorem ti {n : Nat} {s : ASt} : ∀ {l : List AV}, ga l = true -> im (gi (n + 1) s) l = some l
 | [], _ => rfl
 | x :: l, h => by
  simp only [ft, dw] at h
  simp only [im, j8 h.1, ti h.2]
theorem yy {n : Nat} {s : ASt} : ∀ {l : List AV}, ga l = true -> im (r9 (gi (n + 1) s)) l = some l
 | [], _ => rfl
 | x :: l, h => by
  simp only [ft, dw] at h
  have hx : r9 (gi (n + 1) s) x = some x := by
   cases x with
   | agg c =>
    have := h.1
    simp only [m5] at this
    simp only [r9, ti this, ff]
   | _ => exact j8 (n := n) (s := s) h.1
  simp only [im, hx, yy h.2]
theorem Uz {n : Nat} {s : ASt} {i off : Nat} : gi (n + 1) s (.ptr i off) = match s.H[i]? with
  | some (.cells _ c) => if off <= c.length then (im (gi n s) c).map (.ip · off) else none
  | _ => none := by
 rw [gi]; simp only [ia, dx, if_false]; rfl
theorem a4p {n : Nat} {s : ASt} {l : List AV} : gi (n + 2) s (.agg l) = (im (gi (n + 1) s) l).map .agg := by
 cases h : ga l
 ·rw [gi]; simp [m5, h]
 ·rw [j8 (by rw [m5, h]), ti h]; rfl
theorem Ww {n : Nat} {s : ASt} {l : List AV} : gi (n + 2) s (.tup l) = (im (gi (n + 1) s) l).map .tup := by
 cases h : ga l
 ·rw [gi]; simp [Hz, h]
 ·rw [j8 (by rw [Hz, h]), ti h]; rfl
theorem a2g {n : Nat} {s : ASt} {f : FuncId} {l : List AV} : gi (n + 2) s (.fn f l) = (im (gi (n + 1) s) l).map (.fn f) := by
 cases h : ga l
 ·rw [gi]; simp [yf, h]
 ·rw [j8 (by rw [yf, h]), ti h]; rfl
theorem Ul {n : Nat} {s : ASt} {t : TypeId} {x : AV} : gi (n + 2) s (.iface t x) = (gi (n + 1) s x).map (.iface t) := by
 cases h : ia x
 ·rw [gi]; simp [Bp, h]
 ·rw [j8 (by rw [Bp, h]), j8 h]; rfl
theorem Uv {n : Nat} {s : ASt} {l : List AV} {t : Tl} : gi (n + 2) s (.sl l t) = (im (r9 (gi (n + 1) s)) l).map (.sl · (t.sj (n + 1) s)) := by
 cases h : t.pure && ga l
 ·rw [gi]; simp [lk, h]
 ·simp only [dw] at h
  rw [j8 (by rw [lk, h.1, h.2]; rfl), yy h.2]
  cases t <;> simp_all [Tl.sj, Tl.pure]
theorem yp {n : Nat} {s : ASt} {x : AV} (h : ia x = true) : frz n s x = s := by
 cases n with
 | zero => rfl
 | succ n => exact Bx h
theorem a2b {n : Nat} {s : ASt} {f : FuncId} {l : List AV} : frz (n + 1) s (.fn f l) = if ga l then s else l.foldl (frz n) s := by
 rw [frz, yf]
theorem a5o {n : Nat} {s : ASt} {l : List AV} : frz (n + 1) s (.agg l) = if ga l then s else l.foldl (frz n) s := by
 rw [frz, m5]
theorem a3x {n : Nat} {s : ASt} {l : List AV} : frz (n + 1) s (.tup l) = if ga l then s else l.foldl (frz n) s := by
 rw [frz, Hz]
theorem Mb {i o : Nat} : ia (.ptr i o) = false := by rw [ia]; all_goals (intros; simp_all)
theorem a7n {i o n es : Nat} {ag : Bool} : ia (.bs i o n es ag) = false := by rw [ia]; all_goals (intros; simp_all)
theorem a7d {i : Nat} : ia (.mp i) = false := by rw [ia]; all_goals (intros; simp_all)
theorem Vp {n : Nat} {s : ASt} {i o : Nat} : frz (n + 1) s (.ptr i o) = match s.H[i]? with
  | some (.cells _ c) => c.foldl (frz n) (s.fz i)
  | _ => s := by
 rw [frz]; simp only [Mb, dx, if_false]; rfl
theorem Fh : ∀ {l m : List AV}, ga (l ++ m) = (ga l && ga m)
 | [], m => by simp [gg]
 | x :: l, m => by simp [ft, Fh (l := l) (m := m), Bool.and_assoc]
theorem Nu {x : AV} (h : ia x = true) : ga x.cells = true := by
 cases x with
 | agg l => rw [tf, <- m5]; exact h
 | _ => simp only [AV.cells, ft, gg, h, Bool.and_true]
theorem Gm : ∀ {l : List AV}, ga l = true -> ga (flat l) = true
 | [], _ => by rw [Uy, gg]
 | x :: l, h => by
  simp only [ft, dw] at h
  rw [l9, Fh, Nu h.1, Gm h.2]; rfl
theorem a6x {n : Nat} {s : ASt} {l : List AV} {t : Tl} (h : ga l = true) : frz n s (.sl l t) = s := by
 cases n with
 | zero => rfl
 | succ n =>
  cases ht : t.pure with
  | true => exact Bx (by rw [lk, ht, h]; rfl)
  | false =>
   rw [frz]
   simp only [lk, ht, ei, dx, if_false]
   exact yr (Gm h)
theorem Pd {s : ASt} {l : List AV} {t : Tl} : Af s (.sl l t) = some l := Eq.trans rfl rfl
theorem Wn {s : ASt} {b : ByteArray} : Af s (.v (.string b)) = some (b.toList.map λ c => .v (.int .u8 c.toNat)) := Eq.trans rfl rfl
theorem Sd {s : ASt} {l : List AV} {t : Tl} : ko s (.sl l t) = some l := Eq.trans rfl rfl
end
section
variable {md : FuncId -> Md} {pfs : FuncId -> Option PF}
theorem Out.nj {f : FuncId} {args args' : List AV} {PR : AV -> Prop} (h : Out md pfs f args' PR λ _ => False) (hm : md f = .pure) {s : ASt} (hp : im (gi 20 s) args = some args') : ∃ v, PR v /\ ∀ K KP, CW (run md pfs) md false s f args K KP () = K v (args.foldl (frz 20) s) := by
 obtain ⟨out, s', out', h1, h2, h3⟩ := h
 cases out' with
 | pan v => exact h3.elim
 | ret v => exact ⟨v, h3, λ K KP => by simp [CW, ln, hm, hp, h1, h2]⟩
end
end Go.Proofs.Eng
namespace Go.Proofs.Eng
open Go
theorem s7 {α : Type} {H l : List α} : (H ++ l)[H.length]? = l[0]? := by rw [af (dh _), Nat.sub_self]
theorem ue {α : Type} {H l : List α} {k : Nat} : (H ++ l)[H.length + k]? = l[k]? := by rw [af (Nat.le_add_right _ _), Nat.add_sub_cancel_left]
theorem Ku {α : Type} {H l : List α} {y : α} : (H ++ l).set H.length y = H ++ l.set 0 y := by rw [List.set_append_right _ _ (dh _), Nat.sub_self]
theorem Dd {α : Type} {H l : List α} {k : Nat} {y : α} : (H ++ l).set (H.length + k) y = H ++ l.set k y := by rw [List.set_append_right _ _ (Nat.le_add_right _ _), Nat.add_sub_cancel_left]
theorem gz {α : Type} {H : List α} {i : Nat} {x : α} (h : H[i]? = some x) (l : List α) : (H ++ l)[i]? = some x := by
 rw [ae (List.getElem?_eq_some_iff.1 h).1]; exact h
theorem fy {α : Type} {H : List α} {i : Nat} {x : α} (h : H[i]? = some x) : i < H.length := (List.getElem?_eq_some_iff.1 h).1
def Fy (H : List fp) (s : ASt) : Prop := ∃ G T, s = ⟨H ++ G, T⟩
section
variable {md : FuncId -> Md} {pfs : FuncId -> Option PF}
def Sh (md : FuncId -> Md) (pfs : FuncId -> Option PF) (f : FuncId) (args : List AV) (s : ASt) (PR PP : AV -> ASt -> Prop) : Prop :=
 ∃ out s1 out', run md pfs f args s = some (out, s1) /\ out.gi 20 s1 = some out' /\ match out' with | .ret v => PR v (out.frz 20 s1) | .pan v => PP v (out.frz 20 s1)
def SQ (res : List PR) (PR PP : AV -> ASt -> Prop) : fu -> St -> Prop
 | .pan v, st => st.df = [] /\ ∃ v', gi 20 st.s v = some v' /\ PP v' (frz 20 st.s v)
 | .exit _, _ => False
 | _, st => st.df = [] /\ ∃ l, ma st.tm st.s res = some l /\ ∃ v', gi 20 st.s (qf l) = some v' /\ PR v' (frz 20 st.s (qf l))
theorem a44 {res : List PR} {PR PP : AV -> ASt -> Prop} {st : St} : SQ res PR PP .ret st = (st.df = [] /\ ∃ l, ma st.tm st.s res = some l /\ ∃ v', gi 20 st.s (qf l) = some v' /\ PR v' (frz 20 st.s (qf l))) := rfl
theorem R8 {res : List PR} {PR PP : AV -> ASt -> Prop} {st : St} : SQ res PR PP .normal st = (st.df = [] /\ ∃ l, ma st.tm st.s res = some l /\ ∃ v', gi 20 st.s (qf l) = some v' /\ PR v' (frz 20 st.s (qf l))) := rfl
theorem a4w {res : List PR} {PR PP : AV -> ASt -> Prop} {v : AV} {st : St} : SQ res PR PP (.pan v) st = (st.df = [] /\ ∃ v', gi 20 st.s v = some v' /\ PP v' (frz 20 st.s v)) := rfl
theorem jz {f : FuncId} {pf : PF} (hp : pfs f = some pf) {args : List AV} {s : ASt} {PR PP : AV -> ASt -> Prop} (hn : args.length <= pf.nt) (h : W (run md pfs) md pf.body ⟨tmE pf.nt (tw args), [], s⟩ (SQ pf.res PR PP) ()) : Sh md pfs f args s PR PP := by
 unfold Sh
 rw [run_eq hp (Pe h)]
 unfold E8
 rw [E4 args pf.nt hn]
 unfold W at h
 cases hx : ij (run md pfs) md (oj (run md pfs) md) pf.body ⟨tmE pf.nt (tw args), [], s⟩ with
 | none => rw [hx] at h; exact h.elim
 | some x =>
  obtain ⟨r, st⟩ := x
  obtain ⟨tm, df, s⟩ := st
  rw [hx] at h
  cases r with
  | exit i => exact h.elim
  | pan v =>
   obtain ⟨h1, v', h2, h3⟩ := h
   simp only at h1; subst h1
   exact ⟨.pan v, s, .pan v', by simp only [List.isEmpty_nil, dy, ej, dx, if_false]; rfl, by simp only [jt.gi]; rw [h2]; rfl, h3⟩
  | normal =>
   obtain ⟨h1, l, h2, v', h3, h4⟩ := h
   simp only at h1; subst h1
   refine ⟨.ret (qf l), s, .ret v', ?_, by simp only [jt.gi]; rw [h3]; rfl, h4⟩
   simp only [List.isEmpty_nil, dy, ej, dx, if_false]
   show (ma tm s pf.res).map _ = _
   simp only at h2
   rw [h2]; rfl
  | ret =>
   obtain ⟨h1, l, h2, v', h3, h4⟩ := h
   simp only at h1; subst h1
   refine ⟨.ret (qf l), s, .ret v', ?_, by simp only [jt.gi]; rw [h3]; rfl, h4⟩
   simp only [List.isEmpty_nil, dy, ej, dx, if_false]
   show (ma tm s pf.res).map _ = _
   simp only at h2
   rw [h2]; rfl
theorem Sh.call {f : FuncId} {args : List AV} {s : ASt} {PR PP : AV -> ASt -> Prop} (h : Sh md pfs f args s PR PP) (hm : md f = .shared) : (∃ v s', PR v s' /\ ∀ K KP, CW (run md pfs) md false s f args K KP () = K v s') \/ (∃ v s', PP v s' /\ ∀ K KP, CW (run md pfs) md false s f args K KP () = KP v s') := by
 obtain ⟨out, s1, out', h1, h2, h3⟩ := h
 cases out' with
 | ret v => exact .inl ⟨v, _, h3, λ K KP => by simp [CW, ln, hm, h1, h2]⟩
 | pan v => exact .inr ⟨v, _, h3, λ K KP => by simp [CW, ln, hm, h1, h2]⟩
theorem Sh.mono {f : FuncId} {args : List AV} {s : ASt} {PR PP PR' PP' : AV -> ASt -> Prop} (h : Sh md pfs f args s PR PP) (h1 : ∀ v s, PR v s -> PR' v s) (h2 : ∀ v s, PP v s -> PP' v s) : Sh md pfs f args s PR' PP' := by
 obtain ⟨out, s1, out', e1, e2, e3⟩ := h
 refine ⟨out, s1, out', e1, e2, ?_⟩
 cases out' with
 | ret v => exact h1 _ _ e3
 | pan v => exact h2 _ _ e3
theorem Out.a1z {f : FuncId} {args : List AV} {PP : AV -> Prop} (h : Out md pfs f args (λ _ => False) PP) (hm : md f = .pure) (ha : ga args = true) : ∃ v, PP v /\ ∀ pm s K KP, CW (run md pfs) md pm s f args K KP () = KP v s := by
 rcases h.call2 hm ha with ⟨_, h, _⟩ | h
 ·exact h.elim
 ·exact h
def LW (md : FuncId -> Md) (pfs : FuncId -> Option PF) (res : List PR) (P : jt -> ASt -> Prop) : fu -> St -> Prop
 | .exit _, _ => False
 | .pan v, st => ∃ x, jq (run md pfs) md pfs res st (some v) = some x /\ P x.1 x.2
 | _, st => ∃ x, jq (run md pfs) md pfs res st none = some x /\ P x.1 x.2
theorem a3e {res : List PR} {P : jt -> ASt -> Prop} {st : St} : LW md pfs res P .ret st = ∃ x, jq (run md pfs) md pfs res st none = some x /\ P x.1 x.2 := rfl
theorem a2y {res : List PR} {P : jt -> ASt -> Prop} {st : St} {v : AV} : LW md pfs res P (.pan v) st = ∃ x, jq (run md pfs) md pfs res st (some v) = some x /\ P x.1 x.2 := rfl
theorem Re {f : FuncId} {pf : PF} (hp : pfs f = some pf) {args : List AV} {s : ASt} {P : jt -> ASt -> Prop} (hn : args.length <= pf.nt) (h : W (run md pfs) md pf.body ⟨tmE pf.nt (tw args), [], s⟩ (LW md pfs pf.res P) ()) (hq : pf.body.oy = false := by rfl) : ∃ out s1, run md pfs f args s = some (out, s1) /\ P out s1 := by
 rw [run_eq hp (Pe h)]
 unfold E8
 rw [E4 args pf.nt hn]
 unfold W at h
 cases hx : ij (run md pfs) md (oj (run md pfs) md) pf.body ⟨tmE pf.nt (tw args), [], s⟩ with
 | none => rw [hx] at h; exact h.elim
 | some x =>
  obtain ⟨r, st⟩ := x
  rw [hx] at h
  cases r with
  | exit i => exact h.elim
  | pan v => obtain ⟨⟨o, s1⟩, h1, h2⟩ := h; exact ⟨o, s1, by simp only [hq, ei, dx, if_false]; exact h1, h2⟩
  | normal => obtain ⟨⟨o, s1⟩, h1, h2⟩ := h; exact ⟨o, s1, by simp only [hq, ei, dx, if_false]; exact h1, h2⟩
  | ret => obtain ⟨⟨o, s1⟩, h1, h2⟩ := h; exact ⟨o, s1, by simp only [hq, ei, dx, if_false]; exact h1, h2⟩
end
end Go.Proofs.Eng
namespace Go.Proofs.Eng
open Go
set_option maxRecDepth 10000
def fh := And.intro @a2l (And.intro @a6r (And.intro @a5v (And.intro @a7j (And.intro @a43 (And.intro @Dx (And.intro @a84 (And.intro @a7t (And.intro @a8k (And.intro @a7s (And.intro @a8m (And.intro @a7z (And.intro @a8d (And.intro @a82 (And.intro @a88 (And.intro @a5x (And.intro @Yn (And.intro @a5n (And.intro @Y2 (And.intro @Uf (And.intro @Nb (And.intro @a4u (And.intro @a0p (And.intro @a4z (And.intro @Y4 (And.intro @a8c (@a80))))))))))))))))))))))))))
def a8j := And.intro @a8b (And.intro @a86 (And.intro @a3l (And.intro @Za (And.intro @Ua (And.intro @a2x (And.intro @a32 (And.intro @a6f (And.intro @a0l (And.intro @Qp (And.intro @a73 (And.intro @Vc (And.intro @Vx (And.intro @Sw (And.intro @U6 (And.intro @Tb (And.intro @Zt (And.intro @a5e (And.intro @a1w (And.intro @a64 (And.intro @a17 (And.intro @Wy (And.intro @a4k (And.intro @Th (And.intro @a6h (And.intro @a1c (And.intro @Xm (And.intro @Ts (And.intro @a69 (And.intro @a6c (And.intro @a3w (And.intro @a2u (And.intro @Yc (And.intro @a7b (And.intro @a2a (And.intro @a1d (And.intro @a16 (And.intro @Ur (And.intro @T6 (And.intro @Ug (And.intro @Vd (And.intro @Rx (And.intro @Z5 (And.intro @Y9 (And.intro @Y0 (And.intro @Td (And.intro @a5g (And.intro @Yj (And.intro @Zk (And.intro @a38 (And.intro @Uu (And.intro @Jz (And.intro @Gs (And.intro @Zi (And.intro @a1r (And.intro @a2z (And.intro @a4t (And.intro @V9 (And.intro @a33 (And.intro @Wc (And.intro @a7i (And.intro @a7g (And.intro @a6o (And.intro @a6n (And.intro @a04 (And.intro @a0i (And.intro @tf (And.intro @Rl (And.intro @Ol (And.intro @a0h (And.intro @Wo (And.intro @Vy (And.intro @Rn (And.intro @R6 (And.intro @Wl (And.intro @U0 (And.intro @Vs (And.intro @Sr (And.intro @T3 (And.intro @Vh (And.intro @Tz (And.intro @Vt (And.intro @Lr (And.intro @Kj (And.intro @I5 (And.intro @a0n (And.intro @Wb (And.intro @Oc (And.intro @a1t (And.intro @a19 (And.intro @Y8 (And.intro @O3 (And.intro @a39 (And.intro @Rm (And.intro @a41 (And.intro @Du (And.intro @j8 (And.intro @ku (And.intro @lk (And.intro @m5 (And.intro @Hz (And.intro @Bp (And.intro @yf (And.intro @Pn (And.intro @gg (And.intro @ft (And.intro @a3i (And.intro @a1o (And.intro @a5z (And.intro @Ez (And.intro @Rf (And.intro @a2g (And.intro @Uz (And.intro @Ww (And.intro @Ul (And.intro @yp (And.intro @a2b (And.intro @a5o (And.intro @a3x (And.intro @Vp (And.intro @Mb (And.intro @a7n (And.intro @a7d (And.intro @a6x (And.intro @Pd (And.intro @Wn (And.intro @Sd (And.intro @Hr (And.intro @a44 (And.intro @R8 (And.intro @a4w (And.intro @Xu (And.intro @a4x (And.intro @Yg (And.intro @a6u (And.intro @a7l (And.intro @Yb (And.intro @a4e (And.intro @Zd (And.intro @Xk (And.intro @a4o (And.intro @X3 (And.intro @a3z (And.intro @a6e (And.intro @a4q (And.intro @a6b (And.intro @a71 (And.intro @a1e (And.intro @a1y (And.intro @T5 (And.intro @T4 (And.intro @Yh (And.intro @Zh (And.intro @a5p (@Tv))))))))))))))))))))))))))))))))))))))))))))))))))))))))))))))))))))))))))))))))))))))))))))))))))))))))))))))))))))))))))))))))))))))))))))))))))))))))))
def a7c := And.intro @not_false_eq_true (And.intro @Option.map_some.{0,0} (And.intro @Option.bind_some.{0,0} (And.intro @Option.some.injEq.{0} (And.intro @Bool.false_eq_true (And.intro @List.nil_append.{0} (And.intro @List.cons_append.{0} (And.intro @List.length_cons.{0} (And.intro @List.length_nil.{0} (And.intro @List.getElem?_cons_zero.{0} (And.intro @List.getElem?_cons_succ.{0} (And.intro @List.set_cons_zero.{0} (And.intro @List.set_cons_succ.{0} (And.intro @List.drop_zero.{0} (And.intro @List.drop_succ_cons.{0} (And.intro @List.take_zero.{0} (And.intro @List.take_succ_cons.{0} (And.intro @List.take_nil.{0} (And.intro @List.drop_nil.{0} (And.intro @List.append_nil.{0} (And.intro @Nat.zero_add (And.intro @Nat.add_zero (And.intro @and_true (And.intro @true_and (And.intro @List.all_cons.{0} (And.intro @List.all_nil.{0} (And.intro @Bool.and_true (And.intro @Bool.true_and (And.intro @List.getD_cons_zero.{0} (And.intro @List.getD_cons_succ.{0} (And.intro @List.getD_nil.{0} (And.intro @List.head?_cons.{0} (And.intro @decide_eq_true_eq (And.intro @decide_eq_false_iff_not (And.intro @List.getElem?_concat_length.{0} (And.intro @Int.toNat_natCast (And.intro @Nat.le_refl (And.intro @Int.le_refl (And.intro @List.head?_nil.{0} (And.intro @Option.ite_none_right_eq_some.{0} (And.intro @and_self (And.intro @Bool.not_true (And.intro @Bool.not_false (And.intro @Option.isSome_some.{0} (And.intro @Option.isSome_none.{0} (And.intro @Bool.xor_false (And.intro @Bool.false_xor (And.intro @Bool.true_xor (And.intro @Bool.xor_true (And.intro @beq_self_eq_true.{0} (And.intro @bne_self_eq_false.{0} (And.intro @decide_true (And.intro @decide_false (And.intro @Option.getD_some.{0} (And.intro @Nat.zero_le (And.intro @Int.natCast_nonneg (And.intro @List.foldl_cons.{0,0} (And.intro @List.foldl_nil.{0,0} (And.intro @Bool.and_false (And.intro @Bool.false_and (And.intro @List.replicate_succ.{0} (And.intro @List.replicate_zero.{0} (And.intro @Nat.zero_div (And.intro @Nat.zero_mul (And.intro @Nat.lt_add_one (And.intro @Nat.zero_lt_succ (And.intro @Nat.lt_irrefl (And.intro @Int.cast_ofNat_Int (And.intro @Int.toNat_zero (And.intro @Int.toNat_one (And.intro @List.contains_cons.{0} (And.intro @List.contains_nil.{0} (And.intro @Bool.or_false (And.intro @Bool.or_true (And.intro @Bool.false_or (@Bool.true_or)))))))))))))))))))))))))))))))))))))))))))))))))))))))))))))))))))))))))))
end Go.Proofs.Eng
namespace Go.Proofs.Eng
open Go
def Ph (es : Nat) (l : List AV) : Prop := ∀ x ∈ l, ∃ c, x = .agg c /\ c.length = es /\ c.all gv = true
theorem Ph.set {es : Nat} {l : List AV} (h : Ph es l) (m : Nat) {c : List AV} (hc : c.length = es) (ho : c.all gv = true) : Ph es (l.set m (.agg c)) := by
 intro x hx
 rcases List.mem_or_eq_of_mem_set hx with h1 | rfl
 ·exact h x h1
 ·exact ⟨c, rfl, hc, ho⟩
theorem LIs.rows {α : Type} {R : α -> AV -> Prop} {es : Nat} (hR : Lu R es) : ∀ {l : List α} {al : List AV}, LIs R l al -> Ph es al
 | [], [], _ => λ x hx => by simp at hx
 | a :: l, b :: al, h => λ x hx => by
  simp only [LIs] at h
  rcases List.mem_cons.1 hx with rfl | hx
  ·exact hR.cells h.1
  ·exact LIs.rows hR h.2 x hx
 | [], _ :: _, h => by simp [LIs] at h
 | _ :: _, [], h => by simp [LIs] at h
end Go.Proofs.Eng
