/- The engine's calculus, ninth part: what holds behind code, computed from the code's end. No conditions. -/
import Derived.Test.YtflfmkkcnphdcaaGreatG4
import Derived.IntWalk
set_option linter.all false
set_option linter.deprecated false
set_option linter.unnecessarySimpa false
set_option linter.unusedVariables false
set_option linter.unusedSimpArgs false
set_option linter.defProp false
namespace Go.Proofs.Eng
abbrev Env := Nat → AV
def updE (e : Env) (d : Nat) (v : AV) : Env := fun n => if n = d then v else e n
def tmE (nt : Nat) (e : Env) : List AV := (List.range nt).map e
def argsE (l : List AV) : Env := fun n => l.getD n .undef
theorem tmE_get {nt n : Nat} {e : Env} (h : n < nt) : (tmE nt e)[n]? = some (e n) := by simp [tmE, h]
theorem evX_t {nt n : Nat} {e : Env} (h : n < nt) : evX (tmE nt e) (.t n) = some (e n) := tmE_get h
theorem evX_c {tm : List AV} {v : AV} : evX tm (.c v) = some v := by rw [evX]
theorem oz_mov {tm : List AV} {s : ASt} {x : X} : opA tm s (.mov x) = ((evX tm x).map (.val · s)) := Eq.trans rfl rfl
theorem oz_pick {tm : List AV} {s : ASt} {c : X} {a : X} {b : X} : opA tm s (.pick c a b) = (
  match evX tm c, evX tm a, evX tm b with
  | some (.v (.bool c)), some a, some b => some (.val (if c then a else b) s)
  | _, _, _ => none) := Eq.trans rfl rfl
theorem oz_alloc {tm : List AV} {s : ASt} {l : List AV} : opA tm s (.alloc l) = (some (.val (.ptr s.H.length 0) { s with H := s.H ++ [.cells false l] })) := Eq.trans rfl rfl
theorem oz_box {tm : List AV} {s : ASt} {x : X} : opA tm s (.box x) = ((evX tm x).bind fun a => if a.known then some (.val (.ptr s.H.length 0) { s with H := s.H ++ [.cells false a.cells] }) else none) := Eq.trans rfl rfl
theorem oz_build {tm : List AV} {s : ASt} {z : List AV} {ps : List (Nat × Nat × X)} : opA tm s (.build z ps) = ((fillA tm z ps).map fun l => .val (.agg l) s) := Eq.trans rfl rfl
theorem oz_bsl {tm : List AV} {s : ASt} {z : AV} {n : Nat} {ps : List (Nat × Nat × X)} : opA tm s (.bsl z n ps) = ((fillE tm z.cells.length (List.replicate n z) ps).map fun l => .val (.sl l (.cap n)) s) := Eq.trans rfl rfl
theorem oz_load {tm : List AV} {s : ASt} {ag : Bool} {n : Nat} {a : X} : opA tm s (.load ag n a) = (((evX tm a).bind (loadA s ag n)).map (.val · s)) := Eq.trans rfl rfl
theorem oz_store {tm : List AV} {s : ASt} {n : Nat} {a : X} {x : X} : opA tm s (.store n a x) = (
  match evX tm a, evX tm x with
  | some a, some x => (storeA s n x a).map (.val .undef ·)
  | _, _ => none) := Eq.trans rfl rfl
theorem oz_nilck {tm : List AV} {s : ASt} {x : X} : opA tm s (.nilck x) = (
  match evX tm x with
  | some (.ptr i o) => some (.val (.ptr i o) s)
  | some (.ip l o) => some (.val (.ip l o) s)
  | some (.fn f l) => some (.val (.fn f l) s)
  | some (.bm f l) => some (.val (.bm f l) s)
  | _ => none) := Eq.trans rfl rfl
theorem oz_bin {tm : List AV} {s : ASt} {op : BinOp} {x : X} {y : X} : opA tm s (.bin op x y) = (
  match evX tm x, evX tm y with
  | some a, some b => (binA op a b).map (.val · s)
  | _, _ => none) := Eq.trans rfl rfl
theorem oz_eqb {tm : List AV} {s : ASt} {neg : Bool} {x : X} {y : X} : opA tm s (.eqb neg x y) = (
  match evX tm x, evX tm y with
  | some (.v (.bool a)), some (.v (.bool b)) => some (.val (.bool (neg ^^ (a == b))) s)
  | _, _ => none) := Eq.trans rfl rfl
theorem oz_eqi {tm : List AV} {s : ASt} {neg : Bool} {x : X} {y : X} : opA tm s (.eqi neg x y) = (
  match evX tm x, evX tm y with
  | some a, some b => (eqiA y.isC a b).map fun r => .val (.bool (neg ^^ r)) s
  | _, _ => none) := Eq.trans rfl rfl
theorem oz_eqs {tm : List AV} {s : ASt} {neg : Bool} {x : X} {y : X} : opA tm s (.eqs neg x y) = (
  match evX tm x, evX tm y with
  | some a, some b => (eqsA a b).map fun r => .val (.bool (neg ^^ r)) s
  | _, _ => none) := Eq.trans rfl rfl
theorem oz_eqm {tm : List AV} {s : ASt} {neg : Bool} {x : X} {y : X} : opA tm s (.eqm neg x y) = (
  match evX tm x, evX tm y with
  | some a, some b => (eqmA a b).map fun r => .val (.bool (neg ^^ r)) s
  | _, _ => none) := Eq.trans rfl rfl
theorem oz_eqg {tm : List AV} {s : ASt} {neg : Bool} {ks : List Bool} {x : X} {y : X} : opA tm s (.eqg neg ks x y) = (
  match evX tm x, evX tm y with
  | some (.agg a), some (.agg b) => (eqgA ks a b).map fun r => .val (.bool (neg ^^ r)) s
  | _, _ => none) := Eq.trans rfl rfl
theorem oz_slcA {tm : List AV} {s : ASt} {n es : Nat} {ag : Bool} {x : X} {hi : Option X} : opA tm s (.slcA n es ag x hi) = (
  none) := Eq.trans rfl rfl
theorem oz_appl {tm : List AV} {s : ASt} {es : Nat} {x y n v d : X} : opA tm s (.appl es x y n v d) = (
  match evX tm x, (evX tm y).bind (srcA s), evX tm n, evX tm v, evX tm d with
  | some (.sl l t), some [z], some (.v (.int _ k)), some q, some _ =>
   if k = l.length ∧ z.cells.length = es ∧ z.cells.all oneCell = true then (appB s es l t [q]).map fun (a, s) => .val a s else none
  | _, _, _, _, _ => none) := Eq.trans rfl rfl
theorem oz_un {tm : List AV} {s : ASt} {op : UnOp} {x : X} : opA tm s (.un op x) = (((evX tm x).bind (unA op)).map (.val · s)) := Eq.trans rfl rfl
theorem oz_conv {tm : List AV} {s : ASt} {k : IntKind} {x : X} : opA tm s (.conv k x) = (
  match evX tm x with
  | some (.v (.int _ n)) => some (.val (.v (.int k (k.wrap n))) s)
  | _ => none) := Eq.trans rfl rfl
theorem oz_smov {tm : List AV} {s : ASt} {x : X} : opA tm s (.smov x) = (
  match evX tm x with
  | some (.v (.string b)) => some (.val (.str b) s)
  | _ => none) := Eq.trans rfl rfl
theorem oz_bstr {tm : List AV} {s : ASt} {x : X} : opA tm s (.bstr x) = (
  match (evX tm x).bind (elemsA s) with
  | some l => (bytesA l).map fun b => .val (.str ⟨b.toArray⟩) s
  | none => none) := Eq.trans rfl rfl
theorem oz_mkif {tm : List AV} {s : ASt} {t : TypeId} {x : X} : opA tm s (.mkif t x) = ((evX tm x).map fun a => .val (.iface t a) s) := Eq.trans rfl rfl
theorem oz_mkfn {tm : List AV} {s : ASt} {f : FuncId} {caps : List X} : opA tm s (.mkfn f caps) = ((mapO (evX tm) caps).map fun l => .val (.fn f l) s) := Eq.trans rfl rfl
theorem oz_mkbm {tm : List AV} {s : ASt} {f : FuncId} {caps : List X} : opA tm s (.mkbm f caps) = ((mapO (evX tm) caps).map fun l => .val (.bm f l) s) := Eq.trans rfl rfl
theorem oz_mkmap {tm : List AV} {s : ASt}  : opA tm s (.mkmap) = (some (.val (.mp s.H.length) { s with H := s.H ++ [.map []] })) := Eq.trans rfl rfl
theorem oz_mksl {tm : List AV} {s : ASt} {z : AV} {es : Nat} {ag : Bool} {x : X} : opA tm s (.mksl z es ag x) = (
  match evX tm x with
  | some (.v (.int .i64 n)) => if 0 ≤ n ∧ n ≤ 1073741824 then some (.val (.bs s.H.length 0 n.toNat es ag) { s with H := s.H ++ [.cells false (flat (List.replicate n.toNat z))] }) else none
  | _ => none) := Eq.trans rfl rfl
theorem oz_slice {tm : List AV} {s : ASt} {es : Nat} {x : X} {lo : Option X} {hi : Option X} {mx : Option X} : opA tm s (.slice es x lo hi mx) = (
  match evX tm x with
  | some (.sl l t) =>
   if l.all fun x => x.cells.length == es then
   match boundA l.length 0 lo tm, boundA l.length l.length hi tm with
   | some a, some b =>
    match mx with
    | none => (sliceA es l t a b none).map (.val · s)
    | some m => if hi.isSome then (boundA l.length 0 (some m) tm).bind fun m => (sliceA es l t a b (some m)).map (.val · s) else none
   | _, _ => none
   else none
  | some (.bs i off len es' ag) =>
   match boundA len 0 lo tm, boundA len len hi tm with
   | some a, some b => (cutB i off len es es' ag a b hi.isSome (mx.map (evX tm))).map (.val · s)
   | _, _ => none
  | _ => none) := Eq.trans rfl rfl
theorem oz_strsl {tm : List AV} {s : ASt} {x : X} {lo : Option X} {hi : Option X} : opA tm s (.strsl x lo hi) = (
  match evX tm x with
  | some (.v (.string b)) =>
   match boundA b.size 0 lo tm, boundA b.size b.size hi tm with
   | some l, some h => if l ≤ h then some (.val (.v (.string (b.extract l h))) s) else none
   | _, _ => none
  | _ => none) := Eq.trans rfl rfl
theorem oz_faddr {tm : List AV} {s : ASt} {d : Nat} {x : X} : opA tm s (.faddr d x) = (
  match evX tm x with
  | some (.ptr i o) => some (.val (.ptr i (o + d)) s)
  | some (.ip l o) => if o + d ≤ l.length then some (.val (.ip l (o + d)) s) else none
  | _ => none) := Eq.trans rfl rfl
theorem oz_fld {tm : List AV} {s : ASt} {ag : Bool} {off : Nat} {n : Nat} {x : X} : opA tm s (.fld ag off n x) = (
  match evX tm x with
  | some (.agg l) => (pickC ag n (l.drop off)).map (.val · s)
  | _ => none) := Eq.trans rfl rfl
theorem oz_iaddr {tm : List AV} {s : ASt} {es : Nat} {x : X} {ix : X} : opA tm s (.iaddr es x ix) = (
  match evX tm x, evX tm ix with
  | some (.sl l _), some (.v (.int _ n)) =>
   if 0 ≤ n ∧ (l.all fun x => x.cells.length == es) then (l[n.toNat]?).map fun e => .val (.ip e.cells 0) s else none
  | some (.bs i off len es' _), some (.v (.int _ n)) =>
   if 0 ≤ n ∧ n < len ∧ es = es' then some (.val (.ptr i (off + n.toNat * es)) s) else none
  | _, _ => none) := Eq.trans rfl rfl
theorem oz_iaddrA {tm : List AV} {s : ASt} {len : Nat} {es : Nat} {x : X} {ix : X} : opA tm s (.iaddrA len es x ix) = (
  match evX tm x, evX tm ix with
  | some (.ptr i o), some (.v (.int _ n)) => if 0 ≤ n ∧ n < len then some (.val (.ptr i (o + n.toNat * es)) s) else none
  | some (.ip l o), some (.v (.int _ n)) => if 0 ≤ n ∧ n < len ∧ o + n.toNat * es ≤ l.length then some (.val (.ip l (o + n.toNat * es)) s) else none
  | _, _ => none) := Eq.trans rfl rfl
theorem oz_idxA {tm : List AV} {s : ASt} {len : Nat} {es : Nat} {ag : Bool} {x : X} {ix : X} : opA tm s (.idxA len es ag x ix) = (
  match evX tm x, evX tm ix with
  | some (.agg l), some (.v (.int _ n)) => if 0 ≤ n ∧ n < len then (pickC ag es (l.drop (n.toNat * es))).map (.val · s) else none
  | _, _ => none) := Eq.trans rfl rfl
theorem oz_idxS {tm : List AV} {s : ASt} {x : X} {ix : X} : opA tm s (.idxS x ix) = (
  match evX tm x, evX tm ix with
  | some (.v (.string b)), some (.v (.int _ n)) => if 0 ≤ n then (b.toList[n.toNat]?).map fun c => .val (.v (.int .u8 c.toNat)) s else none
  | _, _ => none) := Eq.trans rfl rfl
theorem oz_look {tm : List AV} {s : ASt} {z : AV} {ok : Bool} {st : KK} {m : X} {k : X} : opA tm s (.look z ok st m k) = (
  match evX tm m, evX tm k with
  | some (.mp i), some k =>
   if keyOKM st k then
   match s.H[i]? with
   | some (.map es) =>
    if liveK s.H st k es then
    match lookA st k es with
    | some (some x) => some (.val (if ok then .tup [x, .bool true] else x) s)
    | some none => some (.val (if ok then .tup [z, .bool false] else z) s)
    | none => none
    else none
   | _ => none
   else none
  | _, _ => none) := Eq.trans rfl rfl
theorem oz_mapup {tm : List AV} {s : ASt} {st : KK} {m : X} {k : X} {x : X} : opA tm s (.mapup st m k x) = (
  match evX tm m, evX tm k, evX tm x with
  | some (.mp i), some k, some x =>
   if keyOKM st k then
   match s.H[i]? with
   | some (.map es) => if liveK s.H st k es then (upA st k x es).map fun es => .val .undef { s with H := s.H.set i (.map es) } else none
   | _ => none
   else none
  | _, _, _ => none) := Eq.trans rfl rfl
theorem oz_ext {tm : List AV} {s : ASt} {x : X} {i : Nat} : opA tm s (.ext x i) = (
  match evX tm x with
  | some (.tup l) => (l[i]?).map (.val · s)
  | _ => none) := Eq.trans rfl rfl
theorem oz_tass {tm : List AV} {s : ASt} {t : TypeId} {ok : Bool} {z : AV} {x : X} : opA tm s (.tass t ok z x) = (
  match evX tm x with
  | some (.iface u a) =>
   if u = t then some (.val (if ok then .tup [a, .bool true] else a) s)
   else if ok then some (.val (.tup [z, .bool false]) s) else none
  | some (.v .nilIface) => if ok then some (.val (.tup [z, .bool false]) s) else none
  | _ => none) := Eq.trans rfl rfl
theorem oz_call {tm : List AV} {s : ASt} {f : X} {args : List X} : opA tm s (.call f args) = (
  match evX tm f, mapO (evX tm) args with
  | some (.fn g caps), some l => some (.call g (l ++ caps))
  | some (.bm g fs), some l => some (.call g (fs ++ l))
  | _, _ => none) := Eq.trans rfl rfl
theorem oz_app {tm : List AV} {s : ASt} {es : Nat} {bs : Option Bool} {x : X} {y : X} : opA tm s (.app es bs x y) = (
  match evX tm x, (evX tm y).bind (srcA s) with
  | some (.sl l t), some xs => (appA s es bs l t xs).map fun (a, s) => .val a s
  | some (.bs i off len es' ag), some xs => if bs.isSome then (appW s es i off len es' ag xs).map fun (a, s) => .val a s else none
  | _, _ => none) := Eq.trans rfl rfl
def clnA (s : ASt) (es : Nat) (ag tl : Bool) (a : AV) : List AV → Option OpR
 | [] => some (.val (.sl [] (nilTl a)) s)
 | x :: l => if (x :: l).length ≤ 1073741824 ∧ ((x :: l).all fun x => x.cells.length == es && x.cells.all oneCell) then (match tl with
  | true => some (.val (.sl (x :: l) (.tl s.T.length 0)) { s with T := s.T ++ [0] })
  | false => some (.val (.bs s.H.length 0 (x :: l).length es ag) { s with H := s.H ++ [.cells false (flat (x :: l))] })) else none
theorem clnA_nil {s : ASt} {es : Nat} {ag tl : Bool} {a : AV} : clnA s es ag tl a [] = some (.val (.sl [] (nilTl a)) s) := Eq.trans rfl rfl
theorem clnA_cons {s : ASt} {es : Nat} {ag : Bool} {a x : AV} {l : List AV} : clnA s es ag false a (x :: l) = if (x :: l).length ≤ 1073741824 ∧ ((x :: l).all fun x => x.cells.length == es && x.cells.all oneCell) then some (.val (.bs s.H.length 0 (x :: l).length es ag) { s with H := s.H ++ [.cells false (flat (x :: l))] }) else none := Eq.trans rfl rfl
theorem oz_clone {tm : List AV} {s : ASt} {es : Nat} {ag tl : Bool} {x : X} : opA tm s (.clone es ag tl x) = (evX tm x).bind fun a => (elemsA s a).bind (clnA s es ag tl a) := by
 rw [opA]
 cases evX tm x with
 | none => rfl
 | some a =>
  simp only [Option.bind_some, Option.getD_some]
  cases elemsA s a with
  | none => rfl
  | some l => cases l <;> rfl
theorem oz_lenS {tm : List AV} {s : ASt} {x : X} : opA tm s (.lenS x) = (
  match evX tm x with
  | some (.sl l _) => some (.val (.int l.length) s)
  | some (.bs _ _ n _ _) => some (.val (.int n) s)
  | _ => none) := Eq.trans rfl rfl
theorem oz_capS {tm : List AV} {s : ASt} {x : X} : opA tm s (.capS x) = (
  match evX tm x with
  | some (.bs i off _ es _) => if 0 < es then some (.val (.cp i off es) s) else none
  | _ => none) := Eq.trans rfl rfl
theorem oz_eqp {tm : List AV} {s : ASt} {neg : Bool} {x : X} {y : X} : opA tm s (.eqp neg x y) = (
  match evX tm x, evX tm y with
  | some a, some b => (eqpA a b).map fun r => .val (.bool (neg ^^ r)) s
  | _, _ => none) := Eq.trans rfl rfl
theorem liveK_sc {H : List AObj} {b : Bool} {k : AV} {es : List (AV × AV)} : liveK H (.sc b) k es = true := rfl
theorem liveK_gr {H : List AObj} {b : List Bool} {k : AV} {es : List (AV × AV)} : liveK H (.gr b) k es = true := rfl
theorem oz_lenT {tm : List AV} {s : ASt} {x : X} : opA tm s (.lenT x) = (
  match evX tm x with
  | some (.v (.string b)) => some (.val (.int b.size) s)
  | _ => none) := Eq.trans rfl rfl
theorem oz_lenM {tm : List AV} {s : ASt} {x : X} : opA tm s (.lenM x) = (
  match evX tm x with
  | some (.mp i) =>
   match s.H[i]? with
   | some (.map es) => some (.val (.int es.length) s)
   | _ => none
  | _ => none) := Eq.trans rfl rfl
theorem oz_lenA {tm : List AV} {s : ASt} {n : Nat} : opA tm s (.lenA n) = (some (.val (.int n) s)) := Eq.trans rfl rfl
theorem oz_max {tm : List AV} {s : ASt} {x : X} {y : X} : opA tm s (.max x y) = (
  match evX tm x, evX tm y with
  | some (.v (.int k a)), some (.v (.int _ b)) => some (.val (.v (.int k (if b > a then b else a))) s)
  | _, _ => none) := Eq.trans rfl rfl
theorem oz_min {tm : List AV} {s : ASt} {x : X} {y : X} : opA tm s (.min x y) = (
  match evX tm x, evX tm y with
  | some (.v (.int k a)), some (.v (.int _ b)) => some (.val (.v (.int k (if b < a then b else a))) s)
  | _, _ => none) := Eq.trans rfl rfl
theorem oz_max3 {tm : List AV} {s : ASt} {x y z : X} : opA tm s (.max3 x y z) = (
  match evX tm x, evX tm y, evX tm z with
  | some (.v (.int k a)), some (.v (.int _ b)), some (.v (.int _ c)) => some (.val (.v (.int k (if c > (if b > a then b else a) then c else if b > a then b else a))) s)
  | _, _, _ => none) := Eq.trans rfl rfl
theorem oz_recov {tm : List AV} {s : ASt}  : opA tm s (.recov) = (some .recov) := Eq.trans rfl rfl
theorem oz_dfr {tm : List AV} {s : ASt} {f : X} {args : List X} : opA tm s (.dfr f args) = (
  match evX tm f, mapO (evX tm) args with
  | some (.fn g caps), some l => some (.dfr g (l ++ caps))
  | _, _ => none) := Eq.trans rfl rfl
theorem oz_panic {tm : List AV} {s : ASt} {x : X} : opA tm s (.panic x) = (
  match evX tm x with
  | some (.iface t a) => some (.panic (.iface t a))
  | _ => none) := Eq.trans rfl rfl
theorem put_t {nt d : Nat} {e : Env} {v : AV} : put (tmE nt e) (some d) v = tmE nt (updE e d v) := by
 apply List.ext_getElem?
 intro n
 simp only [put, tmE, List.getElem?_set, List.length_map, List.length_range, List.getElem?_map, updE]
 by_cases h : d = n
 ·subst h
  by_cases h2 : d < nt <;> simp [h2, updE]
 ·simp only [h, if_false]
  cases hr : (List.range nt)[n]? with
  | none => rfl
  | some m =>
   have hm : m = n := by
    rw [List.getElem?_eq_some_iff] at hr
    obtain ⟨h1, h2⟩ := hr
    simpa using h2.symm
   subst hm
   simp [updE, Ne.symm h]
theorem put_n {tm : List AV} {v : AV} : put tm none v = tm := rfl
theorem updE_eq {e : Env} {d : Nat} {v : AV} : updE e d v d = v := by simp [updE]
theorem updE_ne {e : Env} {d n : Nat} {v : AV} (h : n ≠ d) : updE e d v n = e n := by simp [updE, h]
theorem args_tm (l : List AV) (nt : Nat) (h : l.length ≤ nt) : l ++ List.replicate (nt - l.length) .undef = tmE nt (argsE l) := by
 apply List.ext_getElem?
 intro n
 simp only [tmE, argsE, List.getElem?_map]
 by_cases hn : n < nt
 ·rw [List.getElem?_range hn]
  simp only [Option.map_some]
  by_cases h1 : n < l.length
  ·rw [List.getElem?_append_left h1]; simp [h1, argsE]
  ·rw [List.getElem?_append_right (by omega), List.getElem?_replicate]
   simp [h1, show n - l.length < nt - l.length by omega, argsE]
 ·rw [List.getElem?_eq_none (by simp; omega), List.getElem?_eq_none (by simp; omega)]; rfl
theorem cells_agg {l : List AV} : (AV.agg l).cells = l := rfl
theorem known_agg {l : List AV} : (AV.agg l).known = true := rfl
theorem cells_v {x : Value} : (AV.v x).cells = [.v x] := rfl
theorem known_v {x : Value} : (AV.v x).known = true := rfl
theorem onec_v {x : Value} : oneCell (AV.v x) = true := rfl
theorem cells_ip {l : List AV} {o : Nat} : (AV.ip l o).cells = [.ip l o] := rfl
theorem known_ip {l : List AV} {o : Nat} : (AV.ip l o).known = true := rfl
theorem onec_ip {l : List AV} {o : Nat} : oneCell (AV.ip l o) = true := rfl
theorem cells_ptr {i o : Nat} : (AV.ptr i o).cells = [.ptr i o] := rfl
theorem known_ptr {i o : Nat} : (AV.ptr i o).known = true := rfl
theorem onec_ptr {i o : Nat} : oneCell (AV.ptr i o) = true := rfl
theorem cells_sl {l : List AV} {t : Tl} : (AV.sl l t).cells = [.sl l t] := rfl
theorem known_sl {l : List AV} {t : Tl} : (AV.sl l t).known = true := rfl
theorem onec_sl {l : List AV} {t : Tl} : oneCell (AV.sl l t) = true := rfl
theorem cells_bs {i o n es : Nat} {ag : Bool} : (AV.bs i o n es ag).cells = [.bs i o n es ag] := rfl
theorem known_bs {i o n es : Nat} {ag : Bool} : (AV.bs i o n es ag).known = true := rfl
theorem onec_bs {i o n es : Nat} {ag : Bool} : oneCell (AV.bs i o n es ag) = true := rfl
theorem cells_mp {i : Nat} : (AV.mp i).cells = [.mp i] := rfl
theorem known_mp {i : Nat} : (AV.mp i).known = true := rfl
theorem onec_mp {i : Nat} : oneCell (AV.mp i) = true := rfl
theorem cells_fn {f : FuncId} {l : List AV} : (AV.fn f l).cells = [.fn f l] := rfl
theorem cells_cp {i o es : Nat} : (AV.cp i o es).cells = [.cp i o es] := rfl
theorem known_cp {i o es : Nat} : (AV.cp i o es).known = true := rfl
theorem onec_cp {i o es : Nat} : oneCell (AV.cp i o es) = true := rfl
theorem cells_bm {f : FuncId} {l : List AV} : (AV.bm f l).cells = [.bm f l] := rfl
theorem known_fn {f : FuncId} {l : List AV} : (AV.fn f l).known = true := rfl
theorem known_bm {f : FuncId} {l : List AV} : (AV.bm f l).known = true := rfl
theorem onec_fn {f : FuncId} {l : List AV} : oneCell (AV.fn f l) = true := rfl
theorem onec_bm {f : FuncId} {l : List AV} : oneCell (AV.bm f l) = true := rfl
theorem cells_iface {t : TypeId} {x : AV} : (AV.iface t x).cells = [.iface t x] := rfl
theorem known_iface {t : TypeId} {x : AV} : (AV.iface t x).known = true := rfl
theorem onec_iface {t : TypeId} {x : AV} : oneCell (AV.iface t x) = true := rfl
theorem pv_v {x : Value} : pureAV (.v x) = true := Eq.trans rfl rfl
theorem pv_sl {l : List AV} {t : Tl} : pureAV (.sl l t) = (t.pure && pureAVs l) := by rw [pureAV]
theorem pv_agg {l : List AV} : pureAV (.agg l) = pureAVs l := by rw [pureAV]
theorem pv_tup {l : List AV} : pureAV (.tup l) = pureAVs l := by rw [pureAV]
theorem pv_iface {t : TypeId} {x : AV} : pureAV (.iface t x) = pureAV x := by rw [pureAV]
theorem pv_fn {f : FuncId} {l : List AV} : pureAV (.fn f l) = pureAVs l := by rw [pureAV]
theorem pv_bm {f : FuncId} {l : List AV} : pureAV (.bm f l) = pureAVs l := by rw [pureAV]
theorem pv_ip {l : List AV} {o : Nat} : pureAV (.ip l o) = pureAVs l := by rw [pureAV]
theorem pvs_nil : pureAVs [] = true := by rw [pureAVs]
theorem pvs_cons {x : AV} {l : List AV} : pureAVs (x :: l) = (pureAV x && pureAVs l) := by rw [pureAVs]
theorem tp_nil : Tl.pure .nil = true := Eq.trans rfl rfl
theorem tp_none : Tl.pure .none = true := Eq.trans rfl rfl
theorem tp_cap {n : Nat} : Tl.pure (.cap n) = true := Eq.trans rfl rfl
section
variable {c : Oracle} {md : FuncId → Md} {pfs : FuncId → Option PF}
def Fx1 {α : Sort _} (_ : α) : Type := Unit
def Fx2 {α β : Sort _} (_ : α) (_ : β) : Type := Unit
def Fx4 {α β γ δ : Sort _} (_ : α) (_ : β) (_ : γ) (_ : δ) : Type := Unit
def OW (o : Option OpR) (K : AV → ASt → Prop) (KC : FuncId → List AV → Prop) (KP : AV → Prop) (KD : FuncId → List AV → Prop) (_ : Fx4 K KC KP KD) : Prop :=
 match o with
 | some (.val v s) => K v s
 | some (.call f l) => KC f l
 | some (.panic v) => KP v
 | some (.dfr f l) => KD f l
 | _ => False
def GW (o : Option Bool) (A B : Prop) (_ : Fx2 A B) : Prop :=
 match o with
 | some b => (b = false → A) ∧ (b = true → B)
 | none => False
def IW (o : Option AV) (A B : Prop) (_ : Fx2 A B) : Prop :=
 match o with
 | some (.v (.bool t)) => (t = true → A) ∧ (t = false → B)
 | _ => False
def CW (c : Oracle) (md : FuncId → Md) (pm : Bool) (s : ASt) (f : FuncId) (args : List AV) (K KP : AV → ASt → Prop) (_ : Fx2 K KP) : Prop :=
 match callA c md pm s f args with
 | some (.ret v, s) => K v s
 | some (.pan v, s) => KP v s
 | none => False
def EW (o : Option (AExit × St)) (Q : AExit → St → Prop) (_ : Fx1 Q) : Prop :=
 match o with
 | some (r, st) => Q r st
 | none => False
def W (c : Oracle) (md : FuncId → Md) (b : PC) (st : St) (Q : AExit → St → Prop) (_ : Fx1 Q) : Prop := EW (execL c md (loopI c md) b st) Q ()
def WS (c : Oracle) (md : FuncId → Md) (l : List PI) (st : St) (Q : AExit → St → Prop) (_ : Fx1 Q) : Prop := EW (stepsA c md l st) Q ()
def LQ (J : St → Prop) (Q : AExit → St → Prop) : AExit → St → Prop
 | .normal, st => J st
 | .exit n, st => Q (.exit n) st
 | .ret, st => Q .ret st
 | .pan v, st => Q (.pan v) st
def BQ (n : Nat) (Q : AExit → St → Prop) : AExit → St → Prop
 | .exit i, st => if i = n then Q .normal st else Q (.exit i) st
 | .normal, st => Q .normal st
 | .ret, st => Q .ret st
 | .pan v, st => Q (.pan v) st
variable {st : St} {Q : AExit → St → Prop} {J : St → Prop} {K : AV → ASt → Prop} {KC : FuncId → List AV → Prop} {KP : AV → Prop} {KD : FuncId → List AV → Prop}
@[congr] theorem OW_congr {o o' : Option OpR} (h : True → o = o') : OW o K KC KP KD () = OW o' K KC KP KD () := by rw [h trivial]
@[congr] theorem GW_congr {o o' : Option Bool} {A B : Prop} (h : True → o = o') : GW o A B () = GW o' A B () := by rw [h trivial]
@[congr] theorem IW_congr {o o' : Option AV} {A B : Prop} (h : True → o = o') : IW o A B () = IW o' A B () := by rw [h trivial]
@[congr] theorem CW_congr {pm : Bool} {s s' : ASt} {f f' : FuncId} {args args' : List AV} {K KP : AV → ASt → Prop} (h1 : True → s = s') (h2 : True → f = f') (h3 : True → args = args') : CW c md pm s f args K KP () = CW c md pm s' f' args' K KP () := by rw [h1 trivial, h2 trivial, h3 trivial]
@[congr] theorem EW_congr {o o' : Option (AExit × St)} (h : True → o = o') : EW o Q () = EW o' Q () := by rw [h trivial]
@[congr] theorem W_congr {b : PC} {st' : St} (h : True → st = st') : W c md b st Q () = W c md b st' Q () := by rw [h trivial]
@[congr] theorem WS_congr {l : List PI} {st' : St} (h : True → st = st') : WS c md l st Q () = WS c md l st' Q () := by rw [h trivial]
@[congr] theorem LQ_congr {r r' : AExit} {st' : St} (h : True → r = r') (h2 : True → st = st') : LQ J Q r st = LQ J Q r' st' := by rw [h trivial, h2 trivial]
@[congr] theorem BQ_congr {n : Nat} {r r' : AExit} {st' : St} (h : True → r = r') (h2 : True → st = st') : BQ n Q r st = BQ n Q r' st' := by rw [h trivial, h2 trivial]
theorem LQ_n : LQ J Q .normal st = J st := rfl
theorem LQ_r : LQ J Q .ret st = Q .ret st := rfl
theorem LQ_e {n : Nat} : LQ J Q (.exit n) st = Q (.exit n) st := rfl
theorem LQ_p {v : AV} : LQ J Q (.pan v) st = Q (.pan v) st := rfl
theorem BQ_n {n : Nat} : BQ n Q .normal st = Q .normal st := rfl
theorem BQ_r {n : Nat} : BQ n Q .ret st = Q .ret st := rfl
theorem BQ_e {n : Nat} : BQ n Q (.exit n) st = Q .normal st := by simp [BQ]
theorem BQ_p {n : Nat} {v : AV} : BQ n Q (.pan v) st = Q (.pan v) st := rfl
theorem OW_val {v : AV} {s : ASt} : OW (some (.val v s)) K KC KP KD () = K v s := rfl
theorem OW_call {f : FuncId} {l : List AV} : OW (some (.call f l)) K KC KP KD () = KC f l := rfl
theorem OW_panic {v : AV} : OW (some (.panic v)) K KC KP KD () = KP v := rfl
theorem OW_dfr {f : FuncId} {l : List AV} : OW (some (.dfr f l)) K KC KP KD () = KD f l := rfl
theorem OW_ite {p : Prop} [Decidable p] {o : Option OpR} : OW (if p then o else none) K KC KP KD () = (p ∧ OW o K KC KP KD ()) := by
 by_cases h : p <;> simp [h, OW]
theorem OW_map {α : Type} {o : Option α} {g : α → OpR} : OW (o.map g) K KC KP KD () = ∃ x, o = some x ∧ OW (some (g x)) K KC KP KD () := by
 cases o <;> simp [OW]
theorem OW_bind {α : Type} {o : Option α} {g : α → Option OpR} : OW (o.bind g) K KC KP KD () = ∃ x, o = some x ∧ OW (g x) K KC KP KD () := by
 cases o <;> simp [OW]
theorem GW_t {A B : Prop} : GW (some true) A B () = B := by simp [GW]
theorem GW_f {A B : Prop} : GW (some false) A B () = A := by simp [GW]
theorem wanted_n {tm : List AV} : wantedA tm none = some true := by rw [wantedA]
theorem wanted_b {nt t : Nat} {e : Env} {w b : Bool} (h : t < nt) (h2 : e t = .v (.bool b)) : wantedA (tmE nt e) (some (t, w)) = some (b == w) := by simp only [wantedA, tmE_get h, h2]
theorem wanted_u {nt t : Nat} {e : Env} {w : Bool} (h : t < nt) (h2 : e t = .tup []) : wantedA (tmE nt e) (some (t, w)) = some false := by simp only [wantedA, tmE_get h, h2]
theorem W_skip : W c md .skip st Q () = Q .normal st := rfl
theorem W_exit {n : Nat} : W c md (.exit n) st Q () = Q (.exit n) st := rfl
theorem W_ret : W c md .ret st Q () = Q .ret st := rfl
theorem W_reg {l : List PI} : W c md (.reg l) st Q () = WS c md l st Q () := rfl
theorem W_seq {a b : PC} : W c md (.seq a b) st Q () = W c md a st (LQ (fun st' => W c md b st' Q ()) Q) () := by
 unfold W
 rw [execL]
 cases execL c md (loopI c md) a st with
 | none => rfl
 | some x =>
  obtain ⟨r, st'⟩ := x
  cases r <;> rfl
theorem W_block {n : Nat} {a : PC} : W c md (.block n a) st Q () = W c md a st (BQ n Q) () := by
 unfold W
 rw [execL]
 cases execL c md (loopI c md) a st with
 | none => rfl
 | some x =>
  obtain ⟨r, st'⟩ := x
  cases r with
  | exit i =>
   simp only [EW, BQ]
   by_cases h : i = n <;> simp [h]
  | _ => rfl
theorem W_if {x : X} {a b : PC} : W c md (.cond x a b) st Q () = IW (evX st.tm x) (W c md a st Q ()) (W c md b st Q ()) () := by
 unfold W
 rw [execL]
 cases h : evX st.tm x with
 | none => rfl
 | some v =>
  cases v with
  | v x =>
   cases x with
   | bool t => cases t <;> simp [IW]
   | _ => rfl
  | _ => rfl
theorem IW_t {A B : Prop} : IW (some (.v (.bool true))) A B () = A := by simp [IW]
theorem IW_f {A B : Prop} : IW (some (.v (.bool false))) A B () = B := by simp [IW]
theorem WS_nil : WS c md [] st Q () = Q .normal st := rfl
theorem WS_cons {i : PI} {l : List PI} {tm : List AV} {df : List (FuncId × List AV)} {s : ASt} : WS c md (i :: l) ⟨tm, df, s⟩ Q () =
  GW (wantedA tm i.g) (WS c md l ⟨put tm i.dst .undef, df, s⟩ Q ())
   (OW (opA tm s i.op) (fun v s => WS c md l ⟨put tm i.dst v, df, s⟩ Q ())
    (fun f args => CW c md false s f args (fun v s => WS c md l ⟨put tm i.dst v, df, s⟩ Q ()) (fun v s => Q (.pan v) ⟨tm, df, s⟩) ())
    (fun v => Q (.pan v) ⟨tm, df, s⟩)
    (fun f args => WS c md l ⟨put tm i.dst .undef, (f, args) :: df, s⟩ Q ()) ()) () := by
 unfold WS
 rw [stepsA, stepA]
 cases wantedA tm i.g with
 | none => rfl
 | some b =>
  cases b with
  | false => simp [GW]
  | true =>
   simp only [GW_t]
   cases opA tm s i.op with
   | none => rfl
   | some o =>
    cases o with
    | call f args =>
     simp only [OW, CW]
     cases callA c md false s f args with
     | none => rfl
     | some x =>
      obtain ⟨r, s'⟩ := x
      cases r <;> rfl
    | _ => rfl
def HW (o : Option (St × Option (AV × ASt))) (K : St → Prop) (KP : AV → ASt → Prop) (_ : Fx2 K KP) : Prop :=
 match o with
 | some (st', none) => K st'
 | some (_, some (v, s)) => KP v s
 | none => False
variable {L : St → Prop} {LP : AV → ASt → Prop} {hd : List PI} {i : PI} {l : List PI} {tm : List AV} {df : List (FuncId × List AV)} {s s0 : ASt} {k : Nat} {v0 : AV}
@[congr] theorem HW_congr {o o' : Option (St × Option (AV × ASt))} (h : True → o = o') : HW o L LP () = HW o' L LP () := by rw [h trivial]
@[congr] theorem headA_congr {p : Option (Nat × AV × ASt)} {st' : St} (h : True → st = st') : headA c md hd l st p = headA c md hd l st' p := by rw [h trivial]
theorem HW_nil : HW (headA c md hd [] st none) L LP () = L st := rfl
theorem HW_nil_p : HW (headA c md hd [] st (some (k, v0, s0))) L LP () = LP v0 s0 := rfl
theorem HW_cons : HW (headA c md hd (i :: l) ⟨tm, df, s⟩ none) L LP () =
  GW (wantedA tm i.g) (HW (headA c md hd l ⟨put tm i.dst .undef, df, s⟩ none) L LP ())
   (OW (opA tm s i.op) (fun v s' => HW (headA c md hd l ⟨put tm i.dst v, df, s'⟩ none) L LP ())
    (fun f args => CW c md true s f args (fun v s' => HW (headA c md hd l ⟨put tm i.dst v, df, s'⟩ none) L LP ()) (fun v _ => effOK hd i = true ∧ HW (headA c md hd l ⟨tm, df, s⟩ (some (i.ix, v, s))) L LP ()) ())
    (fun v => effOK hd i = true ∧ HW (headA c md hd l ⟨tm, df, s⟩ (some (i.ix, v, s))) L LP ())
    (fun f args => HW (headA c md hd l ⟨put tm i.dst .undef, (f, args) :: df, s⟩ none) L LP ()) ()) () := by
 rw [headA, stepA]
 cases wantedA tm i.g with
 | none => rfl
 | some b =>
  cases b with
  | false => simp [GW]
  | true =>
   simp only [GW_t]
   cases opA tm s i.op with
   | none => rfl
   | some o =>
    cases o with
    | call f args =>
     simp only [OW, CW]
     cases callA c md true s f args with
     | none => rfl
     | some x =>
      obtain ⟨r, s'⟩ := x
      cases r with
      | ret v => rfl
      | pan v =>
       simp only
       by_cases h : effOK hd i = true <;> simp [h, HW]
    | panic v =>
     simp only [OW]
     by_cases h : effOK hd i = true <;> simp [h, HW]
    | _ => rfl
theorem W_dreg_nil : W c md (.dreg [] l) st Q () = WS c md l st Q () := rfl
def PW (o : Option St) (K : St → Prop) (_ : Fx1 K) : Prop :=
 match o with
 | some st => K st
 | none => False
@[congr] theorem PW_congr {o o' : Option St} (h : True → o = o') : PW o L () = PW o' L () := by rw [h trivial]
@[congr] theorem runP_congr {st' : St} (h : True → st = st') : runP c md l st = runP c md l st' := by rw [h trivial]
theorem PW_nil : PW (runP c md [] st) L () = L st := rfl
theorem PW_cons : PW (runP c md (i :: l) ⟨tm, df, s⟩) L () =
  GW (wantedA tm i.g) (PW (runP c md l ⟨put tm i.dst .undef, df, s⟩) L ())
   (OW (opA tm s i.op) (fun v s' => PW (runP c md l ⟨put tm i.dst v, df, s'⟩) L ())
    (fun f args => CW c md true s f args (fun v s' => PW (runP c md l ⟨put tm i.dst v, df, s'⟩) L ()) (fun _ _ => False) ())
    (fun _ => False)
    (fun f args => PW (runP c md l ⟨put tm i.dst .undef, (f, args) :: df, s⟩) L ()) ()) () := by
 rw [runP, stepA]
 cases wantedA tm i.g with
 | none => rfl
 | some b =>
  cases b with
  | false => simp [GW]
  | true =>
   simp only [GW_t]
   cases opA tm s i.op with
   | none => rfl
   | some o =>
    cases o with
    | call f args =>
     simp only [OW, CW]
     cases callA c md true s f args with
     | none => rfl
     | some x =>
      obtain ⟨r, s'⟩ := x
      cases r <;> rfl
    | _ => rfl
def CK (i : PI) (tm : List AV) (s s' : ASt) : List PI → Prop
 | [] => True
 | j :: l => (i.pre.contains j.ix || j.op.kd == .S || stable tm s s' j.op) = true ∧ CK i tm s s' l
theorem CK_all {i : PI} {s' : ASt} : CK i tm s s' l = ((l.all fun j => i.pre.contains j.ix || j.op.kd == .S || stable tm s s' j.op) = true) := by
 induction l with
 | nil => simp [CK]
 | cons j l ih => rw [CK, ih]; simp only [List.all_cons, Bool.and_eq_true]
def JW (t : Bool) (A : Prop) : Prop := t = true ∨ A
theorem JW_t {A : Prop} : JW true A = True := by simp [JW]
theorem JW_f {A : Prop} : JW false A = A := by simp [JW]
theorem CK_nil {s' : ASt} : CK i tm s s' [] = True := rfl
@[congr] theorem JW_congr {t t' : Bool} {A : Prop} (h : True → t = t') : JW t A = JW t' A := by rw [h trivial]
theorem CK_cons {j : PI} {s' : ASt} : CK i tm s s' (j :: l) = (JW (j.op.kd == .S) (JW (i.pre.contains j.ix) (OW (opA tm s j.op) (fun v _ => OW (opA tm s' j.op) (fun v' _ => eqAV v v' = true) (fun _ _ => False) (fun _ => False) (fun _ _ => False) ()) (fun _ _ => False) (fun _ => False) (fun _ _ => False) ())) ∧ CK i tm s s' l) := by
 rw [CK]
 unfold JW
 cases hc : (i.pre.contains j.ix) with
 | true => simp
 | false =>
  cases hk : (j.op.kd == .S) with
  | true => simp
  | false =>
   simp only [Bool.false_or, Bool.false_eq_true, false_or]
   congr 1
   unfold stable
   cases opA tm s j.op with
   | none => simp [OW]
   | some r =>
    cases r with
    | val v z =>
     simp only [OW]
     cases opA tm s' j.op with
     | none => simp
     | some r' => cases r' <;> simp
    | _ => simp [OW]
theorem kz_mov (x : X) : ((PO.mov x).kd == .S) = true := Eq.trans rfl rfl
theorem kz_pick (c a b : X) : ((PO.pick c a b).kd == .S) = true := Eq.trans rfl rfl
theorem kz_build (z : List AV) (ps : List (Nat × Nat × X)) : ((PO.build z ps).kd == .S) = true := Eq.trans rfl rfl
theorem kz_bsl (z : AV) (n : Nat) (ps : List (Nat × Nat × X)) : ((PO.bsl z n ps).kd == .S) = true := Eq.trans rfl rfl
theorem kz_nilck (x : X) : ((PO.nilck x).kd == .S) = true := Eq.trans rfl rfl
theorem kz_bin (o : BinOp) (x y : X) : ((PO.bin o x y).kd == .S) = true := Eq.trans rfl rfl
theorem kz_eqb (n : Bool) (x y : X) : ((PO.eqb n x y).kd == .S) = true := Eq.trans rfl rfl
theorem kz_eqi (n : Bool) (x y : X) : ((PO.eqi n x y).kd == .S) = true := Eq.trans rfl rfl
theorem kz_eqs (n : Bool) (x y : X) : ((PO.eqs n x y).kd == .S) = true := Eq.trans rfl rfl
theorem kz_eqp (n : Bool) (x y : X) : ((PO.eqp n x y).kd == .S) = true := Eq.trans rfl rfl
theorem kz_capS (x : X) : ((PO.capS x).kd == .S) = true := Eq.trans rfl rfl
theorem kz_eqm (n : Bool) (x y : X) : ((PO.eqm n x y).kd == .S) = true := Eq.trans rfl rfl
theorem kz_un (o : UnOp) (x : X) : ((PO.un o x).kd == .S) = true := Eq.trans rfl rfl
theorem kz_conv (k : IntKind) (x : X) : ((PO.conv k x).kd == .S) = true := Eq.trans rfl rfl
theorem kz_smov (x : X) : ((PO.smov x).kd == .S) = true := Eq.trans rfl rfl
theorem kz_mkif (t : TypeId) (x : X) : ((PO.mkif t x).kd == .S) = true := Eq.trans rfl rfl
theorem kz_faddr (n : Nat) (x : X) : ((PO.faddr n x).kd == .S) = true := Eq.trans rfl rfl
theorem kz_fld (a : Bool) (n m : Nat) (x : X) : ((PO.fld a n m x).kd == .S) = true := Eq.trans rfl rfl
theorem kz_iaddr (n : Nat) (x y : X) : ((PO.iaddr n x y).kd == .S) = true := Eq.trans rfl rfl
theorem kz_lenS (x : X) : ((PO.lenS x).kd == .S) = true := Eq.trans rfl rfl
theorem kz_lenT (x : X) : ((PO.lenT x).kd == .S) = true := Eq.trans rfl rfl
theorem kz_ext (x : X) (n : Nat) : ((PO.ext x n).kd == .S) = true := Eq.trans rfl rfl
theorem kz_slice (n : Nat) (x : X) (lo hi mx : Option X) : ((PO.slice n x lo hi mx).kd == .S) = true := Eq.trans rfl rfl
theorem kz_load (a : Bool) (n : Nat) (x : X) : ((PO.load a n x).kd == .S) = false := Eq.trans rfl rfl
def KQ (i : PI) (l : List PI) (tm : List AV) (s : ASt) (J : St → Prop) (JP : AV → ASt → Prop) : AExit → St → Prop
 | .normal, st2 => CK i tm s st2.s l ∧ J st2
 | .pan v, st2 => JP v st2.s
 | _, _ => False
@[congr] theorem KQ_congr {J : St → Prop} {JP : AV → ASt → Prop} {r r' : AExit} {st' : St} (h : True → r = r') (h2 : True → st = st') : KQ i l tm s J JP r st = KQ i l tm s J JP r' st' := by rw [h trivial, h2 trivial]
theorem KQ_n {J : St → Prop} {JP : AV → ASt → Prop} {tm' : List AV} {s' : ASt} : KQ i l tm s J JP .normal ⟨tm', df, s'⟩ = (CK i tm s s' l ∧ J ⟨tm', df, s'⟩) := rfl
theorem KQ_p {J : St → Prop} {JP : AV → ASt → Prop} {tm' : List AV} {s' : ASt} {v : AV} : KQ i l tm s J JP (.pan v) ⟨tm', df, s'⟩ = JP v s' := rfl
theorem W_dreg_last {n : Nat} {ns : List Nat} (hn : n < 1000) (hl : l.drop n = []) : W c md (.dreg (n :: ns) l) st Q () =
  HW (headA c md (l.take n) (l.take n) st none) (fun st' => Q .normal st') (fun v s => Q (.pan v) { st with tm := unkAll (l.take n) st.tm, s }) () := by
 unfold W
 rw [execL, regA, if_pos hn, Nat.mod_eq_of_lt hn, hl]
 cases headA c md (l.take n) (l.take n) st none with
 | none => rfl
 | some x =>
  obtain ⟨st', p⟩ := x
  cases p <;> rfl
theorem W_dreg_cons {n : Nat} {ns : List Nat} {b : PI} {l' : List PI} (hn : n < 1000) (hl : l.drop n = b :: l') : W c md (.dreg (n :: ns) l) st Q () =
  HW (headA c md (l.take n) (l.take n) st none) (fun st' => WS c md [b] st' (LQ (fun st2 => W c md (.dreg ns l') st2 Q ()) Q) ()) (fun v s => Q (.pan v) { st with tm := unkAll (l.take n) st.tm, s }) () := by
 unfold W
 rw [execL, regA, if_pos hn, Nat.mod_eq_of_lt hn, hl]
 cases headA c md (l.take n) (l.take n) st none with
 | none => rfl
 | some x =>
  obtain ⟨st', p⟩ := x
  cases p with
  | some p => rfl
  | none =>
   simp only [HW, WS, stepsA]
   cases stepA c md false b st' with
   | none => rfl
   | some y =>
    obtain ⟨r, st2⟩ := y
    cases r <;> rfl
def DW (c : Oracle) (md : FuncId → Md) (ns : List Nat) (l : List PI) (st : St) (Q : AExit → St → Prop) (_ : Fx1 Q) : Prop :=
 match l with
 | [] => Q .normal st
 | b :: l' => WS c md [b] st (LQ (fun st2 => W c md (.dreg ns l') st2 Q ()) Q) ()
theorem DW_nil {ns : List Nat} : DW c md ns [] st Q () = Q .normal st := Eq.trans rfl rfl
theorem DW_cons {ns : List Nat} {b : PI} {l' : List PI} : DW c md ns (b :: l') st Q () = WS c md [b] st (LQ (fun st2 => W c md (.dreg ns l') st2 Q ()) Q) () := Eq.trans rfl rfl
theorem W_dreg {n : Nat} {ns : List Nat} (hn : n < 1000) : W c md (.dreg (n :: ns) l) st Q () =
  HW (headA c md (l.take n) (l.take n) st none) (fun st' => DW c md ns (l.drop n) st' Q ()) (fun v s => Q (.pan v) { st with tm := unkAll (l.take n) st.tm, s }) () := by
 cases hl : l.drop n with
 | nil => rw [W_dreg_last hn hl]; rfl
 | cons b l' => rw [W_dreg_cons hn hl]; rfl
def QW (c : Oracle) (md : FuncId → Md) (l1 l2 : List PI) (ns : List Nat) (lr la : List PI) (st0 st1 : St) (Q : AExit → St → Prop) (_ : Fx1 Q) : Prop :=
 match l2 with
 | [] => False
 | i :: l' => WS c md [i] st1 (KQ i l1 st1.tm st1.s (fun st2 => PW (runP c md l' st2) (fun st3 => DW c md ns lr st3 Q ()) ()) (fun v s => Q (.pan v) { st0 with tm := unkAll la st0.tm, s })) ()
theorem QW_cons {l1 l' lr la : List PI} {ns : List Nat} {st0 : St} : QW c md l1 (i :: l') ns lr la st0 ⟨tm, df, s⟩ Q () =
  WS c md [i] ⟨tm, df, s⟩ (KQ i l1 tm s (fun st2 => PW (runP c md l' st2) (fun st3 => DW c md ns lr st3 Q ()) ()) (fun v s => Q (.pan v) { st0 with tm := unkAll la st0.tm, s })) () := Eq.trans rfl rfl
theorem W_dregc {n : Nat} {ns : List Nat} (hn : 1000 ≤ n) (hn2 : n < 1001000) : W c md (.dreg (n :: ns) l) st Q () =
  PW (runP c md ((l.take (n % 1000)).take (n / 1000 - 1)) st) (fun st1 => QW c md ((l.take (n % 1000)).take (n / 1000 - 1)) ((l.take (n % 1000)).drop (n / 1000 - 1)) ns (l.drop (n % 1000)) (l.take (n % 1000)) st st1 Q ()) () := by
 unfold W
 rw [execL, regA, if_neg (by omega)]
 rw [callP, if_pos (by omega)]
 generalize l.take (n % 1000) = l1
 generalize l.drop (n % 1000) = lr
 unfold callP0
 cases runP c md (l1.take (n / 1000 - 1)) st with
 | none => rfl
 | some st1 =>
  simp only [PW]
  cases l1.drop (n / 1000 - 1) with
  | nil => rfl
  | cons i l' =>
   simp only [QW, WS, stepsA]
   cases stepA c md false i st1 with
   | none => rfl
   | some y =>
    obtain ⟨r, st2⟩ := y
    cases r with
    | normal =>
     by_cases h : ((l1.take (n / 1000 - 1)).all fun j => i.pre.contains j.ix || j.op.kd == .S || stable st1.tm st1.s st2.s j.op) = true
     ·have hk : ∀ {J : St → Prop} {JP : AV → ASt → Prop}, KQ i (l1.take (n / 1000 - 1)) st1.tm st1.s J JP .normal st2 = J st2 := by
       intro J JP
       rw [KQ, CK_all, eq_true h, true_and]
      simp only [EW, h, if_true]
      rw [hk]
      cases runP c md l' st2 with
      | none => rfl
      | some st3 =>
       simp only [Option.map_some]
       cases lr with
       | nil => rfl
       | cons b l2 =>
        simp only [DW, WS, stepsA, PW]
        cases stepA c md false b st3 with
        | none => rfl
        | some y => obtain ⟨r, st4⟩ := y; cases r <;> rfl
     ·have hk : ∀ {J : St → Prop} {JP : AV → ASt → Prop}, KQ i (l1.take (n / 1000 - 1)) st1.tm st1.s J JP .normal st2 = False := by
       intro J JP
       rw [KQ, CK_all, eq_false h, false_and]
      simp only [EW, h]
      rw [hk]
      rfl
    | pan v => rfl
    | _ => rfl
def MW (c : Oracle) (md : FuncId → Md) (l : List PI) (tm : List AV) (df : List (FuncId × List AV)) (H : List AObj) (T : List Nat) (Z : List AObj) (K : St → Prop) (_ : Fx1 K) : Prop :=
 match mkP c md l tm ⟨H, T⟩ Z with
 | some (tm', Z') => K ⟨tm', df, ⟨H ++ Z', T⟩⟩
 | none => False
@[congr] theorem MW_congr {l : List PI} {tm tm' : List AV} {df : List (FuncId × List AV)} {H H' Z Z' : List AObj} {T T' : List Nat} {K : St → Prop} (h1 : True → tm = tm') (h2 : True → H = H') (h3 : True → T = T') (h4 : True → Z = Z') : MW c md l tm df H T Z K () = MW c md l tm' df H' T' Z' K () := by rw [h1 trivial, h2 trivial, h3 trivial, h4 trivial]
def M1 (b : Bool) (A B : Prop) (_ : Fx2 A B) : Prop := if b = true then A else B
@[congr] theorem M1_congr {b b' : Bool} {A B : Prop} (h : True → b = b') : M1 b A B () = M1 b' A B () := by rw [h trivial]
theorem M1_t {A B : Prop} : M1 true A B () = A := by simp [M1]
theorem M1_f {A B : Prop} : M1 false A B () = B := by simp [M1]
def M2 (o : PO) (A B : Prop) (_ : Fx2 A B) : Prop := if (o.kd == .R) = true then A else B
@[congr] theorem M2_congr {o : PO} {A B : Prop} : M2 o A B () = M2 o A B () := rfl
def M3 (o : Option (AV × AObj)) (K : AV → AObj → Prop) (_ : Fx1 K) : Prop :=
 match o with
 | some (v, ob) => K v ob
 | none => False
@[congr] theorem M3_congr {o o' : Option (AV × AObj)} {K : AV → AObj → Prop} (h : True → o = o') : M3 o K () = M3 o' K () := by rw [h trivial]
theorem pk_mov (x : X) : (PO.mov x).plainK = true := Eq.trans rfl rfl
theorem pk_pick (c a b : X) : (PO.pick c a b).plainK = true := Eq.trans rfl rfl
theorem pk_build (z : List AV) (ps : List (Nat × Nat × X)) : (PO.build z ps).plainK = true := Eq.trans rfl rfl
theorem pk_bsl (z : AV) (n : Nat) (ps : List (Nat × Nat × X)) : (PO.bsl z n ps).plainK = true := Eq.trans rfl rfl
theorem pk_nilck (x : X) : (PO.nilck x).plainK = true := Eq.trans rfl rfl
theorem pk_bin (o : BinOp) (x y : X) : (PO.bin o x y).plainK = true := Eq.trans rfl rfl
theorem pk_eqb (n : Bool) (x y : X) : (PO.eqb n x y).plainK = true := Eq.trans rfl rfl
theorem pk_eqi (n : Bool) (x y : X) : (PO.eqi n x y).plainK = true := Eq.trans rfl rfl
theorem pk_eqs (n : Bool) (x y : X) : (PO.eqs n x y).plainK = true := Eq.trans rfl rfl
theorem pk_eqp (n : Bool) (x y : X) : (PO.eqp n x y).plainK = true := Eq.trans rfl rfl
theorem pk_capS (x : X) : (PO.capS x).plainK = true := Eq.trans rfl rfl
theorem pk_eqm (n : Bool) (x y : X) : (PO.eqm n x y).plainK = true := Eq.trans rfl rfl
theorem pk_eqg (n : Bool) (k : List Bool) (x y : X) : (PO.eqg n k x y).plainK = true := Eq.trans rfl rfl
theorem pk_un (o : UnOp) (x : X) : (PO.un o x).plainK = true := Eq.trans rfl rfl
theorem pk_conv (k : IntKind) (x : X) : (PO.conv k x).plainK = true := Eq.trans rfl rfl
theorem pk_smov (x : X) : (PO.smov x).plainK = true := Eq.trans rfl rfl
theorem pk_mkif (t : TypeId) (x : X) : (PO.mkif t x).plainK = true := Eq.trans rfl rfl
theorem pk_mkfn (f : FuncId) (l : List X) : (PO.mkfn f l).plainK = true := Eq.trans rfl rfl
theorem pk_mkbm (f : FuncId) (l : List X) : (PO.mkbm f l).plainK = true := Eq.trans rfl rfl
theorem pk_faddr (n : Nat) (x : X) : (PO.faddr n x).plainK = true := Eq.trans rfl rfl
theorem pk_fld (a : Bool) (n m : Nat) (x : X) : (PO.fld a n m x).plainK = true := Eq.trans rfl rfl
theorem pk_iaddr (n : Nat) (x y : X) : (PO.iaddr n x y).plainK = true := Eq.trans rfl rfl
theorem pk_iaddrA (l n : Nat) (x y : X) : (PO.iaddrA l n x y).plainK = true := Eq.trans rfl rfl
theorem pk_idxA (l n : Nat) (a : Bool) (x y : X) : (PO.idxA l n a x y).plainK = true := Eq.trans rfl rfl
theorem pk_idxS (x y : X) : (PO.idxS x y).plainK = true := Eq.trans rfl rfl
theorem pk_lenS (x : X) : (PO.lenS x).plainK = true := Eq.trans rfl rfl
theorem pk_lenT (x : X) : (PO.lenT x).plainK = true := Eq.trans rfl rfl
theorem pk_lenA (n : Nat) : (PO.lenA n).plainK = true := Eq.trans rfl rfl
theorem pk_ext (x : X) (n : Nat) : (PO.ext x n).plainK = true := Eq.trans rfl rfl
theorem pk_slice (n : Nat) (x : X) (lo hi mx : Option X) : (PO.slice n x lo hi mx).plainK = true := Eq.trans rfl rfl
theorem pk_strsl (x : X) (lo hi : Option X) : (PO.strsl x lo hi).plainK = true := Eq.trans rfl rfl
theorem pk_max (x y : X) : (PO.max x y).plainK = true := Eq.trans rfl rfl
theorem pk_min (x y : X) : (PO.min x y).plainK = true := Eq.trans rfl rfl
theorem pk_max3 (x y z : X) : (PO.max3 x y z).plainK = true := Eq.trans rfl rfl
theorem pk_load (a : Bool) (n : Nat) (x : X) : (PO.load a n x).plainK = true := Eq.trans rfl rfl
theorem pk_look (z : AV) (a : Bool) (b : KK) (x y : X) : (PO.look z a b x y).plainK = true := Eq.trans rfl rfl
theorem pk_lenM (x : X) : (PO.lenM x).plainK = true := Eq.trans rfl rfl
theorem pk_bstr (x : X) : (PO.bstr x).plainK = true := Eq.trans rfl rfl
theorem pk_call (x : X) (l : List X) : (PO.call x l).plainK = true := Eq.trans rfl rfl
theorem pk_app (n : Nat) (x y : X) : (PO.app n none x y).plainK = true := Eq.trans rfl rfl
theorem pk_alloc (l : List AV) : (PO.alloc l).plainK = false := Eq.trans rfl rfl
theorem pk_box (x : X) : (PO.box x).plainK = false := Eq.trans rfl rfl
theorem pk_mksl (z : AV) (n : Nat) (a : Bool) (x : X) : (PO.mksl z n a x).plainK = false := Eq.trans rfl rfl
theorem pk_mkmap : PO.mkmap.plainK = false := Eq.trans rfl rfl
theorem kw_mov (x : X) : ((PO.mov x).kd == .W) = false := Eq.trans rfl rfl
theorem kw_pick (c a b : X) : ((PO.pick c a b).kd == .W) = false := Eq.trans rfl rfl
theorem kw_build (z : List AV) (ps : List (Nat × Nat × X)) : ((PO.build z ps).kd == .W) = false := Eq.trans rfl rfl
theorem kw_bsl (z : AV) (n : Nat) (ps : List (Nat × Nat × X)) : ((PO.bsl z n ps).kd == .W) = false := Eq.trans rfl rfl
theorem kw_nilck (x : X) : ((PO.nilck x).kd == .W) = false := Eq.trans rfl rfl
theorem kw_bin (o : BinOp) (x y : X) : ((PO.bin o x y).kd == .W) = false := Eq.trans rfl rfl
theorem kw_eqb (n : Bool) (x y : X) : ((PO.eqb n x y).kd == .W) = false := Eq.trans rfl rfl
theorem kw_eqi (n : Bool) (x y : X) : ((PO.eqi n x y).kd == .W) = false := Eq.trans rfl rfl
theorem kw_eqs (n : Bool) (x y : X) : ((PO.eqs n x y).kd == .W) = false := Eq.trans rfl rfl
theorem kw_eqp (n : Bool) (x y : X) : ((PO.eqp n x y).kd == .W) = false := Eq.trans rfl rfl
theorem kw_capS (x : X) : ((PO.capS x).kd == .W) = false := Eq.trans rfl rfl
theorem kw_eqm (n : Bool) (x y : X) : ((PO.eqm n x y).kd == .W) = false := Eq.trans rfl rfl
theorem kw_eqg (n : Bool) (k : List Bool) (x y : X) : ((PO.eqg n k x y).kd == .W) = false := Eq.trans rfl rfl
theorem kw_un (o : UnOp) (x : X) : ((PO.un o x).kd == .W) = false := Eq.trans rfl rfl
theorem kw_conv (k : IntKind) (x : X) : ((PO.conv k x).kd == .W) = false := Eq.trans rfl rfl
theorem kw_smov (x : X) : ((PO.smov x).kd == .W) = false := Eq.trans rfl rfl
theorem kw_mkif (t : TypeId) (x : X) : ((PO.mkif t x).kd == .W) = false := Eq.trans rfl rfl
theorem kw_mkfn (f : FuncId) (l : List X) : ((PO.mkfn f l).kd == .W) = false := Eq.trans rfl rfl
theorem kw_mkbm (f : FuncId) (l : List X) : ((PO.mkbm f l).kd == .W) = false := Eq.trans rfl rfl
theorem kw_faddr (n : Nat) (x : X) : ((PO.faddr n x).kd == .W) = false := Eq.trans rfl rfl
theorem kw_fld (a : Bool) (n m : Nat) (x : X) : ((PO.fld a n m x).kd == .W) = false := Eq.trans rfl rfl
theorem kw_iaddr (n : Nat) (x y : X) : ((PO.iaddr n x y).kd == .W) = false := Eq.trans rfl rfl
theorem kw_iaddrA (l n : Nat) (x y : X) : ((PO.iaddrA l n x y).kd == .W) = false := Eq.trans rfl rfl
theorem kw_idxA (l n : Nat) (a : Bool) (x y : X) : ((PO.idxA l n a x y).kd == .W) = false := Eq.trans rfl rfl
theorem kw_idxS (x y : X) : ((PO.idxS x y).kd == .W) = false := Eq.trans rfl rfl
theorem kw_lenS (x : X) : ((PO.lenS x).kd == .W) = false := Eq.trans rfl rfl
theorem kw_lenT (x : X) : ((PO.lenT x).kd == .W) = false := Eq.trans rfl rfl
theorem kw_lenA (n : Nat) : ((PO.lenA n).kd == .W) = false := Eq.trans rfl rfl
theorem kw_ext (x : X) (n : Nat) : ((PO.ext x n).kd == .W) = false := Eq.trans rfl rfl
theorem kw_slice (n : Nat) (x : X) (lo hi mx : Option X) : ((PO.slice n x lo hi mx).kd == .W) = false := Eq.trans rfl rfl
theorem kw_strsl (x : X) (lo hi : Option X) : ((PO.strsl x lo hi).kd == .W) = false := Eq.trans rfl rfl
theorem kw_max (x y : X) : ((PO.max x y).kd == .W) = false := Eq.trans rfl rfl
theorem kw_min (x y : X) : ((PO.min x y).kd == .W) = false := Eq.trans rfl rfl
theorem kw_max3 (x y z : X) : ((PO.max3 x y z).kd == .W) = false := Eq.trans rfl rfl
theorem kw_load (a : Bool) (n : Nat) (x : X) : ((PO.load a n x).kd == .W) = false := Eq.trans rfl rfl
theorem kw_look (z : AV) (a : Bool) (b : KK) (x y : X) : ((PO.look z a b x y).kd == .W) = false := Eq.trans rfl rfl
theorem kw_lenM (x : X) : ((PO.lenM x).kd == .W) = false := Eq.trans rfl rfl
theorem kw_bstr (x : X) : ((PO.bstr x).kd == .W) = false := Eq.trans rfl rfl
theorem kw_call (x : X) (l : List X) : ((PO.call x l).kd == .W) = false := Eq.trans rfl rfl
theorem kw_app (n : Nat) (x y : X) : ((PO.app n none x y).kd == .W) = false := Eq.trans rfl rfl
theorem kw_alloc (l : List AV) : ((PO.alloc l).kd == .W) = false := Eq.trans rfl rfl
theorem kw_box (x : X) : ((PO.box x).kd == .W) = false := Eq.trans rfl rfl
theorem kw_mksl (z : AV) (n : Nat) (a : Bool) (x : X) : ((PO.mksl z n a x).kd == .W) = false := Eq.trans rfl rfl
theorem kw_mkmap : (PO.mkmap.kd == .W) = false := Eq.trans rfl rfl
theorem kw_store (n : Nat) (x y : X) : ((PO.store n x y).kd == .W) = true := Eq.trans rfl rfl
theorem kw_mapup (b : KK) (x y z : X) : ((PO.mapup b x y z).kd == .W) = true := Eq.trans rfl rfl
theorem kz_eqg (n : Bool) (k : List Bool) (x y : X) : ((PO.eqg n k x y).kd == .S) = true := Eq.trans rfl rfl
theorem kz_mkfn (f : FuncId) (l : List X) : ((PO.mkfn f l).kd == .S) = true := Eq.trans rfl rfl
theorem kz_mkbm (f : FuncId) (l : List X) : ((PO.mkbm f l).kd == .S) = true := Eq.trans rfl rfl
theorem kz_iaddrA (l n : Nat) (x y : X) : ((PO.iaddrA l n x y).kd == .S) = true := Eq.trans rfl rfl
theorem kz_idxA (l n : Nat) (a : Bool) (x y : X) : ((PO.idxA l n a x y).kd == .S) = true := Eq.trans rfl rfl
theorem kz_idxS (x y : X) : ((PO.idxS x y).kd == .S) = true := Eq.trans rfl rfl
theorem kz_lenA (n : Nat) : ((PO.lenA n).kd == .S) = true := Eq.trans rfl rfl
theorem kz_strsl (x : X) (lo hi : Option X) : ((PO.strsl x lo hi).kd == .S) = true := Eq.trans rfl rfl
theorem kz_max (x y : X) : ((PO.max x y).kd == .S) = true := Eq.trans rfl rfl
theorem kz_min (x y : X) : ((PO.min x y).kd == .S) = true := Eq.trans rfl rfl
theorem kz_max3 (x y z : X) : ((PO.max3 x y z).kd == .S) = true := Eq.trans rfl rfl
theorem kz_app (n : Nat) (x y : X) : ((PO.app n none x y).kd == .S) = false := Eq.trans rfl rfl
theorem kz_box (x : X) : ((PO.box x).kd == .S) = false := Eq.trans rfl rfl
theorem kz_mksl (z : AV) (n : Nat) (a : Bool) (x : X) : ((PO.mksl z n a x).kd == .S) = false := Eq.trans rfl rfl
theorem kz_look (z : AV) (a : Bool) (b : KK) (x y : X) : ((PO.look z a b x y).kd == .S) = false := Eq.trans rfl rfl
theorem kz_lenM (x : X) : ((PO.lenM x).kd == .S) = false := Eq.trans rfl rfl
theorem kz_bstr (x : X) : ((PO.bstr x).kd == .S) = false := Eq.trans rfl rfl
theorem kz_mkmap : (PO.mkmap.kd == .S) = false := Eq.trans rfl rfl
theorem mb_alloc {tm : List AV} {idx : Nat} {l : List AV} : makeB tm idx (.alloc l) = some (.ptr idx 0, .cells false l) := Eq.trans rfl rfl
theorem mb_mkmap {tm : List AV} {idx : Nat} : makeB tm idx .mkmap = some (.mp idx, .map []) := Eq.trans rfl rfl
theorem mb_box {tm : List AV} {idx : Nat} {x : X} : makeB tm idx (.box x) = (evX tm x).bind fun a => if a.known = true then some (.ptr idx 0, .cells false a.cells) else none := by
 simp only [makeB]; cases evX tm x <;> rfl
theorem mb_mksl {tm : List AV} {idx : Nat} {z : AV} {es : Nat} {ag : Bool} {x : X} : makeB tm idx (.mksl z es ag x) = (match evX tm x with
  | some (.v (.int .i64 n)) => if 0 ≤ n ∧ n ≤ 1073741824 then some (.bs idx 0 n.toNat es ag, .cells false (flat (List.replicate n.toNat z))) else none
  | _ => none) := Eq.trans rfl rfl
def XW (c : Oracle) (md : FuncId → Md) (l : List PI) (tm : List AV) (s : ASt) (Z : List AObj) (K : List AV → ASt → List AObj → Prop) (_ : Fx1 K) : Prop :=
 match mixP c md l tm s Z with
 | some (tm', s', Z') => K tm' s' Z'
 | none => False
@[congr] theorem XW_congr {l : List PI} {tm tm' : List AV} {s s' : ASt} {Z Z' : List AObj} {K : List AV → ASt → List AObj → Prop} (h1 : True → tm = tm') (h2 : True → s = s') (h4 : True → Z = Z') : XW c md l tm s Z K () = XW c md l tm' s' Z' K () := by rw [h1 trivial, h2 trivial, h4 trivial]
theorem M3_ite {p : Prop} [Decidable p] {v : AV} {ob : AObj} {K : AV → AObj → Prop} : M3 (if p then some (v, ob) else none) K () = (p ∧ K v ob) := by
 by_cases h : p <;> simp [h, M3]
theorem XW_nil {Z : List AObj} {K : List AV → ASt → List AObj → Prop} : XW c md [] tm s Z K () = K tm s Z := Eq.trans rfl rfl
theorem XW_cons {Z : List AObj} {K : List AV → ASt → List AObj → Prop} : XW c md (i :: l) tm s Z K () =
  M1 i.op.plainK (GW (wantedA tm i.g) (XW c md l (put tm i.dst .undef) s Z K ()) (OW (opA tm s i.op) (fun v s' => XW c md l (put tm i.dst v) s' Z K ()) (fun f args => CW c md true s f args (fun v s' => XW c md l (put tm i.dst v) s' Z K ()) (fun _ _ => False) ()) (fun _ => False) (fun _ _ => XW c md l (put tm i.dst .undef) s Z K ()) ()) ())
   (M3 (makeB tm (s.H.length + Z.length) i.op) (fun v ob => XW c md l (put tm i.dst v) s (Z ++ [ob]) K ()) ()) () := by
 cases hk : i.op.plainK with
 | true =>
  rw [M1_t]
  unfold XW
  rw [mixP, hk]
  simp only [if_true]
  rw [stepA]
  cases wantedA tm i.g with
  | none => rfl
  | some b =>
   cases b with
   | false => simp [GW]
   | true =>
    simp only [GW_t]
    cases opA tm s i.op with
    | none => rfl
    | some o =>
     cases o with
     | call f args =>
      simp only [OW, CW]
      cases callA c md true s f args with
      | none => rfl
      | some x =>
       obtain ⟨r, s'⟩ := x
       cases r <;> rfl
     | _ => rfl
 | false =>
  rw [M1_f]
  unfold XW
  rw [mixP, hk]
  simp only [Bool.false_eq_true, if_false]
  cases makeB tm (s.H.length + Z.length) i.op with
  | none => rfl
  | some x => rfl
def XE (c : Oracle) (md : FuncId → Md) (p : PI) (l : List PI) (df : List (FuncId × List AV)) (K : St → Prop) (tm : List AV) (s : ASt) : Prop :=
 GW (wantedA tm p.g) (CK p tm s s l ∧ K ⟨put tm p.dst .undef, df, s⟩) (OW (opA tm s p.op) (fun v s' => CK p tm s s' l ∧ K ⟨put tm p.dst v, df, s'⟩) (fun f args => CW c md true s f args (fun v s' => CK p tm s s' l ∧ K ⟨put tm p.dst v, df, s'⟩) (fun _ _ => False) ()) (fun _ => False) (fun f args => CK p tm s s l ∧ K ⟨put tm p.dst .undef, (f, args) :: df, s⟩) ()) ()
def XL (c : Oracle) (md : FuncId → Md) (o : Option PI) (l : List PI) (tm : List AV) (df : List (FuncId × List AV)) (s : ASt) (K : St → Prop) (_ : Fx1 K) : Prop :=
 match o with
 | none => K ⟨tm, df, s⟩
 | some p => M1 (p.op.kd == .W) (XW c md l.dropLast tm s [] (fun tm' s' Z => XE c md p l.dropLast df K tm' ⟨s'.H ++ Z, s'.T⟩) ()) (XW c md l tm s [] (fun tm' s' Z => K ⟨tm', df, ⟨s'.H ++ Z, s'.T⟩⟩) ()) ()
@[congr] theorem XL_congr {o o' : Option PI} {l : List PI} {tm tm' : List AV} {df : List (FuncId × List AV)} {s s' : ASt} {K : St → Prop} (h0 : True → o = o') (h1 : True → tm = tm') (h2 : True → s = s') : XL c md o l tm df s K () = XL c md o' l tm' df s' K () := by rw [h0 trivial, h1 trivial, h2 trivial]
theorem XL_some {p : PI} {K : St → Prop} : XL c md (some p) l tm df s K () = M1 (p.op.kd == .W) (XW c md l.dropLast tm s [] (fun tm' s' Z => XE c md p l.dropLast df K tm' ⟨s'.H ++ Z, s'.T⟩) ()) (XW c md l tm s [] (fun tm' s' Z => K ⟨tm', df, ⟨s'.H ++ Z, s'.T⟩⟩) ()) () := Eq.trans rfl rfl
theorem XE_eq {p : PI} {K : St → Prop} : XE c md p l df K tm s = GW (wantedA tm p.g) (CK p tm s s l ∧ K ⟨put tm p.dst .undef, df, s⟩) (OW (opA tm s p.op) (fun v s' => CK p tm s s' l ∧ K ⟨put tm p.dst v, df, s'⟩) (fun f args => CW c md true s f args (fun v s' => CK p tm s s' l ∧ K ⟨put tm p.dst v, df, s'⟩) (fun _ _ => False) ()) (fun _ => False) (fun f args => CK p tm s s l ∧ K ⟨put tm p.dst .undef, (f, args) :: df, s⟩) ()) () := Eq.trans rfl rfl
theorem mixW_XL {K : St → Prop} : (match mixW c md l ⟨tm, df, s⟩ with | some st => K st | none => False) = XL c md l.getLast? l tm df s K () := by
 unfold mixW
 cases l.getLast? with
 | none => rfl
 | some p =>
  rw [XL_some]
  by_cases hk : (p.op.kd == .W) = true
  ·simp only [hk, if_true, M1_t]
   unfold XW
   cases mixP c md l.dropLast tm s [] with
   | none => rfl
   | some x =>
    obtain ⟨tm', s', Z⟩ := x
    simp only
    rw [XE_eq, stepA]
    have fin : ∀ (st2 : St), (match (if (l.dropLast.all fun j => p.pre.contains j.ix || j.op.kd == .S || stable tm' ⟨s'.H ++ Z, s'.T⟩ st2.s j.op) = true then some st2 else none : Option St) with | some st => K st | none => False) = (CK p tm' ⟨s'.H ++ Z, s'.T⟩ st2.s l.dropLast ∧ K st2) := by
     intro st2
     rw [CK_all]
     by_cases h : (l.dropLast.all fun j => p.pre.contains j.ix || j.op.kd == .S || stable tm' ⟨s'.H ++ Z, s'.T⟩ st2.s j.op) = true
     ·rw [if_pos h, eq_true h, true_and]
     ·rw [if_neg h, eq_false h, false_and]
    cases wantedA tm' p.g with
    | none => rfl
    | some b =>
     cases b with
     | false => simp only [GW_f]; exact fin ⟨_, _, _⟩
     | true =>
      simp only [GW_t]
      cases opA tm' ⟨s'.H ++ Z, s'.T⟩ p.op with
      | none => rfl
      | some o =>
       cases o with
       | val v s2 => exact fin ⟨_, _, s2⟩
       | dfr f args => exact fin ⟨_, _, _⟩
       | call f args =>
        simp only [OW, CW]
        cases callA c md true ⟨s'.H ++ Z, s'.T⟩ f args with
        | none => rfl
        | some x =>
         obtain ⟨r, s2⟩ := x
         cases r with
         | ret v => exact fin ⟨_, _, s2⟩
         | pan v => rfl
       | _ => rfl
  ·simp only [Bool.eq_false_iff.2 hk, M1_f, Bool.false_eq_true, if_false]
   unfold XW
   cases mixP c md l tm s [] with
   | none => rfl
   | some x => rfl
theorem W_dregx {n : Nat} {ns : List Nat} (hn : 1002000 ≤ n) (hn2 : n < 1003000) : W c md (.dreg (n :: ns) l) ⟨tm, df, s⟩ Q () = XL c md (l.take (n % 1000)).getLast? (l.take (n % 1000)) tm df s (fun st => DW c md ns (l.drop (n % 1000)) st Q ()) () := by
 rw [← mixW_XL]
 unfold W
 rw [execL, regA, if_neg (by omega), callP, if_neg (by omega), if_pos (by omega)]
 generalize l.take (n % 1000) = l1
 generalize l.drop (n % 1000) = lr
 cases mixW c md l1 ⟨tm, df, s⟩ with
 | none => rfl
 | some st' =>
  simp only [Option.map_some]
  cases lr with
  | nil => rfl
  | cons b l2 =>
   simp only [DW, WS, stepsA]
   cases stepA c md false b st' with
   | none => rfl
   | some y => obtain ⟨r, st4⟩ := y; cases r <;> rfl
theorem W_loop {β : Type} (m : β → Nat) (I : β → St → Prop) {a : PC} (h : ∀ b st, I b st → W c md a st (LQ (fun st' => ∃ b', m b' < m b ∧ I b' st') Q) ()) {b : β} {st : St} (h0 : I b st) : W c md (.loop a) st Q () := by
 have key : ∀ n b st, m b < n → I b st → EW (loopI c md a st) Q () := by
  intro n
  induction n with
  | zero => intro b st hb; omega
  | succ n ih =>
   intro b st hb hi
   have hw := h b st hi
   unfold W at hw
   rw [loopI_eq]
   cases hx : execL c md (loopI c md) a st with
   | none => rw [hx] at hw; exact hw.elim
   | some x =>
    obtain ⟨r, st'⟩ := x
    rw [hx] at hw
    cases r with
    | normal =>
     obtain ⟨b', hb', hi'⟩ := hw
     exact ih b' st' (by omega) hi'
    | _ => exact hw
 exact key (m b + 1) b st (by omega) h0
def RA (K : St → Prop) : AExit → St → Prop
 | .normal, st1 => st1.df = [] ∧ K st1
 | _, _ => False
def RB (J : ASt → Prop) (st0 : St) (Q : AExit → St → Prop) : AExit → St → Prop
 | .normal, st2 => st2.df = [] ∧ J st2.s
 | .exit id, st2 => st2.df = [] ∧ Q (.exit id) { st0 with s := st2.s }
 | .ret, st2 => st2.df = [] ∧ Q .ret { st0 with s := st2.s }
 | .pan _, _ => False
theorem RA_n {K : St → Prop} {st1 : St} : RA K .normal st1 = (st1.df = [] ∧ K st1) := rfl
theorem RB_n {J : ASt → Prop} {st0 st2 : St} : RB J st0 Q .normal st2 = (st2.df = [] ∧ J st2.s) := rfl
theorem RB_e {J : ASt → Prop} {st0 st2 : St} {n : Nat} : RB J st0 Q (.exit n) st2 = (st2.df = [] ∧ Q (.exit n) { st0 with s := st2.s }) := rfl
theorem RB_r {J : ASt → Prop} {st0 st2 : St} : RB J st0 Q .ret st2 = (st2.df = [] ∧ Q .ret { st0 with s := st2.s }) := rfl
theorem EW.mono {o : Option (AExit × St)} {Q Q' : AExit → St → Prop} (h : EW o Q ()) (hq : ∀ r st, Q r st → Q' r st) : EW o Q' () := by
 cases o with
 | none => exact h.elim
 | some x => exact hq _ _ h
theorem W.mono {b : PC} {Q Q' : AExit → St → Prop} (h : W c md b st Q ()) (hq : ∀ r st, Q r st → Q' r st) : W c md b st Q' () := EW.mono h hq
def EQ (nt : Nat) (df : List (FuncId × List AV)) (J : Env → List AObj → List Nat → Prop) (st : St) : Prop := ∃ E H T, st = ⟨tmE nt E, df, ⟨H, T⟩⟩ ∧ J E H T
theorem EQ_in {nt : Nat} {df : List (FuncId × List AV)} {J : Env → List AObj → List Nat → Prop} {E : Env} {H : List AObj} {T : List Nat} (h : J E H T) : EQ nt df J ⟨tmE nt E, df, ⟨H, T⟩⟩ := ⟨E, H, T, rfl, h⟩
theorem W_loopE {β : Type} (m : β → Nat) (I : β → Env → List AObj → List Nat → Prop) {a : PC} {nt : Nat} {df : List (FuncId × List AV)} (h : ∀ b E H T, I b E H T → W c md a ⟨tmE nt E, df, ⟨H, T⟩⟩ (LQ (EQ nt df fun E H T => ∃ b', m b' < m b ∧ I b' E H T) Q) ()) (b : β) {E : Env} {H : List AObj} {T : List Nat} (h0 : I b E H T) : W c md (.loop a) ⟨tmE nt E, df, ⟨H, T⟩⟩ Q () := by
 refine W_loop m (fun b st => ∃ E H T, st = ⟨tmE nt E, df, ⟨H, T⟩⟩ ∧ I b E H T) ?_ (b := b) ⟨E, H, T, rfl, h0⟩
 rintro b st ⟨E, H, T, rfl, hI⟩
 refine (h b E H T hI).mono fun r st' hr => ?_
 cases r with
 | normal =>
  obtain ⟨E', H', T', rfl, b', h1, h2⟩ := hr
  exact ⟨b', h1, E', H', T', rfl, h2⟩
 | _ => exact hr
def Out (md : FuncId → Md) (pfs : FuncId → Option PF) (f : FuncId) (args : List AV) (PR PP : AV → Prop) : Prop :=
 ∃ out s out', run md pfs f args ⟨[], []⟩ = some (out, s) ∧ out.purify 1020 s = some out' ∧ match out' with | .ret v => PR v | .pan v => PP v
def RQ (res : List PR) (PR PP : AV → Prop) : AExit → St → Prop
 | .pan v, st => st.df = [] ∧ ∃ v', purify 1020 st.s v = some v' ∧ PP v'
 | .exit _, _ => False
 | _, st => st.df = [] ∧ ∃ l, resA st.tm st.s res = some l ∧ ∃ v', purify 1020 st.s (oneA l) = some v' ∧ PR v'
theorem RQ_ret {res : List PR} {PR PP : AV → Prop} {st : St} : RQ res PR PP .ret st = (st.df = [] ∧ ∃ l, resA st.tm st.s res = some l ∧ ∃ v', purify 1020 st.s (oneA l) = some v' ∧ PR v') := rfl
theorem RQ_normal {res : List PR} {PR PP : AV → Prop} {st : St} : RQ res PR PP .normal st = (st.df = [] ∧ ∃ l, resA st.tm st.s res = some l ∧ ∃ v', purify 1020 st.s (oneA l) = some v' ∧ PR v') := rfl
theorem RQ_pan {res : List PR} {PR PP : AV → Prop} {v : AV} {st : St} : RQ res PR PP (.pan v) st = (st.df = [] ∧ ∃ v', purify 1020 st.s v = some v' ∧ PP v') := rfl
theorem W_ora {pc : PC} {st : St} {Q : AExit → St → Prop} {c : Oracle} {md : FuncId → Md} (h : W c md pc st Q ()) : pc.ora? = none := by
 cases pc with
 | ora o => unfold W at h; simp only [execL] at h; exact (show False from h).elim
 | _ => rfl
theorem out_of {f : FuncId} {pf : PF} (hp : pfs f = some pf) {args : List AV} {PR PP : AV → Prop} (hn : args.length ≤ pf.nt) (h : W (run md pfs) md pf.body ⟨tmE pf.nt (argsE args), [], ⟨[], []⟩⟩ (RQ pf.res PR PP) ()) : Out md pfs f args PR PP := by
 unfold Out
 rw [run_eq hp (W_ora h)]
 unfold bodyI
 rw [args_tm args pf.nt hn]
 unfold W at h
 cases hx : execL (run md pfs) md (loopI (run md pfs) md) pf.body ⟨tmE pf.nt (argsE args), [], ⟨[], []⟩⟩ with
 | none => rw [hx] at h; exact h.elim
 | some x =>
  obtain ⟨r, st⟩ := x
  obtain ⟨tm, df, s⟩ := st
  rw [hx] at h
  cases r with
  | exit i => exact h.elim
  | pan v =>
   obtain ⟨h1, v', h2, h3⟩ := h
   simp only at h1; subst h1
   exact ⟨.pan v, s, .pan v', by simp only [List.isEmpty_nil, Bool.not_true, Bool.and_false, Bool.false_eq_true, if_false]; rfl, by simp only [Outc.purify]; rw [h2]; rfl, h3⟩
  | normal =>
   obtain ⟨h1, l, h2, v', h3, h4⟩ := h
   simp only at h1; subst h1
   refine ⟨.ret (oneA l), s, .ret v', ?_, by simp only [Outc.purify]; rw [h3]; rfl, h4⟩
   simp only [List.isEmpty_nil, Bool.not_true, Bool.and_false, Bool.false_eq_true, if_false]
   show (resA tm s pf.res).map _ = _
   simp only at h2
   rw [h2]; rfl
  | ret =>
   obtain ⟨h1, l, h2, v', h3, h4⟩ := h
   simp only at h1; subst h1
   refine ⟨.ret (oneA l), s, .ret v', ?_, by simp only [Outc.purify]; rw [h3]; rfl, h4⟩
   simp only [List.isEmpty_nil, Bool.not_true, Bool.and_false, Bool.false_eq_true, if_false]
   show (resA tm s pf.res).map _ = _
   simp only at h2
   rw [h2]; rfl
theorem Out.call {f : FuncId} {args : List AV} {PR : AV → Prop} (h : Out md pfs f args PR fun _ => False) (hm : md f = .pure) (ha : pureAVs args = true) : ∃ v, PR v ∧ ∀ pm s K KP, CW (run md pfs) md pm s f args K KP () = K v s := by
 obtain ⟨out, s', out', h1, h2, h3⟩ := h
 cases out' with
 | pan v => exact h3.elim
 | ret v => exact ⟨v, h3, fun pm s K KP => by simp [CW, callA, hm, ha, purify_all s ha, h1, h2, frz_all s ha]⟩
theorem Out.mono {f : FuncId} {args : List AV} {PR PP PR' PP' : AV → Prop} (h : Out md pfs f args PR PP) (h1 : ∀ v, PR v → PR' v) (h2 : ∀ v, PP v → PP' v) : Out md pfs f args PR' PP' := by
 obtain ⟨out, s', out', e1, e2, e3⟩ := h
 refine ⟨out, s', out', e1, e2, ?_⟩
 cases out' with
 | ret v => exact h1 v e3
 | pan v => exact h2 v e3
end
end Go.Proofs.Eng
namespace Go.Proofs.Eng
open Go
theorem wantV_tt {nt t : Nat} {e : Env} (h : t < nt) (h2 : e t = .v (.bool true)) : wantedA (tmE nt e) (some (t, true)) = some true := by rw [wanted_b h h2]; rfl
theorem wantV_tf {nt t : Nat} {e : Env} (h : t < nt) (h2 : e t = .v (.bool true)) : wantedA (tmE nt e) (some (t, false)) = some false := by rw [wanted_b h h2]; rfl
theorem wantV_ft {nt t : Nat} {e : Env} (h : t < nt) (h2 : e t = .v (.bool false)) : wantedA (tmE nt e) (some (t, true)) = some false := by rw [wanted_b h h2]; rfl
theorem wantV_ff {nt t : Nat} {e : Env} (h : t < nt) (h2 : e t = .v (.bool false)) : wantedA (tmE nt e) (some (t, false)) = some true := by rw [wanted_b h h2]; rfl
theorem wantV_u {nt t : Nat} {e : Env} {w : Bool} (h : t < nt) (h2 : e t = .undef) : wantedA (tmE nt e) (some (t, w)) = some false := wanted_u h h2
theorem boolAV {a b : Bool} (h : b = a) : AV.v (.bool a) = AV.bool b := by rw [h]
theorem set_concat {α : Type} (H : List α) (x y : α) : (H ++ [x]).set H.length y = H ++ [y] := by rw [List.set_append_right _ _ (Nat.le_refl _)]; simp
abbrev lenB : Nat := 9223372036854775807
abbrev capB : Nat := 1073741824
abbrev in64 (n : Int) : Prop := -9223372036854775808 ≤ n ∧ n ≤ 9223372036854775807
theorem wrap_in {n : Int} (h : in64 n) : IntKind.i64.wrap n = n := by unfold in64 at h; exact IntWalk.i64_in (by omega) (by omega)
theorem next_ix {i : Nat} (h : i < lenB) : IntKind.i64.wrap ((i : Int) + 1) = ((i + 1 : Nat) : Int) := by unfold lenB at h; rw [wrap_in (by unfold in64; omega)]; simp
theorem next_ixv {i : Nat} (h : i < lenB) : AV.v (.int .i64 (IntKind.i64.wrap ((i : Int) + 1))) = .int ((i + 1 : Nat) : Int) := by rw [next_ix h]
def LIs {α : Type} (R : α → AV → Prop) : List α → List AV → Prop
 | [], [] => True
 | x :: xs, a :: al => R x a ∧ LIs R xs al
 | _, _ => False
structure AggR {α : Type} (R : α → AV → Prop) (es : Nat) : Prop where
 cells : ∀ {x a}, R x a → ∃ c, a = .agg c ∧ c.length = es ∧ c.all oneCell = true
 pure : ∀ {x a}, R x a → pureAV a = true
section
variable {α : Type} {R : α → AV → Prop} {es : Nat}
theorem LIs.len : ∀ {l : List α} {al : List AV}, LIs R l al → al.length = l.length
 | [], [], _ => rfl
 | _ :: _, _ :: _, h => by simp only [LIs] at h; simp [LIs.len h.2]
 | [], _ :: _, h => by simp [LIs] at h
 | _ :: _, [], h => by simp [LIs] at h
theorem LIs.pure (hR : ∀ x a, R x a → pureAV a = true) : ∀ {l : List α} {al : List AV}, LIs R l al → pureAVs al = true
 | [], [], _ => by rw [pureAVs]
 | _ :: _, _ :: _, h => by simp only [LIs] at h; simp [pvs_cons, hR _ _ h.1, LIs.pure hR h.2]
 | [], _ :: _, h => by simp [LIs] at h
 | _ :: _, [], h => by simp [LIs] at h
theorem LIs.all (hR : AggR R es) : ∀ {l : List α} {al : List AV}, LIs R l al → (al.all fun x => x.cells.length == es) = true
 | [], [], _ => rfl
 | _ :: _, _ :: _, h => by
  simp only [LIs] at h
  obtain ⟨c, rfl, hl, _⟩ := hR.cells h.1
  simp [List.all_cons, LIs.all hR h.2, cells_agg, hl]
 | [], _ :: _, h => by simp [LIs] at h
 | _ :: _, [], h => by simp [LIs] at h
theorem LIs.at : ∀ {l : List α} {al : List AV} {i : Nat}, LIs R l al → i < al.length → ∃ x a, l[i]? = some x ∧ l.drop i = x :: l.drop (i + 1) ∧ x ∈ l ∧ al[i]? = some a ∧ R x a
 | [], [], i, _, h => by simp at h
 | x :: xs, a :: al, 0, h, _ => by
  simp only [LIs] at h
  exact ⟨x, a, rfl, rfl, by simp, rfl, h.1⟩
 | x :: xs, a :: al, i + 1, h, hi => by
  simp only [LIs] at h
  obtain ⟨y, b, h1, h2, h3, h4, h5⟩ := LIs.at (i := i) h.2 (by simpa using hi)
  exact ⟨y, b, by simpa using h1, by simpa using h2, by simp [h3], by simpa using h4, h5⟩
 | [], _ :: _, _, h, _ => by simp [LIs] at h
 | _ :: _, [], _, h, _ => by simp [LIs] at h
theorem LIs.get (hR : AggR R es) {l : List α} {al : List AV} {i : Nat} (h : LIs R l al) (hi : i < al.length) : ∃ x c, l[i]? = some x ∧ l.drop i = x :: l.drop (i + 1) ∧ x ∈ l ∧ al[i]? = some (.agg c) ∧ c.length = es ∧ c.take es = c ∧ c.all oneCell = true ∧ R x (.agg c) := by
 obtain ⟨x, a, h1, h2, h3, h4, h5⟩ := LIs.at h hi
 obtain ⟨c, rfl, hl, ho⟩ := hR.cells h5
 exact ⟨x, c, h1, h2, h3, h4, hl, List.take_of_length_le (by omega), ho, h5⟩
theorem LIs.append : ∀ {l m : List α} {al am : List AV}, LIs R l al → LIs R m am → LIs R (l ++ m) (al ++ am)
 | [], m, [], am, _, h => h
 | _ :: _, m, _ :: _, am, h, h' => by simp only [LIs, List.cons_append] at h ⊢; exact ⟨h.1, LIs.append h.2 h'⟩
 | [], _, _ :: _, _, h, _ => by simp [LIs] at h
 | _ :: _, _, [], _, h, _ => by simp [LIs] at h
theorem LIs.one {x : α} {a : AV} (h : R x a) : LIs R [x] [a] := ⟨h, trivial⟩
theorem LIs.take : ∀ (n : Nat) {l : List α} {al : List AV}, LIs R l al → LIs R (l.take n) (al.take n)
 | 0, _, _, _ => by simp [LIs]
 | n + 1, [], [], h => h
 | n + 1, _ :: _, _ :: _, h => by simp only [LIs] at h; exact ⟨h.1, LIs.take n h.2⟩
 | _ + 1, [], _ :: _, h => by simp [LIs] at h
 | _ + 1, _ :: _, [], h => by simp [LIs] at h
theorem LIs.drop : ∀ (n : Nat) {l : List α} {al : List AV}, LIs R l al → LIs R (l.drop n) (al.drop n)
 | 0, _, _, h => h
 | n + 1, [], [], h => h
 | n + 1, _ :: _, _ :: _, h => by simp only [LIs] at h; exact LIs.drop n h.2
 | _ + 1, [], _ :: _, h => by simp [LIs] at h
 | _ + 1, _ :: _, [], h => by simp [LIs] at h
theorem LIs.set : ∀ {l : List α} {al : List AV} (i : Nat) {x : α} {a : AV}, LIs R l al → R x a → LIs R (l.set i x) (al.set i a)
 | [], [], i, _, _, h, _ => by simp [LIs]
 | _ :: _, _ :: _, 0, _, _, h, h' => by simp only [LIs] at h; exact ⟨h', h.2⟩
 | _ :: _, _ :: _, i + 1, _, _, h, h' => by simp only [LIs] at h; exact ⟨h.1, LIs.set i h.2 h'⟩
 | [], _ :: _, _, _, _, h, _ => by simp [LIs] at h
 | _ :: _, [], _, _, _, h, _ => by simp [LIs] at h
theorem LIs.mono {R' : α → AV → Prop} : ∀ {l : List α} {al : List AV}, LIs R l al → (∀ x ∈ l, ∀ a, R x a → R' x a) → LIs R' l al
 | [], [], _, _ => trivial
 | _ :: _, _ :: _, h, h' => by simp only [LIs] at h; exact ⟨h' _ (by simp) _ h.1, LIs.mono h.2 fun x hx => h' x (by simp [hx])⟩
 | [], _ :: _, h, _ => by simp [LIs] at h
 | _ :: _, [], h, _ => by simp [LIs] at h
end
def ints (l : List Int) : List AV := l.map AV.int
theorem ints_len (l : List Int) : (ints l).length = l.length := by simp [ints]
theorem ints_pure : ∀ l : List Int, pureAVs (ints l) = true
 | [] => by rw [ints, List.map_nil, pureAVs]
 | e :: es => by have := ints_pure es; simp only [ints] at this ⊢; simp [pvs_cons, pv_v, this]
theorem ints_all (l : List Int) : ((ints l).all fun x => x.cells.length == 1) = true := by
 induction l with
 | nil => rfl
 | cons x l ih => simp only [ints] at ih ⊢; simp only [List.map_cons, List.all_cons, ih]; rfl
theorem ints_get {l : List Int} {i : Nat} (h : i < l.length) : ∃ x, l[i]? = some x ∧ l.drop i = x :: l.drop (i + 1) ∧ (ints l)[i]? = some (.int x) := by
 refine ⟨l[i], by simp [h], (List.drop_eq_getElem_cons h), ?_⟩
 simp [ints, h]
def App (T : List Nat) (l : List AV) (t : Tl) : Prop := (l = [] ∧ t = .nil) ∨ (l ≠ [] ∧ ∃ id ver, t = .tl id ver ∧ T[id]? = some ver)
end Go.Proofs.Eng
namespace Go.Proofs.Eng
open Go
theorem toList_len (s : ByteArray) : s.toList.length = s.size := by rw [ByteArray.toList_eq]; rfl
theorem empty_str {s : ByteArray} : (s.toList == (ByteArray.mk #[]).toList) = (s.size == 0) := by
 rw [← toList_len, show (ByteArray.mk #[]).toList = [] from by rw [ByteArray.toList_eq]]
 cases s.toList <;> rfl
theorem str_eq (a b : ByteArray) : (a.toList == b.toList) = decide (a = b) := by
 rw [Bool.eq_iff_iff, beq_iff_eq, decide_eq_true_eq]
 constructor
 ·intro h
  rw [ByteArray.toList_eq, ByteArray.toList_eq] at h
  cases a; cases b
  simp only at h
  rw [Array.toList_inj.1 h]
 ·rintro rfl; rfl
theorem str_beq (a b : ByteArray) : (a == b) = decide (a = b) := by
 cases a with
 | mk x =>
 cases b with
 | mk y =>
 rw [Bool.eq_iff_iff, decide_eq_true_eq]
 show (x == y) = true ↔ _
 rw [beq_iff_eq, ByteArray.mk.injEq]
theorem ex_and_eq {α : Type} {p : Prop} {a : α} {q : α → Prop} : (∃ x, (p ∧ a = x) ∧ q x) = (p ∧ q a) := by
 simp [and_assoc]
section
variable {α : Type} {R : α → AV → Prop} {es : Nat}
theorem flat_nil : flat [] = [] := rfl
theorem mapO_pure {n : Nat} {s : ASt} : ∀ {l : List AV}, pureAVs l = true → mapO (purify (n + 1) s) l = some l
 | [], _ => rfl
 | x :: l, h => by
  simp only [pvs_cons, Bool.and_eq_true] at h
  simp only [mapO, purify_pure h.1, mapO_pure h.2]
theorem mapO_at {n : Nat} {s : ASt} : ∀ {l : List AV}, pureAVs l = true → mapO (atCells (purify (n + 1) s)) l = some l
 | [], _ => rfl
 | x :: l, h => by
  simp only [pvs_cons, Bool.and_eq_true] at h
  have hx : atCells (purify (n + 1) s) x = some x := by
   cases x with
   | agg c =>
    have := h.1
    simp only [pv_agg] at this
    simp only [atCells, mapO_pure this, Option.map_some]
   | _ => exact purify_pure (n := n) (s := s) h.1
  simp only [mapO, hx, mapO_at h.2]
theorem pz_ptr {n : Nat} {s : ASt} {i off : Nat} : purify (n + 1) s (.ptr i off) = match s.H[i]? with
  | some (.cells _ c) => if off ≤ c.length then (mapO (purify n s) c).map (.ip · off) else none
  | _ => none := by
 rw [purify]; simp only [pureAV, Bool.false_eq_true, if_false]; rfl
theorem pz_tup {n : Nat} {s : ASt} {l : List AV} : purify (n + 2) s (.tup l) = (mapO (purify (n + 1) s) l).map .tup := by
 cases h : pureAVs l
 ·rw [purify]; simp [pv_tup, h]
 ·rw [purify_pure (by rw [pv_tup, h]), mapO_pure h]; rfl
theorem pz_fn {n : Nat} {s : ASt} {f : FuncId} {l : List AV} : purify (n + 2) s (.fn f l) = (mapO (purify (n + 1) s) l).map (.fn f) := by
 cases h : pureAVs l
 ·rw [purify]; simp [pv_fn, h]
 ·rw [purify_pure (by rw [pv_fn, h]), mapO_pure h]; rfl
theorem pz_iface {n : Nat} {s : ASt} {t : TypeId} {x : AV} : purify (n + 2) s (.iface t x) = (purify (n + 1) s x).map (.iface t) := by
 cases h : pureAV x
 ·rw [purify]; simp [pv_iface, h]
 ·rw [purify_pure (by rw [pv_iface, h]), purify_pure h]; rfl
theorem pz_sl {n : Nat} {s : ASt} {l : List AV} {t : Tl} : purify (n + 2) s (.sl l t) = (mapO (atCells (purify (n + 1) s)) l).map (.sl · (t.stripR (n + 1) s)) := by
 cases h : t.pure && pureAVs l
 ·rw [purify]; simp [pv_sl, h]
 ·simp only [Bool.and_eq_true] at h
  rw [purify_pure (by rw [pv_sl, h.1, h.2]; rfl), mapO_at h.2]
  cases t <;> simp_all [Tl.stripR, Tl.pure]
theorem fr_pure {n : Nat} {s : ASt} {x : AV} (h : pureAV x = true) : frz n s x = s := by
 cases n with
 | zero => rfl
 | succ n => exact frz_pure h
theorem fr_fn {n : Nat} {s : ASt} {f : FuncId} {l : List AV} : frz (n + 1) s (.fn f l) = if pureAVs l then s else l.foldl (frz n) s := by
 rw [frz, pv_fn]
theorem fr_agg {n : Nat} {s : ASt} {l : List AV} : frz (n + 1) s (.agg l) = if pureAVs l then s else l.foldl (frz n) s := by
 rw [frz, pv_agg]
theorem fr_tup {n : Nat} {s : ASt} {l : List AV} : frz (n + 1) s (.tup l) = if pureAVs l then s else l.foldl (frz n) s := by
 rw [frz, pv_tup]
theorem pv_ptr {i o : Nat} : pureAV (.ptr i o) = false := by rw [pureAV]; all_goals (intros; simp_all)
theorem pv_bs {i o n es : Nat} {ag : Bool} : pureAV (.bs i o n es ag) = false := by rw [pureAV]; all_goals (intros; simp_all)
theorem pv_mp {i : Nat} : pureAV (.mp i) = false := by rw [pureAV]; all_goals (intros; simp_all)
theorem fr_ptr {n : Nat} {s : ASt} {i o : Nat} : frz (n + 1) s (.ptr i o) = match s.H[i]? with
  | some (.cells _ c) => c.foldl (frz n) (s.fz i)
  | _ => s := by
 rw [frz]; simp only [pv_ptr, Bool.false_eq_true, if_false]; rfl
theorem pvs_append : ∀ {l m : List AV}, pureAVs (l ++ m) = (pureAVs l && pureAVs m)
 | [], m => by simp [pvs_nil]
 | x :: l, m => by simp [pvs_cons, pvs_append (l := l) (m := m), Bool.and_assoc]
theorem cells_pure {x : AV} (h : pureAV x = true) : pureAVs x.cells = true := by
 cases x with
 | agg l => rw [cells_agg, ← pv_agg]; exact h
 | _ => simp only [AV.cells, pvs_cons, pvs_nil, h, Bool.and_true]
theorem flat_pure : ∀ {l : List AV}, pureAVs l = true → pureAVs (flat l) = true
 | [], _ => by rw [flat_nil, pvs_nil]
 | x :: l, h => by
  simp only [pvs_cons, Bool.and_eq_true] at h
  rw [flat_cons, pvs_append, cells_pure h.1, flat_pure h.2]; rfl
theorem fr_sl {n : Nat} {s : ASt} {l : List AV} {t : Tl} (h : pureAVs l = true) : frz n s (.sl l t) = s := by
 cases n with
 | zero => rfl
 | succ n =>
  cases ht : t.pure with
  | true => exact frz_pure (by rw [pv_sl, ht, h]; rfl)
  | false =>
   rw [frz]
   simp only [pv_sl, ht, Bool.false_and, Bool.false_eq_true, if_false]
   exact frzs_pure (flat_pure h)
theorem srcA_sl {s : ASt} {l : List AV} {t : Tl} : srcA s (.sl l t) = some l := Eq.trans rfl rfl
theorem srcA_str {s : ASt} {b : ByteArray} : srcA s (.v (.string b)) = some (b.toList.map fun c => .v (.int .u8 c.toNat)) := Eq.trans rfl rfl
theorem elemsA_sl {s : ASt} {l : List AV} {t : Tl} : elemsA s (.sl l t) = some l := Eq.trans rfl rfl
end
section
variable {md : FuncId → Md} {pfs : FuncId → Option PF}
theorem Out.callP {f : FuncId} {args args' : List AV} {PR : AV → Prop} (h : Out md pfs f args' PR fun _ => False) (hm : md f = .pure) {s : ASt} (hp : mapO (purify 20 s) args = some args') : ∃ v, PR v ∧ ∀ K KP, CW (run md pfs) md false s f args K KP () = K v (args.foldl (frz 20) s) := by
 obtain ⟨out, s', out', h1, h2, h3⟩ := h
 cases out' with
 | pan v => exact h3.elim
 | ret v => exact ⟨v, h3, fun K KP => by simp [CW, callA, hm, hp, h1, h2]⟩
end
end Go.Proofs.Eng
namespace Go.Proofs.Eng
open Go
theorem app_get_len {α : Type} {H l : List α} : (H ++ l)[H.length]? = l[0]? := by rw [List.getElem?_append_right (Nat.le_refl _), Nat.sub_self]
theorem app_get_add {α : Type} {H l : List α} {k : Nat} : (H ++ l)[H.length + k]? = l[k]? := by rw [List.getElem?_append_right (Nat.le_add_right _ _), Nat.add_sub_cancel_left]
theorem app_set_len {α : Type} {H l : List α} {y : α} : (H ++ l).set H.length y = H ++ l.set 0 y := by rw [List.set_append_right _ _ (Nat.le_refl _), Nat.sub_self]
theorem app_set_add {α : Type} {H l : List α} {k : Nat} {y : α} : (H ++ l).set (H.length + k) y = H ++ l.set k y := by rw [List.set_append_right _ _ (Nat.le_add_right _ _), Nat.add_sub_cancel_left]
theorem app_get_of {α : Type} {H : List α} {i : Nat} {x : α} (h : H[i]? = some x) (l : List α) : (H ++ l)[i]? = some x := by
 rw [List.getElem?_append_left (List.getElem?_eq_some_iff.1 h).1]; exact h
theorem lt_of_get {α : Type} {H : List α} {i : Nat} {x : α} (h : H[i]? = some x) : i < H.length := (List.getElem?_eq_some_iff.1 h).1
section
variable {md : FuncId → Md} {pfs : FuncId → Option PF}
def Sh (md : FuncId → Md) (pfs : FuncId → Option PF) (f : FuncId) (args : List AV) (s : ASt) (PR PP : AV → ASt → Prop) : Prop :=
 ∃ out s1 out', run md pfs f args s = some (out, s1) ∧ out.purify 20 s1 = some out' ∧ match out' with | .ret v => PR v (out.frz 20 s1) | .pan v => PP v (out.frz 20 s1)
def SQ (res : List PR) (PR PP : AV → ASt → Prop) : AExit → St → Prop
 | .pan v, st => st.df = [] ∧ ∃ v', purify 20 st.s v = some v' ∧ PP v' (frz 20 st.s v)
 | .exit _, _ => False
 | _, st => st.df = [] ∧ ∃ l, resA st.tm st.s res = some l ∧ ∃ v', purify 20 st.s (oneA l) = some v' ∧ PR v' (frz 20 st.s (oneA l))
theorem SQ_ret {res : List PR} {PR PP : AV → ASt → Prop} {st : St} : SQ res PR PP .ret st = (st.df = [] ∧ ∃ l, resA st.tm st.s res = some l ∧ ∃ v', purify 20 st.s (oneA l) = some v' ∧ PR v' (frz 20 st.s (oneA l))) := rfl
theorem SQ_normal {res : List PR} {PR PP : AV → ASt → Prop} {st : St} : SQ res PR PP .normal st = (st.df = [] ∧ ∃ l, resA st.tm st.s res = some l ∧ ∃ v', purify 20 st.s (oneA l) = some v' ∧ PR v' (frz 20 st.s (oneA l))) := rfl
theorem SQ_pan {res : List PR} {PR PP : AV → ASt → Prop} {v : AV} {st : St} : SQ res PR PP (.pan v) st = (st.df = [] ∧ ∃ v', purify 20 st.s v = some v' ∧ PP v' (frz 20 st.s v)) := rfl
theorem sh_of {f : FuncId} {pf : PF} (hp : pfs f = some pf) {args : List AV} {s : ASt} {PR PP : AV → ASt → Prop} (hn : args.length ≤ pf.nt) (h : W (run md pfs) md pf.body ⟨tmE pf.nt (argsE args), [], s⟩ (SQ pf.res PR PP) ()) : Sh md pfs f args s PR PP := by
 unfold Sh
 rw [run_eq hp (W_ora h)]
 unfold bodyI
 rw [args_tm args pf.nt hn]
 unfold W at h
 cases hx : execL (run md pfs) md (loopI (run md pfs) md) pf.body ⟨tmE pf.nt (argsE args), [], s⟩ with
 | none => rw [hx] at h; exact h.elim
 | some x =>
  obtain ⟨r, st⟩ := x
  obtain ⟨tm, df, s⟩ := st
  rw [hx] at h
  cases r with
  | exit i => exact h.elim
  | pan v =>
   obtain ⟨h1, v', h2, h3⟩ := h
   simp only at h1; subst h1
   exact ⟨.pan v, s, .pan v', by simp only [List.isEmpty_nil, Bool.not_true, Bool.and_false, Bool.false_eq_true, if_false]; rfl, by simp only [Outc.purify]; rw [h2]; rfl, h3⟩
  | normal =>
   obtain ⟨h1, l, h2, v', h3, h4⟩ := h
   simp only at h1; subst h1
   refine ⟨.ret (oneA l), s, .ret v', ?_, by simp only [Outc.purify]; rw [h3]; rfl, h4⟩
   simp only [List.isEmpty_nil, Bool.not_true, Bool.and_false, Bool.false_eq_true, if_false]
   show (resA tm s pf.res).map _ = _
   simp only at h2
   rw [h2]; rfl
  | ret =>
   obtain ⟨h1, l, h2, v', h3, h4⟩ := h
   simp only at h1; subst h1
   refine ⟨.ret (oneA l), s, .ret v', ?_, by simp only [Outc.purify]; rw [h3]; rfl, h4⟩
   simp only [List.isEmpty_nil, Bool.not_true, Bool.and_false, Bool.false_eq_true, if_false]
   show (resA tm s pf.res).map _ = _
   simp only at h2
   rw [h2]; rfl
theorem Sh.call {f : FuncId} {args : List AV} {s : ASt} {PR PP : AV → ASt → Prop} (h : Sh md pfs f args s PR PP) (hm : md f = .shared) : (∃ v s', PR v s' ∧ ∀ K KP, CW (run md pfs) md false s f args K KP () = K v s') ∨ (∃ v s', PP v s' ∧ ∀ K KP, CW (run md pfs) md false s f args K KP () = KP v s') := by
 obtain ⟨out, s1, out', h1, h2, h3⟩ := h
 cases out' with
 | ret v => exact .inl ⟨v, _, h3, fun K KP => by simp [CW, callA, hm, h1, h2]⟩
 | pan v => exact .inr ⟨v, _, h3, fun K KP => by simp [CW, callA, hm, h1, h2]⟩
theorem Sh.mono {f : FuncId} {args : List AV} {s : ASt} {PR PP PR' PP' : AV → ASt → Prop} (h : Sh md pfs f args s PR PP) (h1 : ∀ v s, PR v s → PR' v s) (h2 : ∀ v s, PP v s → PP' v s) : Sh md pfs f args s PR' PP' := by
 obtain ⟨out, s1, out', e1, e2, e3⟩ := h
 refine ⟨out, s1, out', e1, e2, ?_⟩
 cases out' with
 | ret v => exact h1 _ _ e3
 | pan v => exact h2 _ _ e3
end
end Go.Proofs.Eng
namespace Go.Proofs.Eng
open Go
set_option maxRecDepth 10000
def wpre := And.intro @W_seq (And.intro @W_reg (And.intro @W_exit (And.intro @W_ret (And.intro @W_skip (And.intro @W_block (And.intro @W_if (And.intro @LQ_n (And.intro @LQ_r (And.intro @LQ_e (And.intro @LQ_p (And.intro @BQ_n (And.intro @BQ_r (And.intro @BQ_e (And.intro @BQ_p (And.intro @WS_nil (And.intro @WS_cons (And.intro @HW_nil (And.intro @HW_cons (And.intro @HW_nil_p (And.intro @W_dreg_nil (And.intro @W_dreg (And.intro @W_dregc (And.intro @PW_nil (And.intro @PW_cons (And.intro @KQ_n (@KQ_p))))))))))))))))))))))))))
def wset := And.intro @IW_t (And.intro @IW_f (And.intro @OW_val (And.intro @OW_call (And.intro @OW_panic (And.intro @OW_dfr (And.intro @OW_ite (And.intro @OW_map (And.intro @OW_bind (And.intro @GW_t (And.intro @GW_f (And.intro @wanted_n (And.intro @wantV_tt (And.intro @wantV_tf (And.intro @wantV_ft (And.intro @wantV_ff (And.intro @wantV_u (And.intro @DW_nil (And.intro @DW_cons (And.intro @oz_mov (And.intro @oz_pick (And.intro @oz_alloc (And.intro @oz_box (And.intro @oz_build (And.intro @oz_bsl (And.intro @oz_load (And.intro @oz_store (And.intro @oz_nilck (And.intro @oz_bin (And.intro @oz_eqb (And.intro @oz_eqi (And.intro @oz_eqs (And.intro @oz_eqg (And.intro @oz_slcA (And.intro @oz_appl (And.intro @oz_un (And.intro @oz_conv (And.intro @oz_smov (And.intro @oz_bstr (And.intro @oz_mkif (And.intro @oz_mkfn (And.intro @oz_mkmap (And.intro @oz_mksl (And.intro @oz_slice (And.intro @oz_strsl (And.intro @oz_faddr (And.intro @oz_fld (And.intro @oz_iaddr (And.intro @oz_iaddrA (And.intro @oz_idxA (And.intro @oz_idxS (And.intro @oz_look (And.intro @oz_mapup (And.intro @oz_ext (And.intro @oz_tass (And.intro @oz_call (And.intro @oz_app (And.intro @oz_clone (And.intro @clnA_nil (And.intro @clnA_cons (And.intro @oz_lenS (And.intro @oz_lenT (And.intro @oz_lenM (And.intro @oz_lenA (And.intro @oz_max (And.intro @oz_min (And.intro @oz_recov (And.intro @oz_dfr (And.intro @oz_panic (And.intro @evX_t (And.intro @evX_c (And.intro @put_t (And.intro @put_n (And.intro @updE_eq (And.intro @updE_ne (And.intro @cells_agg (And.intro @known_agg (And.intro @cells_v (And.intro @known_v (And.intro @cells_ip (And.intro @known_ip (And.intro @cells_ptr (And.intro @known_ptr (And.intro @cells_sl (And.intro @known_sl (And.intro @cells_bs (And.intro @known_bs (And.intro @cells_mp (And.intro @known_mp (And.intro @cells_fn (And.intro @known_fn (And.intro @cells_iface (And.intro @known_iface (And.intro @onec_v (And.intro @onec_ip (And.intro @onec_ptr (And.intro @onec_sl (And.intro @onec_bs (And.intro @onec_mp (And.intro @onec_fn (And.intro @onec_iface (And.intro @RQ_ret (And.intro @RQ_normal (And.intro @RQ_pan (And.intro @tmE_get (And.intro @purify_pure (And.intro @pv_v (And.intro @pv_sl (And.intro @pv_agg (And.intro @pv_tup (And.intro @pv_iface (And.intro @pv_fn (And.intro @pv_ip (And.intro @pvs_nil (And.intro @pvs_cons (And.intro @tp_nil (And.intro @tp_none (And.intro @tp_cap (And.intro @set_concat (And.intro @ex_and_eq (And.intro @pz_fn (And.intro @pz_ptr (And.intro @pz_tup (And.intro @pz_iface (And.intro @fr_pure (And.intro @fr_fn (And.intro @fr_agg (And.intro @fr_tup (And.intro @fr_ptr (And.intro @pv_ptr (And.intro @pv_bs (And.intro @pv_mp (And.intro @fr_sl (And.intro @srcA_sl (And.intro @srcA_str (And.intro @elemsA_sl (And.intro @empty_str (And.intro @SQ_ret (And.intro @SQ_normal (And.intro @SQ_pan (And.intro @QW_cons (And.intro @CK_nil (And.intro @CK_cons (And.intro @JW_t (And.intro @JW_f (And.intro @kz_load (And.intro @kz_mov (And.intro @kz_pick (And.intro @kz_build (And.intro @kz_bsl (And.intro @kz_nilck (And.intro @kz_bin (And.intro @kz_eqb (And.intro @kz_eqi (And.intro @kz_eqs (And.intro @kz_un (And.intro @kz_conv (And.intro @kz_smov (And.intro @kz_mkif (And.intro @kz_faddr (And.intro @kz_fld (And.intro @kz_iaddr (And.intro @kz_lenS (And.intro @kz_lenT (And.intro @kz_ext (@kz_slice)))))))))))))))))))))))))))))))))))))))))))))))))))))))))))))))))))))))))))))))))))))))))))))))))))))))))))))))))))))))))))))))))))))))))))))))))))))))))))))))))))))
def wcore := And.intro @not_false_eq_true (And.intro @Option.map_some.{0,0} (And.intro @Option.bind_some.{0,0} (And.intro @Option.some.injEq.{0} (And.intro @Bool.false_eq_true (And.intro @List.nil_append.{0} (And.intro @List.cons_append.{0} (And.intro @List.length_cons.{0} (And.intro @List.length_nil.{0} (And.intro @List.getElem?_cons_zero.{0} (And.intro @List.getElem?_cons_succ.{0} (And.intro @List.set_cons_zero.{0} (And.intro @List.set_cons_succ.{0} (And.intro @List.drop_zero.{0} (And.intro @List.drop_succ_cons.{0} (And.intro @List.take_zero.{0} (And.intro @List.take_succ_cons.{0} (And.intro @List.take_nil.{0} (And.intro @List.drop_nil.{0} (And.intro @List.append_nil.{0} (And.intro @Nat.zero_add (And.intro @Nat.add_zero (And.intro @and_true (And.intro @true_and (And.intro @List.all_cons.{0} (And.intro @List.all_nil.{0} (And.intro @Bool.and_true (And.intro @Bool.true_and (And.intro @List.getD_cons_zero.{0} (And.intro @List.getD_cons_succ.{0} (And.intro @List.getD_nil.{0} (And.intro @List.head?_cons.{0} (And.intro @decide_eq_true_eq (And.intro @decide_eq_false_iff_not (And.intro @List.getElem?_concat_length.{0} (And.intro @Int.toNat_natCast (And.intro @Nat.le_refl (And.intro @Int.le_refl (And.intro @List.head?_nil.{0} (And.intro @Option.ite_none_right_eq_some.{0} (And.intro @and_self (And.intro @Bool.not_true (And.intro @Bool.not_false (And.intro @Option.isSome_some.{0} (And.intro @Option.isSome_none.{0} (And.intro @Bool.xor_false (And.intro @Bool.false_xor (And.intro @Bool.true_xor (And.intro @Bool.xor_true (And.intro @beq_self_eq_true.{0} (And.intro @bne_self_eq_false.{0} (And.intro @decide_true (And.intro @decide_false (And.intro @Option.getD_some.{0} (And.intro @Nat.zero_le (And.intro @Int.natCast_nonneg (And.intro @List.foldl_cons.{0,0} (And.intro @List.foldl_nil.{0,0} (And.intro @Bool.and_false (And.intro @Bool.false_and (And.intro @List.replicate_succ.{0} (And.intro @List.replicate_zero.{0} (And.intro @Nat.zero_div (And.intro @Nat.zero_mul (And.intro @Nat.lt_add_one (And.intro @Nat.zero_lt_succ (And.intro @Nat.lt_irrefl (And.intro @Int.cast_ofNat_Int (And.intro @Int.toNat_zero (And.intro @Int.toNat_one (And.intro @List.contains_cons.{0} (And.intro @List.contains_nil.{0} (And.intro @Bool.or_false (And.intro @Bool.or_true (And.intro @Bool.false_or (@Bool.true_or)))))))))))))))))))))))))))))))))))))))))))))))))))))))))))))))))))))))))))
end Go.Proofs.Eng
namespace Go.Proofs.Eng
open Go
def Rows5 (es : Nat) (l : List AV) : Prop := ∀ x ∈ l, ∃ c, x = .agg c ∧ c.length = es ∧ c.all oneCell = true
theorem Rows5.set {es : Nat} {l : List AV} (h : Rows5 es l) (m : Nat) {c : List AV} (hc : c.length = es) (ho : c.all oneCell = true) : Rows5 es (l.set m (.agg c)) := by
 intro x hx
 rcases List.mem_or_eq_of_mem_set hx with h1 | rfl
 ·exact h x h1
 ·exact ⟨c, rfl, hc, ho⟩
theorem LIs.rows {α : Type} {R : α → AV → Prop} {es : Nat} (hR : AggR R es) : ∀ {l : List α} {al : List AV}, LIs R l al → Rows5 es al
 | [], [], _ => fun x hx => by simp at hx
 | a :: l, b :: al, h => fun x hx => by
  simp only [LIs] at h
  rcases List.mem_cons.1 hx with rfl | hx
  ·exact hR.cells h.1
  ·exact LIs.rows hR h.2 x hx
 | [], _ :: _, h => by simp [LIs] at h
 | _ :: _, [], h => by simp [LIs] at h
end Go.Proofs.Eng
