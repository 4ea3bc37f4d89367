/- The reference's PutTerms. No conditions beyond those in the theorems. -/
import Derived.Test.YtjiheebhmokfbaaDoorA2
import Derived.Test.YtjiheebhmokfbaaDoorT3
import Derived.Test.YtjiheebhmokfbaaDoorWX
set_option linter.all false
set_option linter.deprecated false
set_option linter.unnecessarySimpa false
set_option linter.unusedVariables false
set_option linter.unusedSimpArgs false
set_option linter.defProp false
namespace Go.Proofs.Eng
open Go Go.Proofs
set_option maxRecDepth 100000
set_option maxHeartbeats 16000000
def Nd.Is (n : Nd) (a : AV) : Prop := ∃ t1 t2 las, a = .agg [.int n.k, .int n.i, .str n.n, .sl las t1, .sl (ints n.kids) t2] ∧ t1.pure = true ∧ t2.pure = true ∧ in64 n.k ∧ in64 n.i ∧ n.n.size ≤ lenB ∧ las.length ≤ lenB ∧ n.kids.length ≤ lenB ∧ LIs Lv.Is n.ls las ∧ ∀ x ∈ n.kids, in64 x
theorem ndPure {n : Nd} {a : AV} (h : n.Is a) : pureAV a = true := by
 obtain ⟨t1, t2, las, rfl, h1, h2, _, _, _, _, _, h3, _⟩ := h
 simp [pv_agg, pv_v, pv_sl, pvs_cons, pvs_nil, lvsPure h3, ints_pure, h1, h2]
theorem ndAgg : AggR Nd.Is 5 := ⟨fun {x a} h => by obtain ⟨t1, t2, las, rfl, _⟩ := h; exact ⟨_, rfl, rfl, rfl⟩, fun {x a} h => ndPure h⟩
def spN (x : Int) : List UInt8 := 32 :: numF x
def vT (v : Int × Int) : List UInt8 := spN v.1 ++ spN v.2
def lvT (l : Lv) : List UInt8 := spN l.c ++ (spN l.vs.length ++ l.vs.flatMap vT)
def headT (n : Nd) : List UInt8 := numF n.k ++ (spN n.i ++ spN n.ls.length)
def bodyT (n : Nd) : List UInt8 := headT n ++ (n.ls.flatMap lvT ++ n.kids.flatMap spN)
def keyX (n : Nd) : List UInt8 := bodyT n ++ 32 :: n.n.toList
theorem flat_step {α : Type} {f : α → List UInt8} {l : List α} {j : Nat} {x : α} (h : l[j]? = some x) : (l.take (j + 1)).flatMap f = (l.take j).flatMap f ++ f x := by
 rw [List.take_add_one, h, List.flatMap_append]; simp
theorem flat_le {α : Type} {f : α → List UInt8} {l : List α} {j : Nat} {x : α} (h : l[j]? = some x) : ((l.take j).flatMap f).length + (f x).length ≤ (l.flatMap f).length := by
 have h1 := flat_step (f := f) h
 have h2 : l.flatMap f = (l.take (j + 1)).flatMap f ++ (l.drop (j + 1)).flatMap f := by rw [← List.flatMap_append, List.take_append_drop]
 rw [h2, h1, List.length_append, List.length_append]; omega
theorem add_call {l : List UInt8} {x : Int} (hx : in64 x) (hl : l.length + 22 ≤ capB) {H : List AObj} {T : List Nat} {t : Tl} {p : Nat} (hp : H[p]? = some (.cells false [.sl (bytes l) t])) (h : App T (bytes l) t) :
  ∃ v t' H' T', KeptX p H H' ∧ H'[p]? = some (.cells false [.sl (bytes (l ++ spN x)) t']) ∧ App T' (bytes (l ++ spN x)) t' ∧ ∀ K KP, CW (run md pfs) md false ⟨H, T⟩ 69 [.int x, .ptr p 0] K KP () = K v ⟨H', T'⟩ := by
 rcases (add_sh hx hl hp h).call rfl with ⟨v, _, ⟨t', H', T', rfl, h1, h2, h3⟩, h4⟩ | ⟨_, _, h, _⟩
 ·exact ⟨v, t', H', T', h1, h2, h3, h4⟩
 ·exact h.elim
theorem KeptX.get {p k : Nat} {H H' : List AObj} {o : AObj} (h : KeptX p H H') (hk : H[k]? = some o) (hp : k ≠ p) : H'[k]? = some o := by rw [h.2 k (lt_of_get hk) hp]; exact hk
theorem KeptX.trans {p : Nat} {A B C : List AObj} (h : KeptX p A B) (k : KeptX p B C) : KeptX p A C := ⟨Nat.le_trans h.1 k.1, fun i hi hp => (k.2 i (Nat.lt_of_lt_of_le hi h.1) hp).trans (h.2 i hi hp)⟩
theorem key_ret {n : Nd} {a : AV} (h : n.Is a) (hl : (keyX n).length ≤ 1000000000) : Out md pfs 37 [a] (· = .str (strOf (keyX n))) fun _ => False := by
 obtain ⟨k, i, nm, ls, kids⟩ := n
 obtain ⟨nl, rfl⟩ : ∃ nl, nm = strOf nl := ⟨nm.toList, (of_str nm).symm⟩
 obtain ⟨t1, t2, las, rfl, g1, g2, g3, g4, g5, g6, g7, g8, g9⟩ := h
 simp only at g1 g2 g3 g4 g5 g6 g7 g8 g9
 have hll := g8.len
 have hall := g8.all lvAgg
 have hia := ints_all kids
 have hkl : (keyX ⟨k, i, strOf nl, ls, kids⟩).length = (headT ⟨k, i, strOf nl, ls, kids⟩).length + ((ls.flatMap lvT).length + (kids.flatMap spN).length) + (1 + nl.length) := by
  simp [keyX, bodyT, List.length_append, strOf_toList]; omega
 have hhl : (headT ⟨k, i, strOf nl, ls, kids⟩).length = (numF k).length + ((spN i).length + (spN ls.length).length) := by simp [headT, List.length_append]
 have hHT : headT ⟨k, i, strOf nl, ls, kids⟩ = numF k ++ (spN i ++ spN ls.length) := rfl
 generalize hHD : headT ⟨k, i, strOf nl, ls, kids⟩ = HD at *
 refine out_of pf37_is (Nat.le_of_ble_eq_true rfl) ?_
 generalize hB : AObj.cells false [AV.int k, AV.int i, AV.str (strOf nl), AV.sl las t1, AV.sl (ints kids) t2] = B
 obtain ⟨_, _, ⟨u1, G1, T1, rfl, rfl, a1, _⟩, c1⟩ := (appendInt_rw (l := []) (x := k) (H := [B]) (T := []) (t := .nil) g3 (by simp [capB]) (.inl ⟨rfl, rfl⟩)).call rfl
 rw [List.nil_append] at a1
 simp only [List.nil_append] at c1
 rw [show (bytes [] : List AV) = [] from rfl] at c1
 have hnk := numF_len g3
 obtain ⟨v2, u2, H2, T2, k2, p2, a2, c2⟩ := add_call (x := i) (H := B :: (G1 ++ [AObj.cells false [AV.sl (bytes (numF k)) u1]])) (p := G1.length + 1) g4 (by unfold capB; omega) (by simp) a1
 have z2 := k2.get (k := 0) rfl (by omega)
 have hni := numF_len g4
 have hlin : in64 (ls.length : Int) := by unfold in64; unfold lenB at g6; omega
 obtain ⟨v3, u3, H3, T3, k3, p3, a3, c3⟩ := add_call (x := (ls.length : Int)) (H := H2) hlin (by unfold capB; simp [spN]; omega) p2 a2
 have z3 := k3.get z2 (by omega)
 subst hB
 rw [← hll] at c3
 simp only [pf37, ↓wpre, wall, simprocAttr, List.length_append, List.append_assoc, app_get_len, app_get_add, app_set_len, app_set_add, c1, c2, z2, c3, z3]
 refine W_loopE (fun j => las.length - j) (fun j E H T => ∃ u cur, H[0]? = some (.cells false [AV.int k, AV.int i, AV.str (strOf nl), AV.sl las t1, AV.sl (ints kids) t2]) ∧ H[G1.length + 1]? = some (.cells false [.sl (bytes cur) u]) ∧ App T (bytes cur) u ∧ E 1 = .ptr 0 0 ∧ E 3 = .ptr (G1.length + 1) 0 ∧ E 4 = .fn 69 [.ptr (G1.length + 1) 0] ∧ E 25 = .sl las t1 ∧ E 26 = .int las.length ∧ E 27 = .int (j : Nat) ∧ j ≤ las.length ∧ cur = HD ++ (ls.take j).flatMap lvT) ?_ 0 ⟨_, _, z3, p3, a3, rfl, rfl, rfl, rfl, rfl, rfl, Nat.zero_le _, by simp [hHT, List.append_assoc]⟩
 clear c1 c2 c3 z2 z3 p2 p3 a1 a2 a3 k2 k3
 rintro j E H T ⟨u, cur, z0, pp, aa, e1, e3, e4, e25, e26, e27, hj, hcur⟩
 rcases Nat.lt_or_ge j las.length with hlt | hge
 ·have hdec : decide ((j : Int) < las.length) = true := by simpa using hlt
  obtain ⟨x, c, d0, d1, d3, d4, d5, d6, d7, d8⟩ := g8.get lvAgg hlt
  have hfl := flat_le (f := lvT) d0
  have hcl : cur.length = HD.length + ((ls.take j).flatMap lvT).length := by rw [hcur, List.length_append]
  have hlx : (lvT x).length = (spN x.c).length + ((spN x.vs.length).length + (x.vs.flatMap vT).length) := by simp [lvT]
  obtain ⟨t, vl, hc, b1, b2, b3, b4⟩ := d8
  simp only [AV.agg.injEq] at hc; subst hc
  have hvl := b4.len
  have hva := b4.all varAgg
  have hlp := lt_of_get pp
  have hsx := numF_len b2
  obtain ⟨v2, u2, H2, T2, k2, p2, a2, c2⟩ := add_call (x := x.c) (H := H ++ [.cells false [.int x.c, .sl vl t]]) b2 (by unfold capB; omega) (app_get_of pp _) aa
  have z2 := k2.get (app_get_of z0 _) (by omega)
  have q2 := k2.get (k := H.length) (o := .cells false [.int x.c, .sl vl t]) (by simp) (by omega)
  have hvin : in64 (vl.length : Int) := by unfold in64; unfold lenB at b3; omega
  obtain ⟨v3, u3, H3, T3, k3, p3, a3, c3⟩ := add_call (x := (vl.length : Int)) (H := H2) hvin (by unfold capB; simp [spN] at hlx ⊢; omega) p2 a2
  have z3 := k3.get z2 (by omega)
  have q3 := k3.get q2 (by omega)
  simp only [↓wpre, wall, simprocAttr, List.length_append, List.append_assoc, app_get_len, app_get_add, app_set_len, app_set_add, e1, e3, e4, e25, e26, e27, hdec, d4, d5, d6, hall, c2, q2, c3, q3]
  rw [hvl] at p3 a3
  refine W_loopE (fun m => vl.length - m) (fun m E H T => ∃ u cur2, H[0]? = some (.cells false [AV.int k, AV.int i, AV.str (strOf nl), AV.sl las t1, AV.sl (ints kids) t2]) ∧ H[G1.length + 1]? = some (.cells false [.sl (bytes cur2) u]) ∧ App T (bytes cur2) u ∧ E 1 = .ptr 0 0 ∧ E 3 = .ptr (G1.length + 1) 0 ∧ E 4 = .fn 69 [.ptr (G1.length + 1) 0] ∧ E 25 = .sl las t1 ∧ E 26 = .int las.length ∧ E 27 = .int (j : Nat) ∧ E 41 = .sl vl t ∧ E 42 = .int vl.length ∧ E 43 = .int (m : Nat) ∧ m ≤ vl.length ∧ cur2 = cur ++ spN x.c ++ spN (x.vs.length : Int) ++ (x.vs.take m).flatMap vT) ?_ 0 ⟨_, _, z3, p3, a3, e1, e3, e4, e25, e26, e27, rfl, rfl, rfl, Nat.zero_le _, by simp⟩
  clear c2 c3 z2 z3 q2 q3 p2 p3 a2 a3 k2 k3 e1 e3 e4 e25 e26 e27 z0 pp aa hlp
  clear E H T
  rintro m E H T ⟨u, cur2, z0, pp, aa, e1, e3, e4, e25, e26, e27, e41, e42, e43, hm, hcur2⟩
  rcases Nat.lt_or_ge m vl.length with hml | hmg
  ·have hdec : decide ((m : Int) < vl.length) = true := by simpa using hml
   obtain ⟨v, c, f0, f1, f3, f4, f5, f6, f7, f8⟩ := b4.get varAgg hml
   have hfl2 := flat_le (f := vT) f0
   obtain ⟨hc, i1, i2⟩ := f8
   simp only [AV.agg.injEq] at hc; subst hc
   have hlv : (vT v).length = (spN v.1).length + (spN v.2).length := by simp [vT]
   have hcl2 : cur2.length = cur.length + (spN x.c).length + (spN (x.vs.length : Int)).length + ((x.vs.take m).flatMap vT).length := by rw [hcur2]; simp only [List.length_append]
   have hn1 := numF_len i1
   have hn2 := numF_len i2
   have hlp := lt_of_get pp
   obtain ⟨v2, u2, H2, T2, k2, p2, a2, c2⟩ := add_call (x := v.1) (H := H ++ [.cells false [.int v.1, .int v.2]]) i1 (by unfold capB; omega) (app_get_of pp _) aa
   have z2 := k2.get (app_get_of z0 _) (by omega)
   have q2 := k2.get (k := H.length) (o := .cells false [.int v.1, .int v.2]) (by simp) (by omega)
   obtain ⟨v3, u3, H3, T3, k3, p3, a3, c3⟩ := add_call (x := v.2) (H := H2) i2 (by unfold capB; simp only [List.length_append]; omega) p2 a2
   have z3 := k3.get z2 (by omega)
   simp only [↓wpre, wall, simprocAttr, List.length_append, List.append_assoc, app_get_len, app_get_add, app_set_len, app_set_add, e1, e3, e4, e25, e26, e27, e41, e42, e43, hdec, f4, f5, f6, hva, c2, q2, c3]
   exact EQ_in ⟨m + 1, by omega, _, _, z3, p3, a3, e1, e3, e4, e25, e26, e27, e41, e42, next_ixv (by omega), by omega, by rw [flat_step f0, hcur2]; simp only [vT, List.append_assoc]⟩
  ·have hdec : decide ((m : Int) < vl.length) = false := by simpa using hmg
   rw [List.take_of_length_le (by omega)] at hcur2
   simp only [↓wpre, wall, simprocAttr, e1, e3, e4, e25, e26, e27, e41, e42, e43, hdec]
   exact EQ_in ⟨j + 1, by omega, _, _, z0, pp, aa, e1, e3, e4, e25, e26, next_ixv (by omega), by omega, by rw [flat_step d0, hcur2, hcur]; simp only [lvT, List.append_assoc]⟩
 ·have hdec : decide ((j : Int) < las.length) = false := by simpa using hge
  rw [List.take_of_length_le (by omega)] at hcur
  simp only [↓wpre, wall, simprocAttr, e1, e3, e4, e25, e26, e27, hdec, z0]
  refine W_loopE (fun j => kids.length - j) (fun j E H T => ∃ u cur2, H[0]? = some (.cells false [AV.int k, AV.int i, AV.str (strOf nl), AV.sl las t1, AV.sl (ints kids) t2]) ∧ H[G1.length + 1]? = some (.cells false [.sl (bytes cur2) u]) ∧ App T (bytes cur2) u ∧ E 1 = .ptr 0 0 ∧ E 3 = .ptr (G1.length + 1) 0 ∧ E 4 = .fn 69 [.ptr (G1.length + 1) 0] ∧ E 58 = .sl (ints kids) t2 ∧ E 59 = .int kids.length ∧ E 60 = .int (j : Nat) ∧ j ≤ kids.length ∧ cur2 = cur ++ (kids.take j).flatMap spN) ?_ 0 ⟨_, _, z0, pp, aa, e1, e3, e4, rfl, by simp [updE, ints_len], rfl, Nat.zero_le _, by simp⟩
  have hcl : cur.length = HD.length + (ls.flatMap lvT).length := by rw [hcur, List.length_append]
  clear e1 e3 e4 e25 e26 e27 z0 pp aa
  clear E H T
  rintro m E H T ⟨u, cur2, z0, pp, aa, e1, e3, e4, e58, e59, e60, hm, hcur2⟩
  rcases Nat.lt_or_ge m kids.length with hml | hmg
  ·have hdec : decide ((m : Int) < kids.length) = true := by simpa using hml
   obtain ⟨x, f0, f1, f2⟩ := ints_get hml
   have hfl2 := flat_le (f := spN) f0
   have hx : in64 x := g9 x (List.mem_of_getElem? f0)
   have hcl2 : cur2.length = cur.length + ((kids.take m).flatMap spN).length := by rw [hcur2]; simp only [List.length_append]
   have hn1 := numF_len hx
   obtain ⟨v2, u2, H2, T2, k2, p2, a2, c2⟩ := add_call (x := x) (H := H) hx (by unfold capB; omega) pp aa
   have z2 := k2.get z0 (by omega)
   simp only [↓wpre, wall, simprocAttr, List.length_append, List.append_assoc, app_get_len, app_get_add, app_set_len, app_set_add, e1, e3, e4, e58, e59, e60, hdec, f2, hia, c2]
   exact EQ_in ⟨m + 1, by omega, _, _, z2, p2, a2, e1, e3, e4, e58, e59, next_ixv (by omega), by omega, by rw [flat_step f0, hcur2]; simp only [List.append_assoc]⟩
  ·have hdec : decide ((m : Int) < kids.length) = false := by simpa using hmg
   rw [List.take_of_length_le (by omega)] at hcur2
   have hcl2 : cur2.length = cur.length + (kids.flatMap spN).length := by rw [hcur2]; simp only [List.length_append]
   have hs1 : (strOf cur2).size + (strOf [32]).size ≤ 1073741824 := by rw [strOf_size, strOf_size, List.length_singleton]; omega
   have hs2 : (strOf (cur2 ++ [32])).size + (strOf nl).size ≤ 1073741824 := by rw [strOf_size, strOf_size, List.length_append, List.length_singleton]; omega
   have hb : (ByteArray.mk cur2.toArray) = strOf cur2 := rfl
   have hb2 : (ByteArray.mk #[32]) = strOf [32] := rfl
   have hr : cur2 ++ [32] ++ nl = keyX ⟨k, i, strOf nl, ls, kids⟩ := by
    rw [keyX, bodyT, hHD, hcur2, hcur]; simp [strOf_toList]
   simp only [↓wpre, wall, simprocAttr, e1, e3, e4, e58, e59, e60, hdec, z0, pp, bytesA_bytes, elemsA_sl, hb, hb2, hs1, strOf_app, hs2, hr]
theorem digF_ge : ∀ (f u : Nat), ∀ c ∈ digF f u, 48 ≤ c.toNat
 | 0, _, c, h => by simp [digF] at h
 | f + 1, u, c, h => by
  rw [digF] at h
  have key : ∀ d, d < 10 → (UInt8.ofNat (48 + d)).toNat = 48 + d := fun d hd => by
   rw [UInt8.toNat_ofNat']; omega
  split at h
  ·simp only [List.mem_singleton] at h
   rw [h, key _ ‹_›]; omega
  ·rcases List.mem_append.1 h with h | h
   ·exact digF_ge f (u / 10) c h
   ·simp only [List.mem_singleton] at h
    rw [h, key _ (by omega)]; omega
def valU (l : List UInt8) : Nat := l.foldl (fun a c => 10 * a + (c.toNat - 48)) 0
theorem valU_digF : ∀ (f u : Nat), u < 10 ^ (f + 1) → valU (digF (f + 1) u) = u
 | 0, u, h => by
  have h : u < 10 := by simpa using h
  have key : (UInt8.ofNat (48 + u)).toNat = 48 + u := by rw [UInt8.toNat_ofNat']; omega
  simp only [digF, h, if_true, valU, List.foldl_cons, List.foldl_nil, key]; omega
 | f + 1, u, h => by
  rw [digF]
  split
  ·have key : (UInt8.ofNat (48 + u)).toNat = 48 + u := by rw [UInt8.toNat_ofNat']; omega
   simp only [valU, List.foldl_cons, List.foldl_nil, key]; omega
  ·have key : (UInt8.ofNat (48 + u % 10)).toNat = 48 + u % 10 := by rw [UInt8.toNat_ofNat']; omega
   have ih := valU_digF f (u / 10) (by rw [Nat.pow_succ] at h; omega)
   unfold valU at ih ⊢
   rw [List.foldl_append, ih]
   simp only [List.foldl_cons, List.foldl_nil, key]; omega
def valN : List UInt8 → Int
 | [] => 0
 | c :: l => if c = 45 then -(valU l : Nat) else (valU (c :: l) : Nat)
theorem valN_numF {n : Int} (h : in64 n) : valN (numF n) = n := by
 unfold in64 at h
 unfold numF
 split
 ·rw [valN, if_pos rfl, valU_digF 19 _ (by omega)]; omega
 ·have hv := valU_digF 19 n.toNat (by omega)
  have hg := digF_ge 20 n.toNat
  generalize digF (19 + 1) n.toNat = L at *
  cases L with
  | nil => rw [valN]; simp [valU] at hv; omega
  | cons c L =>
   have := hg c (by simp)
   rw [valN, if_neg (fun e => by rw [e] at this; exact absurd this (by decide)), hv]; omega
theorem numF_32 {n : Int} : ∀ c ∈ numF n, c ≠ 32 := by
 intro c hc e
 subst e
 unfold numF at hc
 split at hc
 ·rcases List.mem_cons.1 hc with h | h
  ·exact absurd h (by decide)
  ·exact absurd (digF_ge _ _ _ h) (by decide)
 ·exact absurd (digF_ge _ _ _ hc) (by decide)
theorem split_at {a b x y : List UInt8} (ha : ∀ c ∈ a, c ≠ 32) (hb : ∀ c ∈ b, c ≠ 32) (h : a ++ 32 :: x = b ++ 32 :: y) : a = b ∧ x = y := by
 induction a generalizing b with
 | nil =>
  cases b with
  | nil => simpa using h
  | cons c b => simp at h; exact absurd h.1.symm (hb c (by simp))
 | cons c a ih =>
  cases b with
  | nil => simp at h; exact absurd h.1 (ha c (by simp))
  | cons d b =>
   simp only [List.cons_append, List.cons.injEq] at h
   obtain ⟨e1, e2⟩ := ih (fun c hc => ha c (by simp [hc])) (fun c hc => hb c (by simp [hc])) h.2
   exact ⟨by rw [h.1, e1], e2⟩
def nS (x : Int) : List UInt8 := numF x ++ [32]
theorem nS_inj (a b : Int) (x y : List UInt8) (ha : in64 a) (hb : in64 b) (h : nS a ++ x = nS b ++ y) : a = b ∧ x = y := by
 have h' : numF a ++ 32 :: x = numF b ++ 32 :: y := by simpa [nS] using h
 obtain ⟨e1, e2⟩ := split_at numF_32 numF_32 h'
 exact ⟨by rw [← valN_numF ha, e1, valN_numF hb], e2⟩
theorem shift32 : ∀ l : List Int, 32 :: l.flatMap nS = l.flatMap spN ++ [32]
 | [] => rfl
 | x :: l => by
  have := shift32 l
  simp only [List.flatMap_cons, nS, spN, List.append_assoc, List.cons_append, List.nil_append]
  rw [← this]
def lvI (l : Lv) : List Int := l.c :: (l.vs.length : Int) :: l.vs.flatMap fun v => [v.1, v.2]
def tailI (n : Nd) : List Int := n.i :: (n.ls.length : Int) :: (n.ls.flatMap lvI ++ n.kids)
theorem lvT_sp (l : Lv) : lvT l = (lvI l).flatMap spN := by
 have e : ∀ vs : List (Int × Int), vs.flatMap vT = (vs.flatMap fun v => [v.1, v.2]).flatMap spN := by
  intro vs
  induction vs with
  | nil => rfl
  | cons v vs ih => simp [vT, ih]
 simp [lvT, lvI, e]
theorem lvsT_sp : ∀ ls : List Lv, ls.flatMap lvT = (ls.flatMap lvI).flatMap spN
 | [] => rfl
 | l :: ls => by simp [lvT_sp, lvsT_sp ls]
theorem body_sp (n : Nd) : bodyT n = numF n.k ++ (tailI n).flatMap spN := by
 simp [bodyT, headT, tailI, lvsT_sp]
theorem key_sp (n : Nd) : keyX n = (n.k :: tailI n).flatMap nS ++ n.n.toList := by
 have := shift32 (tailI n)
 have e : keyX n = numF n.k ++ ((tailI n).flatMap spN ++ [32]) ++ n.n.toList := by simp [keyX, body_sp]
 rw [e, ← this]
 simp [nS]
def Lv.fine64 (l : Lv) : Prop := in64 l.c ∧ l.vs.length ≤ 70000 ∧ ∀ v ∈ l.vs, in64 v.1 ∧ in64 v.2
def vS (v : Int × Int) : List UInt8 := nS v.1 ++ nS v.2
def lvS (l : Lv) : List UInt8 := nS l.c ++ (nS l.vs.length ++ l.vs.flatMap vS)
theorem lvS_eq (l : Lv) : (lvI l).flatMap nS = lvS l := by
 have e : ∀ vs : List (Int × Int), (vs.flatMap fun v => [v.1, v.2]).flatMap nS = vs.flatMap vS := by
  intro vs
  induction vs with
  | nil => rfl
  | cons v vs ih => simp [vS, ih]
 simp [lvI, lvS, e]
theorem lvsS_eq : ∀ ls : List Lv, (ls.flatMap lvI).flatMap nS = ls.flatMap lvS
 | [] => rfl
 | l :: ls => by simp [lvS_eq, lvsS_eq ls]
theorem vS_inj (a b : Int × Int) (x y : List UInt8) (ha : in64 a.1 ∧ in64 a.2) (hb : in64 b.1 ∧ in64 b.2) (h : vS a ++ x = vS b ++ y) : a = b ∧ x = y := by
 simp only [vS, List.append_assoc] at h
 obtain ⟨h1, h⟩ := nS_inj _ _ _ _ ha.1 hb.1 h
 obtain ⟨h2, h⟩ := nS_inj _ _ _ _ ha.2 hb.2 h
 exact ⟨Prod.ext h1 h2, h⟩
theorem lvS_inj (a b : Lv) (x y : List UInt8) (ha : a.fine64) (hb : b.fine64) (h : lvS a ++ x = lvS b ++ y) : a = b ∧ x = y := by
 simp only [lvS, List.append_assoc] at h
 obtain ⟨h1, h⟩ := nS_inj _ _ _ _ ha.1 hb.1 h
 obtain ⟨h2, h⟩ := nS_inj _ _ _ _ (by unfold in64; have := ha.2.1; omega) (by unfold in64; have := hb.2.1; omega) h
 obtain ⟨h3, h⟩ := flat_inj vS_inj _ _ _ _ (by omega) ha.2.2 hb.2.2 h
 refine ⟨?_, h⟩
 cases a; cases b
 simp only at h1 h3
 subst h1; subst h3; rfl
theorem valid_64 {l : Lv} (h : validB l = true) : l.fine64 := by
 obtain ⟨⟨h0, h1⟩, h2, h3⟩ := valid_fine h
 refine ⟨by unfold in64; omega, ?_, fun v hv => ?_⟩
 ·have h' := h
  simp only [validB, Bool.and_eq_true] at h'
  have h4 := asc_len l.vs h'.1.2 fun v hv => (h3 v hv).1
  cases hv : l.vs with
  | nil => simp
  | cons v vs =>
   have h5 := h4 v (by rw [hv]; rfl)
   have h6 := (h1 v (by rw [hv]; simp)).1
   rw [hv] at h5
   omega
 ·have h5 := h1 v hv
  have h6 := h3 v hv
  unfold in64; omega
theorem formed_facts {n : Nd} (h : n.formed = true) : (0 ≤ n.k ∧ n.k ≤ 12) ∧ (0 ≤ n.i ∧ n.i ≤ 2147483647) ∧ n.ls.length ≤ 8 ∧ (∀ l ∈ n.ls, l.fine64) ∧ (n.kids.length : Int) = kidsN n.k ∧ n.kids.length ≤ 3 ∧ n.n.size ≤ 65536 := by
 obtain ⟨f, h1, h2, h3, h4⟩ := right_facts h
 have h5 : kidsN n.k = ((n.kids.map fun _ => (Tm.mk 0 0 ⟨#[]⟩ [] [])).length : Nat) := f.kids
 rw [List.length_map] at h5
 have h6 : (n.k = 0 ∨ n.k = 12 → 0 ≤ n.i) ∧ (n.k ≠ 0 → n.k ≠ 12 → n.i = 0) := f.ix
 have h4' : n.i ≤ 2147483647 := h4
 have h7 := kidsN_range (k := n.k) (by omega)
 have h8 : kidsN n.k ≤ 3 := by unfold kidsN; split <;> (try split) <;> (try split) <;> (try split) <;> omega
 refine ⟨h7, ⟨?_, h4'⟩, h2, fun l hl => valid_64 (h1 l hl), h5.symm, by omega, h3⟩
 by_cases k0 : n.k = 0 ∨ n.k = 12
 ·exact h6.1 k0
 ·rw [h6.2 (fun e => k0 (.inl e)) (fun e => k0 (.inr e))]; exact Int.le_refl _
theorem key_inj {a b : Nd} (ha : a.formed = true) (hb : b.formed = true) (ka : ∀ x ∈ a.kids, in64 x) (kb : ∀ x ∈ b.kids, in64 x) (h : keyX a = keyX b) : a = b := by
 obtain ⟨⟨a1, a2⟩, ⟨a3, a4⟩, a5, a6, a7, _, a8⟩ := formed_facts ha
 obtain ⟨⟨b1, b2⟩, ⟨b3, b4⟩, b5, b6, b7, _, b8⟩ := formed_facts hb
 rw [key_sp, key_sp] at h
 simp only [tailI, List.flatMap_cons, List.flatMap_append, lvsS_eq, List.append_assoc] at h
 obtain ⟨h1, h⟩ := nS_inj _ _ _ _ (by unfold in64; omega) (by unfold in64; omega) h
 obtain ⟨h2, h⟩ := nS_inj _ _ _ _ (by unfold in64; omega) (by unfold in64; omega) h
 obtain ⟨h3, h⟩ := nS_inj _ _ _ _ (by unfold in64; omega) (by unfold in64; omega) h
 obtain ⟨h4, h⟩ := flat_inj lvS_inj _ _ _ _ (by omega) a6 b6 h
 obtain ⟨h5, h⟩ := flat_inj nS_inj _ _ _ _ (by rw [h1] at a7; omega) ka kb h
 have h6 := toList_inj h
 cases a; cases b
 simp only at h1 h2 h4 h5 h6
 subst h1; subst h2; subst h4; subst h5; subst h6; rfl
theorem spN_len {x : Int} (h : in64 x) : (spN x).length ≤ 22 := by have := numF_len h; simp [spN]; omega
theorem flat_bound {α : Type} {f : α → List UInt8} {m : Nat} : ∀ {l : List α}, (∀ x ∈ l, (f x).length ≤ m) → (l.flatMap f).length ≤ l.length * m
 | [], _ => by simp
 | x :: l, h => by
  have h1 := h x (by simp)
  have h2 := flat_bound (l := l) (f := f) fun y hy => h y (by simp [hy])
  rw [List.flatMap_cons, List.length_append, List.length_cons, Nat.add_mul]; omega
theorem key_len {n : Nd} (h : n.formed = true) (hk : ∀ x ∈ n.kids, in64 x) : (keyX n).length ≤ 1000000000 := by
 obtain ⟨⟨a1, a2⟩, ⟨a3, a4⟩, a5, a6, a7, a9, a8⟩ := formed_facts h
 have h1 : ∀ l ∈ n.ls, (lvT l).length ≤ 5000000 := fun l hl => by
  obtain ⟨f1, f2, f3⟩ := a6 l hl
  have g1 := spN_len f1
  have g2 := spN_len (x := (l.vs.length : Int)) (by unfold in64; omega)
  have g3 := flat_bound (f := vT) (m := 44) (l := l.vs) fun v hv => by
   have := spN_len (f3 v hv).1; have := spN_len (f3 v hv).2
   simp [vT]; omega
  simp only [lvT, List.length_append]; omega
 have h2 := flat_bound h1
 have h3 := flat_bound (f := spN) (m := 22) (l := n.kids) fun x hx => spN_len (hk x hx)
 have h4 := numF_len (x := n.k) (by unfold in64; omega)
 have h5 := spN_len (x := n.i) (by unfold in64; omega)
 have h6 := spN_len (x := (n.ls.length : Int)) (by unfold in64; omega)
 have h7 : n.n.toList.length = n.n.size := toList_len _
 have h8 : n.ls.length * 5000000 ≤ 8 * 5000000 := Nat.mul_le_mul_right _ a5
 simp only [keyX, bodyT, headT, List.length_append, List.length_cons]; omega
theorem index82_ret {α : Type} {R : α → AV → Prop} (hR : AggR R 2) (f : FuncId) (caps : List AV) (hf : md f = .pure) (hcaps : pureAVs caps = true) (p : α → Bool) {l : List α} {al : List AV} {t : Tl} (h : LIs R l al) (hl : al.length ≤ lenB) (hg : ∀ x ∈ l, ∀ a, R x a → Out md pfs f (a :: caps) (· = .bool (p x)) fun _ => False) :
  Out md pfs 82 [.sl al t, .fn f caps] (fun v => ∃ r : Int, v = .int r ∧ ((r = -1 ∧ l.any p = false) ∨ ∃ (j : Nat) (x : α), r = j ∧ l[j]? = some x ∧ p x = true ∧ (l.take j).any p = false)) fun _ => False := by
 refine out_of pf82_is (Nat.le_of_ble_eq_true rfl) ?_
 simp only [pf82, ↓wpre, wall, simprocAttr]
 refine W_loopE (fun j => al.length - j) (fun j E H T => E 0 = .sl al t ∧ E 1 = .fn f caps ∧ E 7 = .int al.length ∧ E 8 = .int j ∧ j ≤ al.length ∧ (l.take j).any p = false) ?_ 0 ?_
 ·rintro j E H T ⟨e0, e1, e7, e8, hj, hn⟩
  rcases Nat.lt_or_ge j al.length with hlt | hge
  ·obtain ⟨x, c, d0, d1, d3, d4, d5, d6, d7, d8⟩ := h.get hR hlt
   have hdec : decide ((j : Int) < al.length) = true := by simpa using hlt
   have hall := h.all hR
   obtain ⟨v, rfl, hc⟩ := (hg x d3 _ d8).call hf (by simp [pvs_cons, hR.pure d8, hcaps])
   cases hp : p x
   ·simp only [↓wpre, wall, simprocAttr, e0, e1, e7, e8, hdec, d4, d5, d6, hall, hc, hp]
    exact EQ_in ⟨j + 1, by omega, e0, e1, e7, next_ixv (by unfold lenB at *; omega), by omega, by rw [List.take_add_one, d0]; simp [List.any_append, hn, hp]⟩
   ·simp only [↓wpre, wall, simprocAttr, e0, e1, e7, e8, hdec, d4, d5, d6, hall, hc, hp]
    exact ⟨_, rfl, .inr ⟨j, x, rfl, d0, hp, hn⟩⟩
  ·have hdec : decide ((j : Int) < al.length) = false := by simpa using hge
   simp only [↓wpre, wall, simprocAttr, e0, e1, e7, e8, hdec]
   rw [List.take_of_length_le (by rw [← h.len]; omega)] at hn
   exact ⟨_, rfl, .inl ⟨rfl, hn⟩⟩
 ·exact ⟨rfl, rfl, rfl, rfl, Nat.zero_le _, rfl⟩
theorem cont82_ret {α : Type} {R : α → AV → Prop} (hR : AggR R 2) (f : FuncId) (caps : List AV) (hf : md f = .pure) (hcaps : pureAVs caps = true) (p : α → Bool) {l : List α} {al : List AV} {t : Tl} (ht : t.pure = true) (h : LIs R l al) (hl : al.length ≤ lenB) (hg : ∀ x ∈ l, ∀ a, R x a → Out md pfs f (a :: caps) (· = .bool (p x)) fun _ => False) :
  Out md pfs 64 [.sl al t, .fn f caps] (· = .bool (l.any p)) fun _ => False := by
 have hal := h.pure fun _ _ h => hR.pure h
 obtain ⟨_, ⟨r, rfl, hr⟩, hc⟩ := (index82_ret hR f caps hf hcaps p (t := t) h hl hg).call rfl (by simp [pvs_cons, pvs_nil, pv_sl, pv_fn, ht, hal, hcaps])
 have hd : decide (r ≥ 0) = l.any p := by
  rcases hr with ⟨rfl, h2⟩ | ⟨j, x, rfl, h2, h3, _⟩
  ·rw [h2]; rfl
  ·have : l.any p = true := List.any_eq_true.2 ⟨x, List.mem_of_getElem? h2, h3⟩
   rw [this]; simp
 refine out_of pf64_is (Nat.le_of_ble_eq_true rfl) ?_
 simp only [pf64, ↓wpre, wall, simprocAttr, hc, hd]
theorem index67_ret (f : FuncId) (caps : List AV) (hf : md f = .pure) (hcaps : pureAVs caps = true) (p : Int → Bool) {l : List Int} {t : Tl} (hl : l.length ≤ lenB) (hg : ∀ x ∈ l, Out md pfs f (.int x :: caps) (· = .bool (p x)) fun _ => False) :
  Out md pfs 67 [.sl (ints l) t, .fn f caps] (fun v => ∃ r : Int, v = .int r ∧ ((r = -1 ∧ l.any p = false) ∨ ∃ (j : Nat) (x : Int), r = j ∧ l[j]? = some x ∧ p x = true ∧ (l.take j).any p = false)) fun _ => False := by
 refine out_of pf67_is (Nat.le_of_ble_eq_true rfl) ?_
 have hall := ints_all l
 simp only [pf67, ↓wpre, wall, simprocAttr, ints_len]
 refine W_loopE (fun j => l.length - j) (fun j E H T => E 0 = .sl (ints l) t ∧ E 1 = .fn f caps ∧ E 7 = .int l.length ∧ E 8 = .int j ∧ j ≤ l.length ∧ (l.take j).any p = false) ?_ 0 ?_
 ·rintro j E H T ⟨e0, e1, e7, e8, hj, hn⟩
  rcases Nat.lt_or_ge j l.length with hlt | hge
  ·obtain ⟨x, d0, d1, d2⟩ := ints_get hlt
   have hdec : decide ((j : Int) < l.length) = true := by simpa using hlt
   obtain ⟨v, rfl, hc⟩ := (hg x (List.mem_of_getElem? d0)).call hf (by simp [pvs_cons, pv_v, hcaps])
   cases hp : p x
   ·simp only [↓wpre, wall, simprocAttr, e0, e1, e7, e8, hdec, d2, hall, hc, hp]
    exact EQ_in ⟨j + 1, by omega, e0, e1, e7, next_ixv (by unfold lenB at *; omega), by omega, by rw [List.take_add_one, d0]; simp [List.any_append, hn, hp]⟩
   ·simp only [↓wpre, wall, simprocAttr, e0, e1, e7, e8, hdec, d2, hall, hc, hp]
    exact ⟨_, rfl, .inr ⟨j, x, rfl, d0, hp, hn⟩⟩
  ·have hdec : decide ((j : Int) < l.length) = false := by simpa using hge
   simp only [↓wpre, wall, simprocAttr, e0, e1, e7, e8, hdec]
   rw [List.take_of_length_le (by omega)] at hn
   exact ⟨_, rfl, .inl ⟨rfl, hn⟩⟩
 ·exact ⟨rfl, rfl, rfl, rfl, Nat.zero_le _, rfl⟩
theorem cont35_ret (f : FuncId) (caps : List AV) (hf : md f = .pure) (hcaps : pureAVs caps = true) (p : Int → Bool) {l : List Int} {t : Tl} (ht : t.pure = true) (hl : l.length ≤ lenB) (hg : ∀ x ∈ l, Out md pfs f (.int x :: caps) (· = .bool (p x)) fun _ => False) :
  Out md pfs 35 [.sl (ints l) t, .fn f caps] (· = .bool (l.any p)) fun _ => False := by
 obtain ⟨_, ⟨r, rfl, hr⟩, hc⟩ := (index67_ret f caps hf hcaps p (t := t) hl hg).call rfl (by simp [pvs_cons, pvs_nil, pv_sl, pv_fn, ht, ints_pure, hcaps])
 have hd : decide (r ≥ 0) = l.any p := by
  rcases hr with ⟨rfl, h2⟩ | ⟨j, x, rfl, h2, h3, _⟩
  ·rw [h2]; rfl
  ·have : l.any p = true := List.any_eq_true.2 ⟨x, List.mem_of_getElem? h2, h3⟩
   rw [this]; simp
 refine out_of pf35_is (Nat.le_of_ble_eq_true rfl) ?_
 simp only [pf35, ↓wpre, wall, simprocAttr, hc, hd]
set_option maxHeartbeats 4000000
theorem seqE {c : Oracle} {md : FuncId → Md} {a b : PC} {E0 : Env} {s : ASt} {Q : AExit → St → Prop} {nt : Nat} {df : List (FuncId × List AV)} (J : Env → List AObj → List Nat → Prop) (h1 : W c md a ⟨tmE nt E0, df, s⟩ (LQ (EQ nt df J) Q) ()) (h2 : ∀ E H T, J E H T → W c md b ⟨tmE nt E, df, ⟨H, T⟩⟩ Q ()) : W c md (.seq a b) ⟨tmE nt E0, df, s⟩ Q () := by
 rw [W_seq]
 refine h1.mono fun r st' hr => ?_
 cases r with
 | normal =>
  obtain ⟨E, H, T, rfl, hJ⟩ := hr
  exact h2 E H T hJ
 | _ => exact hr
def kidsG (k : Int) : Int := if k = 4 ∨ k = 5 ∨ k = 6 ∨ k = 7 then 2 else if k = 8 ∨ k = 11 then 3 else if k = 9 ∨ k = 10 then 1 else 0
theorem kidsG_eq {k : Int} (h0 : 0 ≤ k) (h1 : k ≤ 12) : kidsG k = kidsN k := by
 unfold kidsG kidsN
 repeat' split
 all_goals omega
theorem gkids_ret (k : Int) : Out md pfs 63 [.int k] (· = .int (kidsG k)) fun _ => False := by
 refine out_of pf63_is (Nat.le_of_ble_eq_true rfl) ?_
 by_cases h4 : k = 4
 ·subst h4; simp only [pf63, ↓wpre, wall, simprocAttr, show kidsG 4 = 2 from by decide]
 by_cases h5 : k = 5
 ·subst h5; simp only [pf63, ↓wpre, wall, simprocAttr, show kidsG 5 = 2 from by decide]
 by_cases h6 : k = 6
 ·subst h6; simp only [pf63, ↓wpre, wall, simprocAttr, show kidsG 6 = 2 from by decide]
 by_cases h7 : k = 7
 ·subst h7; simp only [pf63, ↓wpre, wall, simprocAttr, show kidsG 7 = 2 from by decide]
 by_cases h8 : k = 8
 ·subst h8; simp only [pf63, ↓wpre, wall, simprocAttr, show kidsG 8 = 3 from by decide]
 by_cases h11 : k = 11
 ·subst h11; simp only [pf63, ↓wpre, wall, simprocAttr, show kidsG 11 = 3 from by decide]
 by_cases h9 : k = 9
 ·subst h9; simp only [pf63, ↓wpre, wall, simprocAttr, show kidsG 9 = 1 from by decide]
 by_cases h10 : k = 10
 ·subst h10; simp only [pf63, ↓wpre, wall, simprocAttr, show kidsG 10 = 1 from by decide]
 have q4 : (k == 4) = false := by simpa using h4
 have q5 : (k == 5) = false := by simpa using h5
 have q6 : (k == 6) = false := by simpa using h6
 have q7 : (k == 7) = false := by simpa using h7
 have q8 : (k == 8) = false := by simpa using h8
 have q9 : (k == 9) = false := by simpa using h9
 have q10 : (k == 10) = false := by simpa using h10
 have q11 : (k == 11) = false := by simpa using h11
 simp only [pf63, ↓wpre, wall, simprocAttr, q4, q5, q6, q7, q8, q9, q10, q11]
 rw [kidsG, if_neg (by omega), if_neg (by omega), if_neg (by omega)]
def binderG (k j : Int) : Int := if (j = 1 ∧ (k = 5 ∨ k = 6 ∨ k = 7)) ∨ (j = 2 ∧ k = 11) then 1 else 0
theorem binder_ret (k j : Int) : Out md pfs 78 [.int k, .int j] (· = .int (binderG k j)) fun _ => False := by
 by_cases j1 : j = 1
 ·subst j1
  by_cases h5 : k = 5
  ·subst h5; refine out_of pf78_is (Nat.le_of_ble_eq_true rfl) ?_; simp only [pf78, ↓wpre, wall, simprocAttr, show binderG 5 1 = 1 from by decide]
  by_cases h6 : k = 6
  ·subst h6; refine out_of pf78_is (Nat.le_of_ble_eq_true rfl) ?_; simp only [pf78, ↓wpre, wall, simprocAttr, show binderG 6 1 = 1 from by decide]
  by_cases h7 : k = 7
  ·subst h7; refine out_of pf78_is (Nat.le_of_ble_eq_true rfl) ?_; simp only [pf78, ↓wpre, wall, simprocAttr, show binderG 7 1 = 1 from by decide]
  have q5 : (k == 5) = false := by simpa using h5
  have q6 : (k == 6) = false := by simpa using h6
  have q7 : (k == 7) = false := by simpa using h7
  refine out_of pf78_is (Nat.le_of_ble_eq_true rfl) ?_; simp only [pf78, ↓wpre, wall, simprocAttr, q5, q6, q7]
  rw [binderG, if_neg (by omega)]
 by_cases j2 : j = 2
 ·subst j2
  clear j1
  by_cases h11 : k = 11
  ·subst h11; refine out_of pf78_is (Nat.le_of_ble_eq_true rfl) ?_; simp only [pf78, ↓wpre, wall, simprocAttr, show binderG 11 2 = 1 from by decide]
  have q11 : (k == 11) = false := by simpa using h11
  refine out_of pf78_is (Nat.le_of_ble_eq_true rfl) ?_; simp only [pf78, ↓wpre, wall, simprocAttr, q11]
  rw [binderG, if_neg (by omega)]
 have q1 : (j == 1) = false := by simpa using j1
 have q2 : (j == 2) = false := by simpa using j2
 refine out_of pf78_is (Nat.le_of_ble_eq_true rfl) ?_; simp only [pf78, ↓wpre, wall, simprocAttr, q1, q2]
 rw [binderG, if_neg (by omega)]
theorem formed_iff (n : Nd) : n.formed = true ↔
  n.ls.all validB = true ∧ kidsN n.k = n.kids.length ∧ (n.k = 2 → n.ls.length = 1) ∧ (n.k = 3 → n.ls.length ≤ 8) ∧ (n.k ≠ 2 → n.k ≠ 3 → n.ls.length = 0) ∧ n.n.size ≤ 65536 ∧ ((n.k = 0 ∨ n.k = 12) → 0 ≤ n.i ∧ n.i ≤ 2147483647 ∧ n.n.size = 0) ∧ (¬ (n.k = 0 ∨ n.k = 12) → n.i = 0 ∧ (n.k = 3 ∨ n.n.size = 0)) := by
 unfold Nd.formed Nd.tm
 rw [right_iff, List.length_map]
theorem formed_no {n : Nd} (h : ¬ n.formed = true) : AV.v (.bool false) = .bool n.formed := by
 cases hr : n.formed with
 | false => rfl
 | true => exact absurd hr h
theorem formed1_ret {l : Lv} {a : AV} (h : l.Is a) : Out md pfs 65 [a] (· = .bool (!validB l)) fun _ => False := by
 obtain ⟨_, rfl, cv⟩ := (valid_ret h).call rfl (by simp [pvs_cons, pvs_nil, lvPure h])
 obtain ⟨c, rfl, c1, c2, c3⟩ := lvCells h
 refine out_of pf65_is (Nat.le_of_ble_eq_true rfl) ?_
 simp only [pf65, ↓wpre, wall, simprocAttr, c1, c2, cv]
theorem gformed_ret {n : Nd} {a : AV} (h : n.Is a) : Out md pfs 34 [a] (· = .bool n.formed) fun _ => False := by
 obtain ⟨t1, t2, las, rfl, g1, g2, g3, g4, g5, g6, g7, g8, g9⟩ := h
 have hll := g8.len
 have hik := ints_len n.kids
 have hlp := lvsPure g8
 obtain ⟨_, rfl, ck⟩ := (gkids_ret n.k).call rfl (by simp [pvs_cons, pvs_nil, pv_v])
 obtain ⟨_, rfl, cc⟩ := (cont82_ret lvAgg 65 [] rfl pvs_nil (fun l => !validB l) g1 g8 g6 (fun x _ a hx => formed1_ret hx)).call rfl (by simp [pvs_cons, pvs_nil, pv_sl, pv_fn, hlp, g1])
 have hemp := empty_str (s := n.n)
 have hF := formed_iff n
 refine out_of pf34_is (Nat.le_of_ble_eq_true rfl) ?_
 simp only [pf34]
 refine seqE (fun E H T => H = [.cells false [.int n.k, .int n.i, .str n.n, .sl las t1, .sl (ints n.kids) t2]] ∧ E 1 = .ptr 0 0) ?_ ?_
 ·simp only [↓wpre, wall, simprocAttr]; exact EQ_in ⟨rfl, rfl⟩
 rintro E H T ⟨rfl, e1⟩
 refine seqE (fun E H T => H = [.cells false [.int n.k, .int n.i, .str n.n, .sl las t1, .sl (ints n.kids) t2]] ∧ E 1 = .ptr 0 0 ∧ 0 ≤ n.k ∧ n.k < 13 ∧ (n.kids.length : Int) = kidsG n.k) ?_ ?_
 ·cases c1 : decide (n.k < 0)
  case true =>
   simp only [decide_eq_true_eq] at c1
   have c1' : decide (n.k < 0) = true := by simp only [decide_eq_true_eq]; exact c1
   simp only [↓wpre, wall, simprocAttr, e1, c1']
   exact formed_no fun hh => by have := formed_facts hh; omega
  cases c2 : decide (n.k ≥ 13)
  case true =>
   simp only [↓wpre, wall, simprocAttr, e1, c1, c2]
   simp only [decide_eq_true_eq] at c2
   exact formed_no fun hh => by have := formed_facts hh; omega
  cases c3 : ((n.kids.length : Int) != kidsG n.k)
  case true =>
   simp only [↓wpre, wall, simprocAttr, e1, c1, c2, ck, hik, c3]
   simp only [decide_eq_false_iff_not, bne_iff_ne, ne_eq] at c1 c2 c3
   exact formed_no fun hh => by
    have := formed_facts hh
    have := kidsG_eq (k := n.k) (by omega) (by omega)
    omega
  simp only [↓wpre, wall, simprocAttr, e1, c1, c2, ck, hik, c3]
  simp only [decide_eq_false_iff_not, bne_eq_false_iff_eq] at c1 c2 c3
  exact EQ_in ⟨rfl, e1, by omega, by omega, c3⟩
 clear E T e1
 rintro E H T ⟨rfl, e1, k0, k13, kk⟩
 refine seqE (fun E H T => H = [.cells false [.int n.k, .int n.i, .str n.n, .sl las t1, .sl (ints n.kids) t2]] ∧ E 1 = .ptr 0 0 ∧ E 3 = .bool (n.k == 0 || n.k == 12)) ?_ ?_
 ·cases q0 : (n.k == 0)
  ·simp only [↓wpre, wall, simprocAttr, e1, q0]; exact EQ_in ⟨rfl, e1, rfl⟩
  ·simp only [↓wpre, wall, simprocAttr, e1, q0]; exact EQ_in ⟨rfl, e1, rfl⟩
 clear E T e1
 rintro E H T ⟨rfl, e1, e3⟩
 refine seqE (fun E H T => H = [.cells false [.int n.k, .int n.i, .str n.n, .sl las t1, .sl (ints n.kids) t2]] ∧ E 1 = .ptr 0 0 ∧ 0 ≤ n.i ∧ n.i ≤ 2147483647 ∧ (n.i = 0 ∨ n.k = 0 ∨ n.k = 12)) ?_ ?_
 ·cases c1 : decide (n.i < 0)
  case true =>
   simp only [↓wpre, wall, simprocAttr, e1, e3, c1]
   simp only [decide_eq_true_eq] at c1
   exact formed_no fun hh => by have := formed_facts hh; omega
  cases c2 : decide (n.i > 2147483647)
  case true =>
   simp only [↓wpre, wall, simprocAttr, e1, e3, c1, c2]
   simp only [decide_eq_true_eq] at c2
   exact formed_no fun hh => by have := formed_facts hh; omega
  cases c3 : decide (n.i > 0)
  case false =>
   simp only [↓wpre, wall, simprocAttr, e1, e3, c1, c2, c3]
   simp only [decide_eq_false_iff_not] at c1 c2 c3
   exact EQ_in ⟨rfl, e1, by omega, by omega, .inl (by omega)⟩
  cases c4 : (n.k == 0 || n.k == 12)
  case false =>
   rw [c4] at e3
   simp only [↓wpre, wall, simprocAttr, e1, e3, c1, c2, c3]
   simp only [decide_eq_true_eq, Bool.or_eq_false_iff, beq_eq_false_iff_ne, ne_eq] at c3 c4
   exact formed_no fun hh => by
    obtain ⟨_, _, _, _, _, _, _, r8⟩ := hF.1 hh
    have := (r8 (by omega)).1
    omega
  rw [c4] at e3
  simp only [↓wpre, wall, simprocAttr, e1, e3, c1, c2, c3]
  simp only [decide_eq_false_iff_not, Bool.or_eq_true, beq_iff_eq] at c1 c2 c4
  exact EQ_in ⟨rfl, e1, by omega, by omega, .inr c4⟩
 clear E T e1 e3
 rintro E H T ⟨rfl, e1, i0, i1, i2⟩
 refine seqE (fun E H T => H = [.cells false [.int n.k, .int n.i, .str n.n, .sl las t1, .sl (ints n.kids) t2]] ∧ E 1 = .ptr 0 0 ∧ n.n.size ≤ 65536 ∧ (n.k = 3 ∨ n.n.size = 0)) ?_ ?_
 ·cases c1 : decide ((n.n.size : Int) > 65536)
  case true =>
   simp only [↓wpre, wall, simprocAttr, e1, c1]
   simp only [decide_eq_true_eq] at c1
   exact formed_no fun hh => by have := formed_facts hh; omega
  cases c2 : (n.n.size == 0)
  case true =>
   simp only [↓wpre, wall, simprocAttr, e1, c1, hemp, c2]
   simp only [decide_eq_false_iff_not, beq_iff_eq] at c1 c2
   exact EQ_in ⟨rfl, e1, by omega, .inr c2⟩
  cases c3 : (n.k != 3)
  case true =>
   simp only [↓wpre, wall, simprocAttr, e1, c1, hemp, c2, c3]
   simp only [bne_iff_ne, ne_eq, beq_eq_false_iff_ne] at c3 c2
   exact formed_no fun hh => by
    obtain ⟨_, _, _, _, _, _, r7, r8⟩ := hF.1 hh
    by_cases k : n.k = 0 ∨ n.k = 12
    ·exact c2 (r7 k).2.2
    ·exact (r8 k).2.elim c3 c2
  simp only [↓wpre, wall, simprocAttr, e1, c1, hemp, c2, c3]
  simp only [decide_eq_false_iff_not, bne_eq_false_iff_eq] at c1 c3
  exact EQ_in ⟨rfl, e1, by omega, .inl c3⟩
 clear E T e1
 rintro E H T ⟨rfl, e1, s0, s1⟩
 refine seqE (fun E H T => H = [.cells false [.int n.k, .int n.i, .str n.n, .sl las t1, .sl (ints n.kids) t2]] ∧ E 1 = .ptr 0 0 ∧ (n.k = 2 → n.ls.length = 1) ∧ (n.k = 3 → n.ls.length ≤ 8) ∧ (n.k ≠ 2 → n.k ≠ 3 → n.ls.length = 0)) ?_ ?_
 ·cases q2 : (n.k == 2)
  case true =>
   cases c1 : ((las.length : Int) != 1)
   case true =>
    simp only [↓wpre, wall, simprocAttr, e1, q2, c1]
    simp only [bne_iff_ne, ne_eq, beq_iff_eq] at c1 q2
    exact formed_no fun hh => by
     obtain ⟨_, _, r3, _⟩ := hF.1 hh
     have := r3 q2; omega
   simp only [↓wpre, wall, simprocAttr, e1, q2, c1]
   simp only [bne_eq_false_iff_eq, beq_iff_eq] at c1 q2
   exact EQ_in ⟨rfl, e1, by omega, by omega, by omega⟩
  cases q3 : (n.k == 3)
  case true =>
   cases c1 : decide ((las.length : Int) > 8)
   case true =>
    simp only [↓wpre, wall, simprocAttr, e1, q2, q3, c1]
    simp only [decide_eq_true_eq, beq_iff_eq] at c1 q3
    exact formed_no fun hh => by
     obtain ⟨_, _, _, r4, _⟩ := hF.1 hh
     have := r4 q3; omega
   simp only [↓wpre, wall, simprocAttr, e1, q2, q3, c1]
   simp only [decide_eq_false_iff_not, beq_iff_eq] at c1 q3
   exact EQ_in ⟨rfl, e1, by omega, by omega, by omega⟩
  cases c1 : decide ((las.length : Int) > 0)
  case true =>
   simp only [↓wpre, wall, simprocAttr, e1, q2, q3, c1]
   simp only [decide_eq_true_eq, beq_eq_false_iff_ne, ne_eq] at c1 q2 q3
   exact formed_no fun hh => by
    obtain ⟨_, _, _, _, r5, _⟩ := hF.1 hh
    have := r5 q2 q3; omega
  simp only [↓wpre, wall, simprocAttr, e1, q2, q3, c1]
  simp only [decide_eq_false_iff_not, beq_eq_false_iff_ne, ne_eq] at c1 q2 q3
  exact EQ_in ⟨rfl, e1, by omega, by omega, by omega⟩
 clear E T e1
 rintro E H T ⟨rfl, e1, l2, l3, l0⟩
 simp only [↓wpre, wall, simprocAttr, e1, cc]
 have : (!(n.ls.any fun l => !validB l)) = n.formed := by
  rw [Bool.eq_iff_iff, hF, ← kidsG_eq k0 (by omega)]
  simp only [Bool.not_eq_true', List.any_eq_false, Bool.not_eq_true, Bool.not_eq_false']
  constructor
  ·intro h
   exact ⟨List.all_eq_true.2 fun x hx => by have := h x hx; simpa using this, kk.symm, l2, l3, l0, s0, fun k => ⟨i0, i1, by omega⟩, fun k => ⟨by omega, s1⟩⟩
  ·rintro ⟨h, _⟩ x hx
   have := List.all_eq_true.1 h x hx
   simpa using this
 rw [this]
def fvF (k : Int) : Nat → Nat → List Nat → Nat
 | a, _, [] => a
 | a, j, x :: l => fvF k (max a (x - (binderG k j).toNat)) (j + 1) l
theorem fvF_snoc (k : Int) (x : Nat) : ∀ (l : List Nat) (a j : Nat), fvF k a j (l ++ [x]) = max (fvF k a j l) (x - (binderG k (j + l.length : Nat)).toNat)
 | [], a, j => by simp [fvF]
 | y :: l, a, j => by
  rw [List.cons_append, fvF, fvF, fvF_snoc k x l, List.length_cons]
  have : j + 1 + l.length = j + (l.length + 1) := by omega
  rw [this]
def fv0 (k i : Int) : Nat := if k = 0 then (i + 1).toNat else 0
mutual
def Tm.fv : Tm → Nat
 | .mk k i _ _ kids => fvF k (fv0 k i) 0 (fvs kids)
def fvs : List Tm → List Nat
 | [] => []
 | t :: l => t.fv :: fvs l
end
theorem fvs_map : ∀ l : List Tm, fvs l = l.map Tm.fv
 | [] => rfl
 | t :: l => by rw [fvs, fvs_map l, List.map_cons]
theorem fv_mk (k i : Int) (n : ByteArray) (ls : List Lv) (kids : List Tm) : (Tm.mk k i n ls kids).fv = fvF k (fv0 k i) 0 (kids.map Tm.fv) := by rw [Tm.fv, fvs_map]
theorem fvF_le {k : Int} {m : Nat} : ∀ {l : List Nat} {a j : Nat}, a ≤ m → (∀ x ∈ l, x ≤ m) → fvF k a j l ≤ m
 | [], _, _, h, _ => h
 | x :: l, a, j, h, h2 => by
  rw [fvF]
  have := h2 x (by simp)
  exact fvF_le (by omega) fun y hy => h2 y (by simp [hy])
theorem binder_01 (k j : Int) : binderG k j = 0 ∨ binderG k j = 1 := by unfold binderG; split <;> simp
theorem fv_right {T : List Tm} (h : GT T) : ∀ t ∈ T, t.fv ≤ 2147483648 := by
 intro t
 induction t using Tm.ind with
 | h k i n ls kids ih =>
 intro ht
 have hr := h.right _ ht
 have hk := (h.good.all _ ht).2
 obtain ⟨_, _, _, _, h5⟩ := right_facts hr
 rw [fv_mk]
 refine fvF_le ?_ fun x hx => ?_
 ·have h5' : i ≤ 2147483647 := h5
  unfold fv0; split <;> omega
 ·obtain ⟨y, hy, rfl⟩ := List.mem_map.1 hx
  exact ih y hy (hk y hy)
def frs (T : List Tm) : List Int := T.map fun t => (t.fv : Int)
theorem frs_len (T : List Tm) : (frs T).length = T.length := by simp [frs]
def addT (T : List Tm) (t : Tm) : List Tm := if t ∈ T then T else T ++ [t]
theorem addT_pre (T : List Tm) (t : Tm) : ∃ m, addT T t = T ++ m := by
 unfold addT; split
 ·exact ⟨[], by simp⟩
 ·exact ⟨[t], rfl⟩
theorem idx_pre {T m : List Tm} {x : Tm} (h : x ∈ T) : (T ++ m).idxOf x = T.idxOf x := idx_app h m
theorem enter_eq {k i : Int} {n : ByteArray} {ls : List Lv} {kids : List Tm} {T : List Tm} (h : Good T) : Tm.enter T (.mk k i n ls kids) = addT (enterL T kids) (.mk k i n ls kids) := by
 rw [Tm.enter]
 unfold addT
 by_cases hm : Tm.mk k i n ls kids ∈ T
 ·have hk : ∀ x ∈ kids, x ∈ T := (h.all _ hm).2
  rw [if_pos hm, enterL_mem hk, if_pos hm]
 ·rw [if_neg hm]
theorem enter_preL {T : List Tm} {l : List Tm} (h : GT T) (hr : ∀ x ∈ subsL l, x.right = true) : GT (enterL T l) ∧ (∃ m, enterL T l = T ++ m) ∧ ∀ x, x ∈ enterL T l ↔ x ∈ T ∨ x ∈ subsL l := by
 obtain ⟨a, _⟩ := enterL_ok (l := l) (fun t _ => enter_ok t) h.good fun x hx => (right_facts (hr x hx)).1
 exact ⟨⟨a.good, fun x hx => ((a.mem x).1 hx).elim (h.right x) (hr x)⟩, a.pre, a.mem⟩
theorem enter_pre {T : List Tm} {t : Tm} (h : GT T) (hr : ∀ x ∈ t.subs, x.right = true) : GT (t.enter T) ∧ (∃ m, t.enter T = T ++ m) ∧ ∀ x, x ∈ t.enter T ↔ x ∈ T ∨ x ∈ t.subs := by
 obtain ⟨a, _⟩ := enter_ok t T h.good fun x hx => (right_facts (hr x hx)).1
 exact ⟨⟨a.good, fun x hx => ((a.mem x).1 hx).elim (h.right x) (hr x)⟩, a.pre, a.mem⟩
set_option maxHeartbeats 8000000
mutual
def Tm.slim : Tm → Prop
 | .mk _ _ n ls kids => n.size ≤ 200 ∧ ls.length ≤ 10 ∧ (∀ l ∈ ls, l.vs.length ≤ 10) ∧ kids.length ≤ 6 ∧ slimL kids
def slimL : List Tm → Prop
 | [] => True
 | t :: l => t.slim ∧ slimL l
end
theorem slimL_iff : ∀ l : List Tm, slimL l ↔ ∀ t ∈ l, t.slim
 | [] => by simp [slimL]
 | t :: l => by simp [slimL, slimL_iff l]
def SmallP (e : Tm) (nodes : Int) (v : AV) : Prop := v = .tup [.int 0, .bool false] ∨ (v = .tup [.int (nodes - (e.sz : Nat)), .bool true] ∧ (e.sz : Int) ≤ nodes ∧ e.slim)
theorem short_ret (e : Tm) : ∀ {a} {nodes : Int}, e.Is a → nodes ≤ 1000 → in64 nodes → Out md pfs 14 [a, .int nodes] (SmallP e nodes) fun _ => False := by
 induction e using Tm.ind with
 | h k i n ls kids ih =>
 intro a nodes h hn hi
 obtain ⟨t1, t2, las, kas, rfl, g1, g2, g3, g4, g5, g6, g7, g8, g9⟩ := h.opn
 have hl1 := g8.len
 have hl2 := g9.len
 have no : SmallP (.mk k i n ls kids) nodes (.tup [.int 0, .bool false]) := Or.inl rfl
 refine out_of pf14_is (Nat.le_of_ble_eq_true rfl) ?_
 cases b0 : decide (nodes ≤ 0)
 case true =>
  simp only [pf14, ↓wpre, wall, simprocAttr, b0]
  exact no
 cases b1 : decide ((n.size : Int) > 100)
 case true =>
  simp only [pf14, ↓wpre, wall, simprocAttr, b0, b1]
  exact no
 cases b2 : decide ((las.length : Int) > 10)
 case true =>
  simp only [pf14, ↓wpre, wall, simprocAttr, b0, b1, b2]
  exact no
 cases b3 : decide ((kas.length : Int) > 5)
 case true =>
  simp only [pf14, ↓wpre, wall, simprocAttr, b0, b1, b2, b3]
  exact no
 simp only [pf14, ↓wpre, wall, simprocAttr, b0, b1, b2, b3]
 simp only [decide_eq_false_iff_not] at b0 b1 b2 b3
 refine W_loopE (fun j => las.length - j) (fun j E H T => (∃ G, H = .cells false [.int k, .int i, .str n, .sl las t1, .sl kas t2] :: G) ∧ E 1 = .int nodes ∧ E 2 = .ptr 0 0 ∧ E 33 = .sl las t1 ∧ E 34 = .int las.length ∧ E 35 = .int (j : Nat) ∧ j ≤ las.length ∧ ∀ x ∈ ls.take j, x.vs.length ≤ 10) ?_ 0 ⟨⟨[], rfl⟩, rfl, rfl, rfl, rfl, rfl, Nat.zero_le _, by simp⟩
 rintro j E H T ⟨⟨G, rfl⟩, e1, e2, e33, e34, e35, hj, hgood⟩
 rcases Nat.lt_or_ge j las.length with hlt | hge
 ·have hdec : decide ((j : Int) < las.length) = true := by simpa using hlt
  obtain ⟨x, c, d0, d1, d3, d4, d5, d6, d7, d8⟩ := g8.get lvAgg hlt
  obtain ⟨tx, xl, ex, x1, x2, x3, x4⟩ := d8
  cases ex
  have hxl := x4.len
  have hall := g8.all lvAgg
  cases b4 : decide ((xl.length : Int) > 10)
  ·simp only [↓wpre, wall, simprocAttr, List.length_append, List.append_assoc, app_get_len, app_get_add, app_set_len, app_set_add, e1, e2, e33, e34, e35, hdec, d4, hall, b4]
   exact EQ_in ⟨j + 1, by omega, ⟨_, rfl⟩, e1, e2, e33, e34, next_ixv (by unfold lenB at *; omega), by omega, take_next d0 hgood (by simp only [decide_eq_false_iff_not] at b4; omega)⟩
  ·simp only [↓wpre, wall, simprocAttr, List.length_append, List.append_assoc, app_get_len, app_get_add, app_set_len, app_set_add, e1, e2, e33, e34, e35, hdec, d4, hall, b4]
   exact no
 ·have hdec : decide ((j : Int) < las.length) = false := by simpa using hge
  rw [List.take_of_length_le (by omega)] at hgood
  have w1 : IntKind.i64.wrap (nodes - 1) = nodes - 1 := wrap_in (by unfold in64; omega)
  simp only [↓wpre, wall, simprocAttr, List.length_append, List.append_assoc, app_get_len, app_get_add, app_set_len, app_set_add, e1, e2, e33, e34, e35, hdec, w1]
  refine W_loopE (fun j => kas.length - j) (fun j E H T => (∃ G, H = .cells false [.int k, .int i, .str n, .sl las t1, .sl kas t2] :: G) ∧ E 1 = .int (nodes - 1 - (tszL (kids.take j) : Nat)) ∧ E 2 = .ptr 0 0 ∧ E 47 = .sl kas t2 ∧ E 48 = .int kas.length ∧ E 49 = .int (j : Nat) ∧ j ≤ kas.length ∧ (tszL (kids.take j) : Int) ≤ nodes - 1 ∧ ∀ x ∈ kids.take j, x.slim) ?_ 0 ⟨⟨G, rfl⟩, (by show AV.int (nodes - 1) = _; simp [tszL]), e2, rfl, rfl, rfl, Nat.zero_le _, by simp [tszL]; omega, by simp⟩
  clear e1 e2 e33 e34 e35 hj hge hdec E T
  rintro j E H T ⟨⟨G, rfl⟩, e1, e2, e47, e48, e49, hj, hsum, hsl⟩
  rcases Nat.lt_or_ge j kas.length with hlt | hge
  ·have hdec : decide ((j : Int) < kas.length) = true := by simpa using hlt
   obtain ⟨x, c, d0, d1, d3, d4, d5, d6, d7, d8⟩ := g9.get tmAgg hlt
   obtain ⟨s1, s2⟩ := tsz_split d0
   have hall := g9.all tmAgg
   obtain ⟨v, hv, cv⟩ := (ih x d3 (nodes := nodes - 1 - (tszL (kids.take j) : Nat)) d8 (by omega) (by unfold in64; omega)).call rfl (by simp [pvs_cons, pvs_nil, pv_v, tmPure _ d8])
   rcases hv with rfl | ⟨rfl, hle, hxs⟩
   ·simp only [↓wpre, wall, simprocAttr, List.length_append, List.append_assoc, app_get_len, app_get_add, app_set_len, app_set_add, e1, e2, e47, e48, e49, hdec, d4, d5, d6, d7, hall, cv]
    exact no
   ·simp only [↓wpre, wall, simprocAttr, List.length_append, List.append_assoc, app_get_len, app_get_add, app_set_len, app_set_add, e1, e2, e47, e48, e49, hdec, d4, d5, d6, d7, hall, cv]
    exact EQ_in ⟨j + 1, by omega, ⟨_, rfl⟩, (by show AV.int (nodes - 1 - (tszL (kids.take j) : Nat) - (x.sz : Nat)) = _; exact congrArg AV.int (by rw [s1]; omega)), e2, e47, e48, next_ixv (by unfold lenB at *; omega), by omega, by omega, take_next d0 hsl hxs⟩
  ·have hdec : decide ((j : Int) < kas.length) = false := by simpa using hge
   rw [List.take_of_length_le (by omega)] at e1 hsum hsl
   simp only [↓wpre, wall, simprocAttr, List.length_append, List.append_assoc, app_get_len, app_get_add, app_set_len, app_set_add, e1, e2, e47, e48, e49, hdec]
   refine Or.inr ⟨?_, ?_, ?_⟩
   ·rw [Tm.sz]; simp only [AV.tup.injEq, List.cons.injEq, and_true, AV.v.injEq, Value.int.injEq, true_and]; omega
   ·rw [Tm.sz]; omega
   ·rw [Tm.slim, slimL_iff]; exact ⟨by omega, by omega, hgood, by omega, hsl⟩
def FewP (l : List Tm) : Prop := l.length ≤ 8 ∧ tszL l ≤ 200 ∧ ∀ t ∈ l, t.slim
theorem valid_nat {l : Lv} (h : validB l = true) : ∃ c : Nat, l.c = c ∧ c ≤ 100 ∧ l.vs.length ≤ mostN ∧ ∀ v ∈ l.vs, ∃ a b : Nat, v = ((a : Int) - 65536, (b : Int)) ∧ a < 65544 ∧ b ≤ 100 := by
 obtain ⟨⟨h1, h2⟩, h3, h4⟩ := valid_fine h
 refine ⟨l.c.toNat, by omega, by omega, valid_len h, fun v hv => ⟨(v.1 + 65536).toNat, v.2.toNat, ?_, ?_, ?_⟩⟩
 ·have := h2 v hv; have := h4 v hv
  obtain ⟨x, y⟩ := v
  simp only [Prod.mk.injEq]; simp only at *; omega
 ·have := h2 v hv; have := h4 v hv; omega
 ·have := h2 v hv; have := h4 v hv; omega
theorem encV_nat (a b : Nat) : encV ((a : Int) - 65536, (b : Int)) = encN a ++ encN b := by
 unfold encV
 rw [show ((((a : Int) - 65536, (b : Int)) : Int × Int).1 + 65536).toNat = a by simp only; omega]
 rfl
theorem appendLevel_rw {b : List UInt8} {l : Lv} {a : AV} (h : l.Is a) (hv : validB l = true) (hb : b.length + (encL l).length + 9 ≤ capB) {H : List AObj} {T : List Nat} {t : Tl} (hA : App T (bytes b) t) :
  Rw 87 [.sl (bytes b) t, a] ⟨H, T⟩ fun v s => ∃ t' T' G, v = .sl (bytes (b ++ encL l)) t' ∧ s = ⟨H ++ G, T'⟩ ∧ App T' (bytes (b ++ encL l)) t' ∧ Oth T t T' t' := by
 obtain ⟨c, hc, hc2, hvl, hvs⟩ := valid_nat hv
 obtain ⟨tv, al, rfl, g1, g2, g3, g4⟩ := h
 have hl := g4.len
 rw [hc]
 have hE : encL l = encN c ++ (encN l.vs.length ++ l.vs.flatMap encV) := by unfold encL; rw [hc]; rfl
 have hlen : (encL l).length = (encN c).length + ((encN l.vs.length).length + (l.vs.flatMap encV).length) := by rw [hE]; simp
 refine rw_of pf87_is (Nat.le_of_ble_eq_true rfl) ?_
 obtain ⟨_, _, ⟨t1, T1, rfl, rfl, a1, o1⟩, k1⟩ := (appendNumber_rw (l := b) (n := c) (H := H ++ [.cells false [.int c, .sl al tv]]) (T := T) (by unfold bigN; omega) (by omega) hA).call rfl
 have hb9 := encN_big (n := c) (by unfold bigN; omega)
 obtain ⟨_, _, ⟨t2, T2, rfl, rfl, a2, o2⟩, k2⟩ := (appendNumber_rw (l := b ++ encN c) (n := al.length) (H := H ++ [.cells false [.int c, .sl al tv]]) (T := T1) (by unfold bigN; unfold mostN at hvl; omega) (by rw [List.length_append]; have := encN_pos l.vs.length; omega) a1).call rfl
 rw [show b ++ encN c ++ encN al.length = b ++ (encN c ++ encN al.length) from List.append_assoc _ _ _] at k2 a2
 simp only [pf87, ↓wpre, wall, simprocAttr, List.length_append, List.append_assoc, app_get_len, app_get_add, app_set_len, app_set_add, k1, k2]
 refine W_loopE (fun j => al.length - j) (fun j E H' T' => ∃ G t' cur, H' = H ++ (.cells false [.int c, .sl al tv] :: G) ∧ E 0 = .sl (bytes cur) t' ∧ E 17 = .sl al tv ∧ E 18 = .int al.length ∧ E 19 = .int (j : Nat) ∧ j ≤ al.length ∧ App T' (bytes cur) t' ∧ Oth T t T' t' ∧ cur = b ++ (encN c ++ encN al.length) ++ (l.vs.take j).flatMap encV) ?_ 0 ⟨[], t2, _, rfl, rfl, rfl, rfl, rfl, Nat.zero_le _, a2, o1.trans o2, by simp⟩
 rintro j E H' T' ⟨G, t', cur, rfl, e0, e17, e18, e19, hj, hA', ho, hcur⟩
 rcases Nat.lt_or_ge j al.length with hlt | hge
 ·have hdec : decide ((j : Int) < al.length) = true := by simpa using hlt
  obtain ⟨x, c1, d0, d1, d3, d4, d5, d6, d7, ⟨d8, hx1, hx2⟩⟩ := g4.get varAgg hlt
  cases d8
  obtain ⟨p, q, rfl, hp, hq⟩ := hvs x d3
  have hall := g4.all varAgg
  have w1 : IntKind.i64.wrap (((p : Int) - 65536) + 65536) = (p : Int) := by rw [wrap_in (by unfold in64; omega)]; omega
  have hfl := flat_le (f := encV) d0
  rw [encV_nat, List.length_append] at hfl
  have hlc : cur.length = b.length + (encN c).length + (encN l.vs.length).length + ((l.vs.take j).flatMap encV).length := by rw [hcur, hl]; simp only [List.length_append]; omega
  obtain ⟨_, _, ⟨t3, T3, rfl, rfl, a3, o3⟩, k3⟩ := (appendNumber_rw (n := p) (H := H ++ (.cells false [.int c, .sl al tv] :: (G ++ [.cells false [.int ((p : Int) - 65536), .int q]]))) (by unfold bigN; omega) (by omega) hA').call rfl
  obtain ⟨_, _, ⟨t4, T4, rfl, rfl, a4, o4⟩, k4⟩ := (appendNumber_rw (n := q) (H := H ++ (.cells false [.int c, .sl al tv] :: (G ++ [.cells false [.int ((p : Int) - 65536), .int q]]))) (by unfold bigN; omega) (by rw [List.length_append]; have := encN_pos q; omega) a3).call rfl
  have hst : cur ++ encN p ++ encN q = b ++ (encN c ++ encN al.length) ++ (l.vs.take (j + 1)).flatMap encV := by
   rw [flat_step d0, encV_nat, hcur]; simp only [List.append_assoc]
  generalize hnx : cur ++ encN p ++ encN q = nxt at a4 k4 hst
  simp only [↓wpre, wall, simprocAttr, List.length_append, List.append_assoc, app_get_len, app_get_add, app_set_len, app_set_add, e0, e17, e18, e19, hdec, d4, hall, w1, k3, k4]
  exact EQ_in ⟨j + 1, by omega, _, _, _, rfl, rfl, e17, e18, next_ixv (by unfold lenB at *; omega), by omega, a4, (ho.trans o3).trans o4, by rw [hst]; simp only [List.append_assoc]⟩
 ·have hdec : decide ((j : Int) < al.length) = false := by simpa using hge
  rw [List.take_of_length_le (by omega)] at hcur
  have hfin : cur = b ++ encL l := by rw [hcur, hE, hl]; simp only [List.append_assoc]
  rw [hfin] at e0 hA'
  generalize b ++ encL l = out at e0 hA'
  simp only [↓wpre, wall, simprocAttr, List.length_append, List.append_assoc, app_get_len, app_get_add, app_set_len, app_set_add, e0, e17, e18, e19, hdec, AQ_ret, AQ_normal]
  exact ⟨_, _, _, rfl, rfl, hA', ho⟩
theorem allR_subs (t : Tm) : t.allR = true → ∀ x ∈ t.subs, x.right = true := by
 induction t using Tm.ind with
 | h k i n ls kids ih =>
  intro h x hx
  rw [Tm.allR, Bool.and_eq_true] at h
  rw [Tm.subs] at hx
  rcases List.mem_cons.1 hx with rfl | hx
  ·exact h.1
  ·obtain ⟨y, hy, hxy⟩ := mem_subsL.1 hx
   exact ih y hy ((allRL_iff kids).1 h.2 y hy) x hxy
theorem allRL_subs {l : List Tm} (h : allRL l = true) : ∀ x ∈ subsL l, x.right = true := fun x hx => by
 obtain ⟨y, hy, hxy⟩ := mem_subsL.1 hx
 exact allR_subs y ((allRL_iff l).1 h y hy) x hxy
theorem allRL_take {l : List Tm} {j : Nat} {x : Tm} (h : allRL (l.take j) = true) (d0 : l[j]? = some x) (hx : x.allR = true) : allRL (l.take (j + 1)) = true :=
 (allRL_iff _).2 (take_next (P := fun x => x.allR = true) d0 ((allRL_iff _).1 h) hx)
def putR (l : List Tm) : List UInt8 × Int := if allRL l = true then (putT l, 0) else ([], 3)
theorem table_ok {l : List Tm} (h : allRL l = true) : EnterOK [] (enterL [] l) (· ∈ subsL l) ∧ entL [] l = (l.map fun x => (enterL [] l).idxOf x, textT (enterL [] l)) := by
 have := enterL_ok (l := l) (fun t _ => enter_ok t) Good.nil fun x hx => (right_facts (allRL_subs h x hx)).1
 rwa [show textT [] = [] from rfl] at this
end Go.Proofs.Eng
