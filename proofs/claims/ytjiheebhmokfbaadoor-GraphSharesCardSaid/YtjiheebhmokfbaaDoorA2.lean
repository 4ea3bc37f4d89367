/- Numbers as text: AppendUint, AppendInt, add. No conditions beyond those in the theorems. -/
import Derived.Test.YtjiheebhmokfbaaDoorT3
import Derived.Test.YtjiheebhmokfbaaDoorWX
set_option linter.all false
set_option linter.deprecated false
set_option linter.unnecessarySimpa false
set_option linter.unusedVariables false
set_option linter.unusedSimpArgs false
set_option linter.defProp false
namespace Go.Proofs.Eng
open Go Go.Proofs
set_option maxRecDepth 100000
set_option maxHeartbeats 8000000
mutual
def Tm.allR : Tm → Bool
 | .mk k i n ls kids => (Tm.mk k i n ls kids).right && allRL kids
def allRL : List Tm → Bool
 | [] => true
 | t :: l => t.allR && allRL l
end
theorem tdp_split : ∀ {l : List Tm} {j : Nat} {x : Tm}, l[j]? = some x → tdpL (l.take (j + 1)) = max (tdpL (l.take j)) x.dp ∧ x.dp ≤ tdpL l
 | [], _, _, h => by simp at h
 | y :: l, 0, x, h => by simp at h; subst h; simp [tdpL]; omega
 | y :: l, j + 1, x, h => by
  have := tdp_split (l := l) (j := j) (by simpa using h)
  simp only [List.take_succ_cons, tdpL]; omega
def strOf (l : List UInt8) : ByteArray := ⟨l.toArray⟩
theorem strOf_size (l : List UInt8) : (strOf l).size = l.length := by simp [strOf, ByteArray.size]
theorem strOf_app (a b : List UInt8) : strOf a ++ strOf b = strOf (a ++ b) := by
 apply ByteArray.ext
 simp [strOf]
theorem strOf_toList (l : List UInt8) : (strOf l).toList = l := by rw [ByteArray.toList_eq]; simp [strOf]
theorem strOf_inj {a b : List UInt8} (h : strOf a = strOf b) : a = b := by rw [← strOf_toList a, h, strOf_toList]
theorem of_str (s : ByteArray) : strOf s.toList = s := by apply ByteArray.ext; rw [ByteArray.toList_eq]; simp [strOf]
set_option maxHeartbeats 16000000
def sml1 : ByteArray := ByteArray.mk #[48,49,50,51,52,53,54,55,56,57,97,98,99,100,101,102,103,104,105,106,107,108,109,110,111,112,113,114,115,116,117,118,119,120,121,122]
def sml2 : ByteArray := ByteArray.mk #[48,48,48,49,48,50,48,51,48,52,48,53,48,54,48,55,48,56,48,57,49,48,49,49,49,50,49,51,49,52,49,53,49,54,49,55,49,56,49,57,
 50,48,50,49,50,50,50,51,50,52,50,53,50,54,50,55,50,56,50,57,51,48,51,49,51,50,51,51,51,52,51,53,51,54,51,55,51,56,51,57,
 52,48,52,49,52,50,52,51,52,52,52,53,52,54,52,55,52,56,52,57,53,48,53,49,53,50,53,51,53,52,53,53,53,54,53,55,53,56,53,57,
 54,48,54,49,54,50,54,51,54,52,54,53,54,54,54,55,54,56,54,57,55,48,55,49,55,50,55,51,55,52,55,53,55,54,55,55,55,56,55,57,
 56,48,56,49,56,50,56,51,56,52,56,53,56,54,56,55,56,56,56,57,57,48,57,49,57,50,57,51,57,52,57,53,57,54,57,55,57,56,57,57]
def pf102b : PF := ⟨15,[.t 2],.seq (.reg [⟨some 2,none,.mov (.c (.v (.string (ByteArray.mk #[])))),0,[]⟩]) (.seq (.seq (.reg [⟨some 3,none,.mov (.t 0),0,[]⟩,⟨some 4,none,
 .bin .lss (.t 3) (.c (.v (.int .i64 10))),0,[]⟩]) (.cond (.t 4) (.seq (.reg [⟨some 5,none,.mov (.t 0),0,[]⟩,⟨some 6,none,.mov (.t 0),0,[]⟩,⟨some 7,none,.bin .add (.t 6)
  (.c (.v (.int .i64 1))),0,[]⟩,⟨some 8,none,.strsl (.c (.v (.string sml1))) (some (.t 5)) (some (.t 7)),0,[]⟩,⟨some 2,none,.mov (.t 8),0,[]⟩]) .ret) .skip))
  (.seq (.reg [⟨some 9,none,.mov (.t 0),0,[]⟩,⟨some 10,none,.bin .mul (.t 9) (.c (.v (.int .i64 2))),0,[]⟩,⟨some 11,none,.mov (.t 0),0,[]⟩,⟨some 12,none,.bin .mul (.t 11)
  (.c (.v (.int .i64 2))),0,[]⟩,⟨some 13,none,.bin .add (.t 12) (.c (.v (.int .i64 2))),0,[]⟩,⟨some 14,none,.strsl (.c (.v (.string sml2))) (some (.t 10)) (some (.t 13)),
 0,[]⟩,⟨some 2,none,.mov (.t 14),0,[]⟩]) .ret))⟩
theorem pf102b_is : pfs 102 = some pf102b := pf102_is.trans rfl
theorem sm_a : sml1.size = 36 ∧ ∀ u : Fin 10, sml1.extract u.val (u.val + 1) = strOf (digF 20 u.val) := by decide
theorem sm_b : sml2.size = 200 ∧ ∀ u : Fin 100, 10 ≤ u.val → sml2.extract (u.val * 2) (u.val * 2 + 2) = strOf (digF 20 u.val) := by decide
theorem small_ret {u : Nat} (h : u < 100) : Out md pfs 102 [.int u] (· = .str (strOf (digF 20 u))) fun _ => False := by
 refine out_of pf102b_is (Nat.le_of_ble_eq_true rfl) ?_
 obtain ⟨z1, s1⟩ := sm_a
 obtain ⟨z2, s2⟩ := sm_b
 rcases Nat.lt_or_ge u 10 with hlt | hge
 ·have hd : decide ((u : Int) < 10) = true := by simp only [decide_eq_true_eq]; omega
  have w1 : IntKind.i64.wrap ((u : Int) + 1) = ((u + 1 : Nat) : Int) := next_ix (by unfold lenB; omega)
  have b1 : ((u : Int) ≤ 36) = True := eq_true (by omega)
  have b2 : (((u + 1 : Nat) : Int) ≤ 36) = True := eq_true (by omega)
  have b3 : (u ≤ u + 1) = True := eq_true (by omega)
  have h1 := s1 ⟨u, hlt⟩
  simp only at h1
  simp only [pf102b, ↓wpre, wall, simprocAttr, hd, w1, z1, b1, b2, b3, h1, Int.toNat_natCast]
 ·have hd : decide ((u : Int) < 10) = false := by simp only [decide_eq_false_iff_not]; omega
  have w1 : IntKind.i64.wrap ((u : Int) * 2) = ((u * 2 : Nat) : Int) := by rw [wrap_in (by unfold in64; omega)]; omega
  have w2 : IntKind.i64.wrap (((u * 2 : Nat) : Int) + 2) = ((u * 2 + 2 : Nat) : Int) := by rw [wrap_in (by unfold in64; omega)]; omega
  have b1 : (((u * 2 : Nat) : Int) ≤ 200) = True := eq_true (by omega)
  have b2 : (((u * 2 + 2 : Nat) : Int) ≤ 200) = True := eq_true (by omega)
  have b3 : (u * 2 ≤ u * 2 + 2) = True := eq_true (by omega)
  have h1 := s2 ⟨u, h⟩ hge
  simp only at h1
  simp only [pf102b, ↓wpre, wall, simprocAttr, hd, w1, w2, z2, b1, b2, b3, h1, Int.toNat_natCast]
theorem num_ret {n : Nat} (h1 : 1 ≤ n) (h2 : n < 18446744073709551616) : Out md pfs 103 [.v (.int .u64 (n : Nat))] (· = .int ((digF 20 n).length : Nat)) fun _ => False := by
 have hv : numO [.v (.int .u64 (n : Nat))] ⟨[], []⟩ = some (.int ((digF 20 n).length : Nat), ⟨[], []⟩) := by
  simp only [numO]
  rw [if_pos (by omega), Int.toNat_natCast]
 exact ⟨_, _, _, run_ora (f := 103) (pf := ⟨0, [], .ora numO⟩) (o := numO) (by unfold pfs; rw [if_pos rfl]) rfl hv, by simp only [Outc.purify]; rw [purify_pure rfl]; rfl, rfl⟩
theorem fmt_call {n : Nat} (h1 : 1 ≤ n) (h2 : n < 18446744073709551616) {H : List AObj} {T : List Nat} {i : Nat} {c : List AV} (hH : H[i]? = some (.cells false c)) (hc : (digF 20 n).length ≤ c.length) (hz : c.all isZ = true) (K KP : AV → ASt → Prop) :
  CW (run md pfs) md false ⟨H, T⟩ 104 [.bs i 0 (digF 20 n).length 1 false, .v (.int .u64 (n : Nat))] K KP () = K .undef ⟨H.set i (.cells false (bytes (digF 20 n) ++ c.drop (digF 20 n).length)), T⟩ := by
 have hm : md 104 = .raw := rfl
 have hv : fmtO [.bs i 0 (digF 20 n).length 1 false, .v (.int .u64 (n : Nat))] ⟨H, T⟩ = some (.undef, ⟨H.set i (.cells false (bytes (digF 20 n) ++ c.drop (digF 20 n).length)), T⟩) := by
  simp only [fmtO, hH, Int.toNat_natCast]
  rw [if_pos]
  exact ⟨by simp, ⟨by omega, by omega⟩, by simp, hc, hz⟩
 have := run_ora (md := md) (pfs := pfs) (f := 104) (pf := ⟨0, [], .ora fmtO⟩) (o := fmtO) (by unfold pfs; rw [if_neg (by decide), if_pos rfl]) rfl hv
 simp [CW, callA, hm, this]
theorem chunk1 : ∀ (n : Nat) (l : List AV), n ≤ l.length → chunk 1 false n l = l.take n
 | 0, l, _ => by simp [chunk]
 | n + 1, [], h => by simp at h
 | n + 1, x :: l, h => by
  have := chunk1 n l (by simpa using h)
  simp [chunk, this]
theorem bytes_one (l : List UInt8) : (bytes l).all AV.one = true := by
 rw [List.all_eq_true]; intro x hx
 obtain ⟨b, _, rfl⟩ := List.mem_map.1 hx; rfl
theorem elems_bytes {H : List AObj} {T : List Nat} {i n : Nat} {fz : Bool} {l : List UInt8} {z : List AV} (hH : H[i]? = some (.cells fz (bytes l ++ z))) (hn : n = l.length) : elemsA ⟨H, T⟩ (.bs i 0 n 1 false) = some (bytes l) := by
 subst hn
 have e : ((bytes l ++ z).drop 0).take (l.length * 1) = bytes l := by
  rw [List.drop_zero, Nat.mul_one, ← bytes_len l, List.take_append_of_le_length (Nat.le_refl _), List.take_length]
 simp only [elemsA, hH]
 rw [if_pos]
 ·rw [List.drop_zero, chunk1 _ _ (by rw [List.length_append, bytes_len]; omega), ← bytes_len l, List.take_append_of_le_length (Nat.le_refl _), List.take_length]
 ·refine ⟨by rw [List.length_append, bytes_len]; omega, ?_⟩
  rw [Nat.mul_one] at e
  simp only [Nat.mul_one, e, bytes_one]; rfl
theorem map_bytes (l : List UInt8) : List.map (fun c : UInt8 => AV.v (.int .u8 (c.toNat : Int))) l = bytes l := rfl
def zs24 : List AV := List.replicate 24 (.v (.int .u8 0))
theorem zs24_eq : [AV.v (.int .u8 0), AV.v (.int .u8 0), AV.v (.int .u8 0), AV.v (.int .u8 0), AV.v (.int .u8 0), AV.v (.int .u8 0), AV.v (.int .u8 0), AV.v (.int .u8 0), AV.v (.int .u8 0), AV.v (.int .u8 0), AV.v (.int .u8 0), AV.v (.int .u8 0), AV.v (.int .u8 0), AV.v (.int .u8 0), AV.v (.int .u8 0), AV.v (.int .u8 0), AV.v (.int .u8 0), AV.v (.int .u8 0), AV.v (.int .u8 0), AV.v (.int .u8 0), AV.v (.int .u8 0), AV.v (.int .u8 0), AV.v (.int .u8 0), AV.v (.int .u8 0)] = zs24 := rfl
def KeptX (p : Nat) (H H' : List AObj) : Prop := H.length ≤ H'.length ∧ ∀ k, k < H.length → k ≠ p → H'[k]? = H[k]?
theorem digF_lenle {n : Nat} (h2 : n < 18446744073709551616) : (digF 20 n).length ≤ 20 := by have := dig20_len h2; omega
theorem src_bs (s : ASt) (i o n es : Nat) (ag : Bool) : srcA s (.bs i o n es ag) = elemsA s (.bs i o n es ag) := rfl
theorem appendUint_rw {l : List UInt8} {n : Nat} (hn : n < 18446744073709551616) (hl : l.length + 20 ≤ capB) {H : List AObj} {T : List Nat} {t : Tl} (h : App T (bytes l) t) :
  Rw 98 [.sl (bytes l) t, .v (.int .u64 (n : Nat)), .int 10] ⟨H, T⟩ fun v s => ∃ t' G T', v = .sl (bytes (l ++ digF 20 n)) t' ∧ s = ⟨H ++ G, T'⟩ ∧ App T' (bytes (l ++ digF 20 n)) t' ∧ Oth T t T' t' := by
 refine rw_of pf98_is (Nat.le_of_ble_eq_true rfl) ?_
 have hd20 := digF_lenle hn
 obtain ⟨t2, T2, f1, f2, f3⟩ := app_many (es := 1) (xs := bytes (digF 20 n)) h (by rw [bytes_len, bytes_len]; omega) (bytes_all l) (bytes_all2 _)
 rw [← bytes_app] at f1 f2
 rcases Nat.lt_or_ge n 100 with hlt | hge
 ·have hd : decide ((n : Int) < 100) = true := by simp only [decide_eq_true_eq]; omega
  have w1 : IntKind.i64.wrap (n : Int) = n := wrap_in (by unfold in64; omega)
  obtain ⟨_, rfl, c102⟩ := (small_ret hlt).call rfl (by simp [pvs_cons, pvs_nil, pv_v])
  simp only [pf98, ↓wpre, wall, simprocAttr, hd, w1, c102, strOf_toList, map_bytes, f1, AQ_ret, AQ_normal, AQ_exit]
  exact ⟨_, [], _, rfl, by simp, f2, f3⟩
 ·have hd : decide ((n : Int) < 100) = false := by simp only [decide_eq_false_iff_not]; omega
  obtain ⟨_, rfl, c103⟩ := (num_ret (n := n) (by omega) hn).call rfl (by simp [pvs_cons, pvs_nil, pv_v])
  have b1 : (((digF 20 n).length : Nat) : Int) ≤ 24 := by omega
  have c104 := fmt_call (n := n) (by omega) hn (H := H ++ [.cells false zs24]) (T := T) (i := H.length) (c := zs24) (by simp) (by simp [zs24]; omega) rfl
  rw [app_set_len, List.set_cons_zero] at c104
  have e1 := elems_bytes (fz := false) (z := zs24.drop (digF 20 n).length) (H := H ++ [.cells false (bytes (digF 20 n) ++ zs24.drop (digF 20 n).length)]) (T := T) (i := H.length) (n := (digF 20 n).length) (l := digF 20 n) (by simp) rfl
  simp only [pf98, ↓wpre, wall, simprocAttr, hd, c103, b1, Int.toNat_natCast, zs24_eq, c104, src_bs, e1, f1, AQ_ret, AQ_normal, AQ_exit]
  exact ⟨_, _, _, rfl, rfl, f2, f3⟩
theorem u64_wrap {n : Int} (h0 : 0 ≤ n) (h1 : n < 18446744073709551616) : IntKind.u64.wrap n = n := by
 simp [IntKind.wrap, IntKind.bits, IntKind.signed]; omega
theorem u64_neg {n : Int} (h0 : -9223372036854775808 ≤ n) (h1 : n < 0) : IntKind.u64.wrap (0 - IntKind.u64.wrap n) = -n := by
 simp [IntKind.wrap, IntKind.bits, IntKind.signed]; omega
theorem bytes_45 (l : List UInt8) : bytes l ++ [AV.v (.int .u8 45)] = bytes (l ++ [45]) := by simp [bytes, byteA]
theorem bytes_32 (l : List UInt8) : bytes l ++ [AV.v (.int .u8 32)] = bytes (l ++ [32]) := by simp [bytes, byteA]
theorem numF_len {x : Int} (h : in64 x) : (numF x).length ≤ 21 := by
 unfold in64 at h
 unfold numF
 split
 ·have := digF_lenle (n := x.natAbs) (by omega); simp; omega
 ·have := digF_lenle (n := x.toNat) (by omega); omega
theorem appendInt0_rw {l : List UInt8} {x : Int} (hx : in64 x) (hl : l.length + 21 ≤ capB) {H : List AObj} {T : List Nat} {t : Tl} (h : App T (bytes l) t) :
  Rw 84 [.sl (bytes l) t, .int x, .int 10] ⟨H, T⟩ fun v s => ∃ t' G T', v = .sl (bytes (l ++ numF x)) t' ∧ s = ⟨H ++ G, T'⟩ ∧ App T' (bytes (l ++ numF x)) t' ∧ Oth T t T' t' := by
 refine rw_of pf84_is (Nat.le_of_ble_eq_true rfl) ?_
 have hx' := hx
 unfold in64 at hx'
 by_cases hn : x < 0
 ·have hd : decide (x < 0) = true := by simp only [decide_eq_true_eq]; exact hn
  have w1 := u64_neg hx'.1 hn
  obtain ⟨n, hnx⟩ : ∃ n : Nat, -x = n := ⟨x.natAbs, by omega⟩
  rw [hnx] at w1
  obtain ⟨t2, T2, f1, f2, f3⟩ := app_many (es := 1) (xs := [.v (.int .u8 45)]) h (by rw [bytes_len]; simp; omega) (bytes_all l) rfl
  rw [bytes_45] at f1 f2
  obtain ⟨_, _, ⟨t3, G, T3, rfl, rfl, g2, g3⟩, c98⟩ := (appendUint_rw (l := l ++ [45]) (n := n) (H := H) (by omega) (by simp; omega) f2).call rfl
  have e : l ++ numF x = l ++ [45] ++ digF 20 n := by
   unfold numF; rw [if_pos hn, show x.natAbs = n from by omega]; simp
  simp only [pf84, ↓wpre, wall, simprocAttr, hd, w1, f1, srcA_sl, c98, AQ_ret, AQ_normal, AQ_exit]
  rw [e]
  exact ⟨_, _, _, rfl, rfl, g2, f3.trans g3⟩
 ·have hd : decide (x < 0) = false := by simp only [decide_eq_false_iff_not]; exact hn
  obtain ⟨n, rfl⟩ : ∃ n : Nat, x = n := ⟨x.toNat, by omega⟩
  have w1 := u64_wrap (n := (n : Int)) (by omega) (by omega)
  obtain ⟨_, _, ⟨t3, G, T3, rfl, rfl, g2, g3⟩, c98⟩ := (appendUint_rw (l := l) (n := n) (H := H) (by omega) (by omega) h).call rfl
  have e : l ++ numF n = l ++ digF 20 n := by
   unfold numF; rw [if_neg hn, Int.toNat_natCast]
  simp only [pf84, ↓wpre, wall, simprocAttr, hd, w1, c98, AQ_ret, AQ_normal, AQ_exit]
  rw [e]
  exact ⟨_, _, _, rfl, rfl, g2, g3⟩
theorem appendInt_rw {l : List UInt8} {x : Int} (hx : in64 x) (hl : l.length + 21 ≤ capB) {H : List AObj} {T : List Nat} {t : Tl} (h : App T (bytes l) t) :
  Rw 68 [.sl (bytes l) t, .int x, .int 10] ⟨H, T⟩ fun v s => ∃ t' G T', v = .sl (bytes (l ++ numF x)) t' ∧ s = ⟨H ++ G, T'⟩ ∧ App T' (bytes (l ++ numF x)) t' ∧ Oth T t T' t' := by
 refine rw_of pf68_is (Nat.le_of_ble_eq_true rfl) ?_
 obtain ⟨_, _, ⟨t3, G, T3, rfl, rfl, g2, g3⟩, c84⟩ := (appendInt0_rw (H := H) hx hl h).call rfl
 simp only [pf68, ↓wpre, wall, simprocAttr, c84, AQ_ret, AQ_normal, AQ_exit]
 exact ⟨_, _, _, rfl, rfl, g2, g3⟩
theorem add_sh {l : List UInt8} {x : Int} (hx : in64 x) (hl : l.length + 22 ≤ capB) {H : List AObj} {T : List Nat} {t : Tl} {p : Nat} (hp : H[p]? = some (.cells false [.sl (bytes l) t])) (h : App T (bytes l) t) :
  Sh md pfs 69 [.int x, .ptr p 0] ⟨H, T⟩ (fun v s => ∃ t' H' T', s = ⟨H', T'⟩ ∧ KeptX p H H' ∧ H'[p]? = some (.cells false [.sl (bytes (l ++ 32 :: numF x)) t']) ∧ App T' (bytes (l ++ 32 :: numF x)) t') fun _ _ => False := by
 refine sh_of pf69_is (Nat.le_of_ble_eq_true rfl) ?_
 obtain ⟨t2, T2, f1, f2, f3⟩ := app_many (es := 1) (xs := [.v (.int .u8 32)]) h (by rw [bytes_len]; simp; omega) (bytes_all l) rfl
 rw [bytes_32] at f1 f2
 obtain ⟨_, _, ⟨t3, G, T3, rfl, rfl, g2, g3⟩, c68⟩ := (appendInt_rw (l := l ++ [32]) (H := H) hx (by simp; omega) f2).call rfl
 have e : l ++ 32 :: numF x = l ++ [32] ++ numF x := by simp
 have hpl := lt_of_get hp
 have hp2 := app_get_of hp G
 simp only [pf69, ↓wpre, wall, simprocAttr, hp, hp2, srcA_sl, f1, c68]
 rw [e]
 refine ⟨_, _, _, rfl, ⟨by simp, fun k h1 h2 => ?_⟩, ?_, g2⟩
 ·rw [List.getElem?_set, if_neg (Ne.symm h2), List.getElem?_append_left h1]
 ·rw [List.getElem?_set, if_pos rfl, if_pos (by simp; omega)]
end Go.Proofs.Eng
