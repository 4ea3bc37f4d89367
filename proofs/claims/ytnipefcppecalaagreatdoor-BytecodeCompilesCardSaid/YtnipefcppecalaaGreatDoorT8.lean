/- The examples of the laws' package. No conditions beyond those in the theorems. -/
import Derived.Test.YtnipefcppecalaaGreatDoorK6
import Derived.WalkKit
import Derived.BigCall
import Derived.Deep.LoopGhost
set_option linter.all false
set_option linter.deprecated false
set_option linter.unnecessarySimpa false
set_option linter.unusedVariables false
set_option linter.unusedSimpArgs false
set_option linter.defProp false
namespace Go.Proofs.Eng
open Go Go.Proofs
set_option maxRecDepth 100000
set_option maxHeartbeats 16000000
theorem KS.set {ki si q : Nat} {Bs : List AV} {t1 t2 t3 : Tl} {c : Cd} {S : List Int} {H : List AObj} (h : KS ki si Bs t1 t2 t3 c S H) {o : AObj} (h1 : q ≠ ki) (h2 : q ≠ si) : KS ki si Bs t1 t2 t3 c S (H.set q o) :=
 ⟨set_ne h.k h1, set_ne h.s h2, h.sl, h.ne, h.bl, h.p1, h.gl⟩
section
variable {ki si : Nat} {Bs : List AV} {t1 t2 t3 : Tl} {c : Cd} {S : List Int} {H : List AObj} {V : List Nat}
end
end Go.Proofs.Eng
namespace Go.Proofs.Eng
open Go Go.Proofs
set_option maxRecDepth 100000
set_option maxHeartbeats 16000000
end Go.Proofs.Eng
namespace Go.Proofs.Eng
open Go Go.Proofs
set_option maxRecDepth 100000
set_option maxHeartbeats 16000000
def opNames : List ByteArray := [⟨#[118,97,114]⟩, ⟨#[102,117,110]⟩, ⟨#[97,112,112,108,121]⟩, ⟨#[114,101,116,117,114,110]⟩, ⟨#[99,116,111,114]⟩, ⟨#[99,97,115,101]⟩, ⟨#[98,114,97,110,99,104]⟩, ⟨#[103,108,111,98,97,108]⟩, ⟨#[98,111,120]⟩, ⟨#[98,105,110,100]⟩, ⟨#[117,110,98,105,110,100]⟩, ⟨#[112,97,105,114]⟩, ⟨#[102,115,116]⟩, ⟨#[115,110,100]⟩, ⟨#[97,98,111,114,116]⟩]
def numT (n : Int) : ByteArray := ⟨(numF n).toArray⟩
def lineT (x : Ins) : ByteArray :=
 let s := ⟨#[32,32]⟩ ++ opNames.getD x.op.toNat ⟨#[]⟩
 let s := if usesA x.op then s ++ (⟨#[32]⟩ ++ numT x.a) else s
 let s := if usesB x.op then s ++ (⟨#[32]⟩ ++ numT x.b) else s
 let s := if usesN x.op then s ++ (⟨#[32]⟩ ++ x.n) else s
 s ++ ⟨#[10]⟩
theorem names_ret : Out md pfs 83 [] (· = .agg (opNames.map fun s => .str s)) fun _ => False := by
 refine out_of pf83_is (Nat.le_of_ble_eq_true rfl) ?_
 simp only [pf83, ↓wpre, wall, simprocAttr]
 rfl
theorem itoa_ret {n : Int} (h : in64 n) : Out md pfs 41 [.int n] (· = .str (numT n)) fun _ => False := by
 have h' : -9223372036854775808 ≤ n ∧ n ≤ 9223372036854775807 := by unfold in64 at h; omega
 have := run_ora (md := md) (pfs := pfs) (f := 41) (pf := ⟨0, [], .ora itoaO⟩) (by simp [pfs]) rfl (args := [.int n]) (v := .str (numT n)) (s := ⟨[], []⟩) (s' := ⟨[], []⟩) (by
  simp only [itoaO, AV.int]
  rw [if_pos h']; rfl)
 exact ⟨_, _, .ret (.str (numT n)), this, rfl, rfl⟩
theorem numT_size {n : Int} (h : in64 n) : (numT n).size ≤ 21 := by
 have := numF_len (n := n) (by unfold in64 at h; omega) (by unfold in64 at h; omega)
 simpa [numT, ByteArray.size] using this
theorem opName_size : ∀ k, k < 15 → (opNames.getD k ⟨#[]⟩).size ≤ 6 := by decide
theorem line_ret (x : Ins) (h0 : 0 ≤ x.op) (h1 : x.op ≤ 14) (ha : in64 x.a) (hb : in64 x.b) (hn : x.n.size ≤ 1000000) : Out md pfs 43 [x.av] (· = .str (lineT x)) fun _ => False := by
 obtain ⟨op, a, b, n⟩ := x
 simp only at h0 h1 ha hb hn
 refine out_of pf43_is (Nat.le_of_ble_eq_true rfl) ?_
 obtain ⟨_, rfl, cn⟩ := names_ret.call rfl rfl
 obtain ⟨_, rfl, co⟩ := (operands_ret op).call rfl (by simp [pvs_cons, pvs_nil, pv_v])
 obtain ⟨_, rfl, ca⟩ := (itoa_ret ha).call rfl (by simp [pvs_cons, pvs_nil, pv_v])
 obtain ⟨_, rfl, cb⟩ := (itoa_ret hb).call rfl (by simp [pvs_cons, pvs_nil, pv_v])
 have sa := numT_size ha
 have sb := numT_size hb
 obtain ⟨k, rfl⟩ : ∃ k : Nat, op = k := ⟨op.toNat, by omega⟩
 have hk : k < 15 := by omega
 have hkl : (k : Int) < 15 := by omega
 have hk0 : (0 : Int) ≤ k := by omega
 have snm := opName_size k hk
 have hnm : (List.drop k (opNames.map fun s => AV.str s)).head? = some (.str (opNames.getD k ⟨#[]⟩)) := by
  rw [List.head?_drop, List.getElem?_map, List.getD, List.getElem?_eq_getElem (show k < opNames.length from hk)]; rfl
 have hlt : lineT ⟨k, a, b, n⟩ = (let s := ⟨#[32,32]⟩ ++ opNames.getD k ⟨#[]⟩
  let s := if usesA k then s ++ (⟨#[32]⟩ ++ numT a) else s
  let s := if usesB k then s ++ (⟨#[32]⟩ ++ numT b) else s
  let s := if usesN k then s ++ (⟨#[32]⟩ ++ n) else s
  s ++ ⟨#[10]⟩) := rfl
 rw [hlt]
 simp only [Ins.av]
 generalize opNames.getD k ⟨#[]⟩ = nm at *
 generalize opNames.map (fun s => AV.str s) = L at *
 generalize numT a = ta at *
 generalize numT b = tb at *
 generalize usesA k = uA at *
 generalize usesB k = uB at *
 generalize usesN k = uN at *
 have z1 : (⟨#[32]⟩ : ByteArray).size = 1 := rfl
 have z2 : (⟨#[32, 32]⟩ : ByteArray).size = 2 := rfl
 have z3 : (⟨#[10]⟩ : ByteArray).size = 1 := rfl
 cases uA <;> cases uB <;> cases uN
 all_goals
  simp only [pf43, ↓wpre, wall, simprocAttr, List.length_append, List.append_assoc, app_get_len, app_get_add, app_set_len, app_set_add, cn, co, ca, cb, hnm, hkl, hk0, Nat.mul_one, ByteArray.size_append, z1, z2, z3, Bool.false_eq_true, if_false, if_true]
  omega
end Go.Proofs.Eng
namespace Go.Proofs.Eng
open Go Go.Proofs Go.Shelf Go.RowKit
theorem bld_below {B b : Nat} {bs : List Value} {W W' : World} (h : Lib.IsBuilder 104 5 B b bs W) (hb : Below W.heap.size W W') : Lib.IsBuilder 104 5 B b bs W' := by
 have one : ∀ {p}, Lib.BuilderAt 104 5 B b p bs W → Lib.BuilderAt 104 5 B b p bs W' := by
  rintro p ⟨hB, v, hv, hown, hne⟩
  exact ⟨hB, v, (hb.block b (bl_lt hv)).trans hv, hown.kept (row := none) ⟨hb.os, hb.tape, hb.output, hb.size, fun k hk _ => hb.block k hk⟩ (Classical.em _), hne⟩
 exact h.elim (fun x => .inl (one x)) (fun x => .inr (one x))
def bL (s : ByteArray) : List UInt8 := s.data.toList
theorem strC (s : ByteArray) : Lib.strCells s = Lib.byteCells (bL s) := by
 obtain ⟨⟨l⟩⟩ := s
 exact Lib.strCells_toArray l
theorem bL_len (s : ByteArray) : (bL s).length = s.size := by rw [bL, Array.length_toList]; rfl
def str1 : ByteArray := ⟨#[98, 108, 111, 99, 107, 32]⟩
def gnT (c : Cd) (n : Nat) : List UInt8 := match c.st.findIdx? (fun s => s == (n : Int)) with
 | none => []
 | some j => bL (⟨#[32]⟩ ++ c.gl.getD j ⟨#[]⟩)
def headT (c : Cd) (n : Nat) : List UInt8 := bL (str1 ++ numT n ++ ⟨#[58]⟩) ++ gnT c n ++ bL ⟨#[10]⟩
def bodyT (l : List Ins) : List UInt8 := l.flatMap fun x => bL (lineT x)
def textTo (c : Cd) : Nat → List UInt8
 | 0 => []
 | n + 1 => textTo c n ++ (headT c n ++ bodyT (c.bl.getD n []))
def textL (c : Cd) : List UInt8 := textTo c c.bl.length
theorem textTo_le (c : Cd) : ∀ {n m : Nat}, n ≤ m → (textTo c n).length ≤ (textTo c m).length
  | n, 0, h => by obtain rfl : n = 0 := by omega
                  exact Nat.le_refl _
  | n, m + 1, h => by
    rcases Nat.lt_or_ge n (m + 1) with h' | h'
    · have := textTo_le c (n := n) (m := m) (by omega)
      rw [textTo, List.length_append]; omega
    · obtain rfl : n = m + 1 := by omega
      exact Nat.le_refl _
theorem bodyT_snoc {l : List Ins} {j : Nat} {x : Ins} (h : l[j]? = some x) : bodyT (l.take (j + 1)) = bodyT (l.take j) ++ bL (lineT x) := by
 rw [bodyT, bodyT, List.take_add_one, h, List.flatMap_append]; simp
theorem bodyT_le (l : List Ins) (j : Nat) : (bodyT (l.take j)).length ≤ (bodyT l).length := by
 conv => rhs; rw [← List.take_append_drop j l]
 rw [bodyT, bodyT, List.flatMap_append, List.length_append]; omega
theorem gn_of {c : Cd} {n : Nat} {r : Int} (h : (r = -1 ∧ (n : Int) ∉ c.st) ∨ ∃ j : Nat, r = j ∧ c.st[j]? = some (n : Int) ∧ (n : Int) ∉ c.st.take j) : (r = -1 ∧ gnT c n = []) ∨ ∃ j : Nat, r = j ∧ j < c.st.length ∧ gnT c n = bL (⟨#[32]⟩ ++ c.gl.getD j ⟨#[]⟩) := by
 rcases h with ⟨rfl, h⟩ | ⟨j, rfl, h1, h2⟩
 ·refine .inl ⟨rfl, ?_⟩
  have : c.st.findIdx? (fun s => s == (n : Int)) = none := List.findIdx?_eq_none_iff.2 fun x hx => by
   simp only [beq_eq_false_iff_ne]; intro e; exact h (e ▸ hx)
  rw [gnT, this]
 ·have hj := (List.getElem?_eq_some_iff.1 h1).1
  refine .inr ⟨j, rfl, hj, ?_⟩
  have : c.st.findIdx? (fun s => s == (n : Int)) = some j := by
   rw [List.findIdx?_eq_some_iff_getElem]
   refine ⟨hj, by simp [(List.getElem?_eq_some_iff.1 h1).2], fun k hk => ?_⟩
   simp only [beq_iff_eq, Bool.not_eq_true, beq_eq_false_iff_ne]
   intro e
   refine h2 (List.mem_take_iff_getElem.2 ⟨k, by omega, e⟩)
  rw [gnT, this]
end Go.Proofs.Eng
namespace Go.Proofs.Eng
open Go Go.Proofs Go.Shelf Go.RowKit
theorem cell_lt {w : World} {b o : Nat} {v : Value} (h : w.cell? ⟨b, o, none⟩ = some v) : b < w.heap.size := by
 rcases Nat.lt_or_ge b w.heap.size with h' | h'
 ·exact h'
 ·simp [World.cell?, Array.getElem?_eq_none h'] at h
theorem cell_keep {B : Nat} {w w' : World} (hB : Below B w w') {b o : Nat} {v : Value} (h : w.cell? ⟨b, o, none⟩ = some v) (hb : b < B) : w'.cell? ⟨b, o, none⟩ = some v := by
 rw [← h]; exact World.cell?_of_block (w := w) (a := ⟨b, o, none⟩) (hB.block b hb)
structure TxH (c : Cd) (w : World) (v1 v2 v3 : Value) : Prop where
 one : v1.oneCell' = true ∧ v2.oneCell' = true ∧ v3.oneCell' = true
 chk : ∀ w1, Below w.heap.size w w1 → Calls Tryz.prog 10 #[.agg #[v1, v2, v3]] w1 fun e w2 => e = .returned (.int .i64 c.check) ∧ Below w1.heap.size w1 w2
 s1 : ∃ a cap, v1 = .slice a c.bl.length cap ∧ c.bl.length ≤ cap ∧ ∀ (n : Nat) (l : List Ins), c.bl[n]? = some l → ∃ b o, a = some ⟨b, o, none⟩ ∧ ∃ a' cap', w.cell? ⟨b, o + n, none⟩ = some (.slice a' l.length cap') ∧ l.length ≤ cap' ∧ ∀ (j : Nat) (x : Ins), l[j]? = some x → ∃ b' o', a' = some ⟨b', o', none⟩ ∧
  w.cell? ⟨b', o' + j * 4, none⟩ = some (.int .i64 x.op) ∧ w.cell? ⟨b', o' + j * 4 + 1, none⟩ = some (.int .i64 x.a) ∧ w.cell? ⟨b', o' + j * 4 + 2, none⟩ = some (.int .i64 x.b) ∧ w.cell? ⟨b', o' + j * 4 + 3, none⟩ = some (.string x.n)
 s2 : ∃ a cap, v2 = .slice a c.gl.length cap ∧ c.gl.length ≤ cap ∧ ∀ (n : Nat) (g : ByteArray), c.gl[n]? = some g → ∃ b o, a = some ⟨b, o, none⟩ ∧ w.cell? ⟨b, o + n, none⟩ = some (.string g)
 itoa : ∀ (n : Nat), n < c.bl.length → ∀ w1, Below w.heap.size w w1 → Calls Tryz.prog 41 #[.int .i64 n] w1 fun e w2 => e = .returned (.string (numT n)) ∧ Below w1.heap.size w1 w2
 idx : ∀ (n : Nat), ∀ w1, Below w.heap.size w w1 → Calls Tryz.prog 42 #[v3, .int .i64 n] w1 fun e w2 => (∃ r : Int, e = .returned (.int .i64 r) ∧ ((r = -1 ∧ gnT c n = []) ∨ ∃ j : Nat, r = j ∧ j < c.gl.length ∧ gnT c n = bL (⟨#[32]⟩ ++ c.gl.getD j ⟨#[]⟩))) ∧ Below w1.heap.size w1 w2
 line : ∀ l ∈ c.bl, ∀ x ∈ l, ∀ w1, Below w.heap.size w w1 → Calls Tryz.prog 43 #[.agg #[.int .i64 x.op, .int .i64 x.a, .int .i64 x.b, .string x.n]] w1 fun e w2 => e = .returned (.string (lineT x)) ∧ Below w1.heap.size w1 w2
set_option maxHeartbeats 1000000 in
set_option maxRecDepth 1000000 in
theorem text_walk {c : Cd} {w : World} {v1 v2 v3 : Value} (h : TxH c w v1 v2 v3) (h0 : c.check = 0) (hnb : c.bl.length ≤ 1000000) (hlb : ∀ l ∈ c.bl, l.length ≤ 1000000) (hlen : (textL c).length ≤ 1000000000000) :
  Calls Tryz.prog 19 #[.agg #[v1, v2, v3]] w fun e w' => e = .returned (.string ⟨(textL c).toArray⟩) ∧ Below w.heap.size w w' := by
 obtain ⟨⟨q1, q2, q3⟩, hchk, ⟨a1, cap1, rfl, hcap1, hm1⟩, ⟨a2, cap2, rfl, hcap2, hm2⟩, hit, hix, hln⟩ := h
 have hz : ((0 : Int) != 0) = false := rfl
 rw [h0] at hchk
 obtain ⟨nb, hnbe⟩ : ∃ nb, nb = c.bl.length := ⟨_, rfl⟩
 go_enter Tryz.func19, Tryz.ntmps19
 go_wp2_with (go_at_call 10; refine (hchk _ ((Below.refl _ w).alloc (Nat.le_refl _) _)).mono ?_)
 rintro e w1 ⟨rfl, hb1⟩
 have hsz0 : (w.alloc (.cells #[.slice a1 c.bl.length cap1, .slice a2 c.gl.length cap2, v3] 34)).heap.size = w.heap.size + 1 := by rw [alloc_size]
 have hbk0 : w1.heap[w.heap.size]? = some (.cells #[.slice a1 c.bl.length cap1, .slice a2 c.gl.length cap2, v3] 34) := (hb1.block _ (by rw [hsz0]; omega)).trans (alloc_new _ _)
 have hB1 : Below w.heap.size w w1 := ((Below.refl _ w).alloc (Nat.le_refl _) _).trans (hb1.mono (by rw [hsz0]; omega))
 have hsz1 := hb1.size
 rw [hsz0] at hsz1
 have k1 : w1.cell? ⟨w.heap.size, 0, none⟩ = some (.slice a1 c.bl.length cap1) := by simp [World.cell?, hbk0]
 have k2 : w1.cell? ⟨w.heap.size, 1, none⟩ = some (.slice a2 c.gl.length cap2) := by simp [World.cell?, hbk0]
 have k3 : w1.cell? ⟨w.heap.size, 2, none⟩ = some v3 := by simp [World.cell?, hbk0]
 clear hb1 hsz0 hbk0
 have hold : ∀ {b o : Nat} {v : Value}, w.cell? ⟨b, o, none⟩ = some v → w1.cell? ⟨b, o, none⟩ = some v ∧ b < w1.heap.size := fun {b o v} h => ⟨cell_keep hB1 h (cell_lt h), by have := cell_lt h; omega⟩
 have hN : w.heap.size < w1.heap.size := by omega
 have k1a : ∀ ob, (w1.alloc ob).cell? ⟨w.heap.size, 0, none⟩ = some (.slice a1 c.bl.length cap1) := fun ob => cell_allocX k1
 go_wp2
 have hfr := Lib.fresh_isBuilder 104 5 w1
 have hszA : (w1.alloc (Obj.cells #[Value.pointer none, Value.slice none 0 0] 104)).heap.size = w1.heap.size + 1 := by rw [alloc_size]
 have hBA : Below w1.heap.size w1 (w1.alloc (Obj.cells #[Value.pointer none, Value.slice none 0 0] 104)) := (Below.refl _ w1).alloc (Nat.le_refl _) _
 go_loopw [15] (fun i wr => ∃ n : Nat, n ≤ c.bl.length ∧ i = .int .i64 (n : Nat) ∧ Below w1.heap.size w1 wr ∧ w1.heap.size < wr.heap.size ∧ Lib.IsBuilder 104 5 w1.heap.size w1.heap.size (Lib.byteCells (textTo c n)) wr) (fun i _ => c.bl.length - (match i with | .int _ z => z.toNat | _ => 0))
 case atStart => exact ⟨0, Nat.zero_le _, rfl, hBA, by omega, hfr⟩
 case round =>
  obtain ⟨n, hn, rfl, hB, hsz, hI⟩ := hrel
  by_cases hlt : n < c.bl.length
  ·have hx : c.bl[n]? = some c.bl[n] := List.getElem?_eq_getElem hlt
   generalize hle : c.bl[n] = l at hx
   have hlm : l ∈ c.bl := List.mem_of_getElem? hx
   have hll := hlb l hlm
   have hgd : c.bl.getD n [] = l := by rw [List.getD, hx]; rfl
   have htl := textTo_le c (show n + 1 ≤ c.bl.length by omega)
   rw [textTo, List.length_append, List.length_append, headT, List.length_append, List.length_append, bL_len, bL_len, hgd] at htl
   rw [textL] at hlen
   obtain ⟨b, o, rfl, a', cap', hc1, hcp, hm3⟩ := hm1 n l hx
   obtain ⟨hc2, hc3⟩ := hold hc1
   have hc4 := cell_keep hB hc2 hc3
   have hz1 : (n : Int) < (c.bl.length : Int) := by omega
   have hz0 : (0 : Int) ≤ (n : Int) := by omega
   have hBw : Below w.heap.size w wr := hB1.trans (hB.mono (by omega))
   go_wp2_with (go_at_call 41; refine (hit n hlt wr hBw).mono ?_)
   rintro e w2 ⟨rfl, hb2⟩
   have hs2 := hb2.size
   have hI2 := bld_below hI hb2
   have hB2 := hB.trans (hb2.mono (by omega))
   obtain ⟨sx, hsx⟩ : ∃ sx, sx = (⟨#[98, 108, 111, 99, 107, 32]⟩ : ByteArray) ++ numT (n : Int) ++ ⟨#[58]⟩ := ⟨_, rfl⟩
   have hsx' : str1 ++ numT (n : Int) ++ ⟨#[58]⟩ = sx := hsx.symm
   rw [hsx'] at htl
   have hnt := numT_size (n := (n : Int)) (by unfold in64; omega)
   have q1 : ¬ (9223372036854775807 < 6 + (numT (n : Int)).size) := by omega
   have q2 : ¬ (9223372036854775807 < 6 + (numT (n : Int)).size + 1) := by omega
   go_wp2_with (go_at_call 40; rw [← hsx]; refine (wr_string w1.heap.size w1.heap.size _ sx _ hI2 (by rw [Lib.byteCells_length]; omega) (by omega)).mono ?_)
   rintro e w3 ⟨rfl, hI3, hb3⟩
   have hs3 := hb3.size
   have hB3 := hB2.trans hb3
   rw [strC, ← Lib.byteCells_append] at hI3
   have hBw3 : Below w.heap.size w w3 := hB1.trans (hB3.mono (by omega))
   have k33 := cell_keep hB3 k3 hN
   go_wp2_with (go_at_call 42; refine (hix n w3 hBw3).mono ?_)
   rintro e w4 ⟨⟨r, rfl, hr⟩, hb4⟩
   have hs4 := hb4.size
   have hI4 := bld_below hI3 hb4
   have hB4 := hB3.trans (hb4.mono (by omega))
   have k42 := cell_keep hB4 k2 hN
   obtain ⟨sn, hsn⟩ : ∃ sn, sn = (⟨#[10]⟩ : ByteArray) := ⟨_, rfl⟩
   rw [← hsn] at htl
   rcases hr with ⟨rfl, hg⟩ | ⟨jj, rfl, hj, hg⟩
   case' inr =>
    have hgj := List.getElem?_eq_getElem hj
    have hgd2 : c.gl.getD jj ⟨#[]⟩ = c.gl[jj] := by rw [List.getD, hgj]; rfl
    rw [hgd2] at hg
    generalize c.gl[jj] = g at hgj hg
    obtain ⟨b2, o2, rfl, hd1⟩ := hm2 jj g hgj
    obtain ⟨hd2, hd3⟩ := hold hd1
    have hd4 := cell_keep hB4 hd2 hd3
    have hj0 : (0 : Int) ≤ (jj : Int) := by omega
    have hj1 : (jj : Int) < (c.gl.length : Int) := by omega
    obtain ⟨sg, hsg⟩ : ∃ sg, sg = (⟨#[32]⟩ : ByteArray) ++ g := ⟨_, rfl⟩
    have hsgz : sg.size = 1 + g.size := by rw [hsg, ByteArray.size_append]; rfl
    rw [← hsg] at hg
    rw [hg, bL_len] at htl
    have q3 : ¬ (9223372036854775807 < 1 + g.size) := by omega
    go_wp2_with (go_at_call 40; rw [← hsg]; refine (wr_string w1.heap.size w1.heap.size _ sg _ hI4 (by rw [Lib.byteCells_length, List.length_append, bL_len]; omega) (by omega)).mono ?_)
    rintro e w4a ⟨rfl, hI4a, hb4a⟩
    have hs4a := hb4a.size
    have hB4a := hB4.trans hb4a
    rw [strC, ← Lib.byteCells_append] at hI4a
    go_wp2_with (go_at_call 40; rw [← hsn]; refine (wr_string w1.heap.size w1.heap.size _ sn _ hI4a (by rw [Lib.byteCells_length, List.length_append, List.length_append, bL_len, bL_len]; omega) (by omega)).mono ?_)
    rintro e w5 ⟨rfl, hI5, hb5⟩
    have hs5 := hb5.size
    have hB5 := hB4a.trans hb5
    have hI5h : Lib.IsBuilder 104 5 w1.heap.size w1.heap.size (Lib.byteCells (textTo c n ++ headT c n)) w5 := by
     rw [headT, hg, hsx', ← hsn, ← List.append_assoc, ← List.append_assoc, Lib.byteCells_append _ (bL sn), ← strC sn]; exact hI5
    have htl2 : (textTo c n).length + ((headT c n).length + (bodyT l).length) ≤ (textTo c c.bl.length).length := by
     rw [headT, hg, hsx', ← hsn, List.length_append, List.length_append, bL_len, bL_len, bL_len]; omega
    have h5z : w1.heap.size < w5.heap.size := by omega
    clear hI4a hs4a hB4a hb4a hI4 hI5 hd4 hd3 hd2 hd1 hgj hgd2
   case' inl =>
    have hneg : ¬ ((0 : Int) ≤ -1) := by decide
    rw [hg, List.length_nil] at htl
    go_wp2_with (go_at_call 40; rw [← hsn]; refine (wr_string w1.heap.size w1.heap.size _ sn _ hI4 (by rw [Lib.byteCells_length, List.length_append, bL_len]; omega) (by omega)).mono ?_)
    rintro e w5 ⟨rfl, hI5, hb5⟩
    have hs5 := hb5.size
    have hB5 := hB4.trans hb5
    have hI5h : Lib.IsBuilder 104 5 w1.heap.size w1.heap.size (Lib.byteCells (textTo c n ++ headT c n)) w5 := by
     rw [headT, hg, hsx', ← hsn, List.append_nil, ← List.append_assoc, Lib.byteCells_append _ (bL sn), ← strC sn]; exact hI5
    have htl2 : (textTo c n).length + ((headT c n).length + (bodyT l).length) ≤ (textTo c c.bl.length).length := by
     rw [headT, hg, hsx', ← hsn, List.append_nil, List.length_append, bL_len, bL_len]; omega
    have h5z : w1.heap.size < w5.heap.size := by omega
    clear hI4 hI5
   all_goals
    clear htl
    go_wp2
    go_loopw [41] (fun i wr => ∃ j : Nat, j ≤ l.length ∧ i = .int .i64 (j : Nat) ∧ Below w1.heap.size w1 wr ∧ w1.heap.size < wr.heap.size ∧ Lib.IsBuilder 104 5 w1.heap.size w1.heap.size (Lib.byteCells (textTo c n ++ headT c n ++ bodyT (l.take j))) wr) (fun i _ => l.length - (match i with | .int _ z => z.toNat | _ => 0))
    case atStart => exact ⟨0, Nat.zero_le _, rfl, hB5, h5z, by rw [List.take_zero]; simpa [bodyT] using hI5h⟩
    case round =>
     obtain ⟨j, hjl, rfl, hBr, hszr, hIr⟩ := hrel
     by_cases hlt2 : j < l.length
     ·have hxj : l[j]? = some l[j] := List.getElem?_eq_getElem hlt2
      generalize l[j] = x at hxj
      obtain ⟨b', o', rfl, e1, e2, e3, e4⟩ := hm3 j x hxj
      have f1 := cell_keep hBr (hold e1).1 (hold e1).2
      have f2 := cell_keep hBr (hold e2).1 (hold e2).2
      have f3 := cell_keep hBr (hold e3).1 (hold e3).2
      have f4 := cell_keep hBr (hold e4).1 (hold e4).2
      have hz5 : (j : Int) < (l.length : Int) := by omega
      have hz6 : (0 : Int) ≤ (j : Int) := by omega
      have hsl := bodyT_snoc hxj
      have hle5 := bodyT_le l (j + 1)
      rw [hsl, List.length_append, bL_len] at hle5
      have hBwr : Below w.heap.size w wr := hB1.trans (hBr.mono (by omega))
      have hline := hln l hlm x (List.mem_of_getElem? hxj)
      generalize lineT x = lt at hline hle5 hsl
      go_wp2_with (go_at_call 43; refine (hline _ (hBwr.alloc (by have := hBwr.size; omega) _)).mono ?_)
      rintro e w6 ⟨rfl, hb6⟩
      have hs6 := hb6.size
      have hszA6 : wr.heap.size + 1 ≤ w6.heap.size := by rw [alloc_size] at hs6; omega
      have hI6 := bld_below (bld_below hIr ((Below.refl wr.heap.size wr).alloc (Nat.le_refl _) _)) hb6
      have hB6 : Below w1.heap.size w1 w6 := (hBr.alloc (by omega) _).trans (hb6.mono (by rw [alloc_size]; omega))
      clear hb6
      go_wp2_with (go_at_call 40; refine (wr_string w1.heap.size w1.heap.size _ lt _ hI6 (by rw [Lib.byteCells_length, List.length_append, List.length_append]; omega) (by omega)).mono ?_)
      rintro e w7 ⟨rfl, hI7, hb7⟩
      have hs7 := hb7.size
      have hB7 := hB6.trans hb7
      rw [strC, ← Lib.byteCells_append, List.append_assoc, ← hsl] at hI7
      go_wp2
      go_roundw
      case rel => exact ⟨j + 1, by omega, (by first | rfl | simp), hB7, by omega, hI7⟩
      case measure => simp; omega
     ·obtain rfl : j = l.length := by omega
      rw [List.take_length] at hIr
      have hIx : Lib.IsBuilder 104 5 w1.heap.size w1.heap.size (Lib.byteCells (textTo c (n + 1))) wr := by
       rw [textTo, hgd, ← List.append_assoc]; exact hIr
      go_wp2
      go_roundw
      case rel => exact ⟨n + 1, by omega, (by first | rfl | simp), hBr, hszr, hIx⟩
      case measure => simp; omega
  ·obtain rfl : n = c.bl.length := by omega
   rw [textL] at hlen
   go_wp2_with (go_at_call 44; refine (Tryz.Builder_String_any w1.heap.size w1.heap.size _ _ hI (by omega)).mono ?_; rintro e w8 ⟨rfl, hb8⟩)
   go_wp2
   go_ret
   exact ⟨rfl, hB1.trans ((hB.mono (by omega)).trans (hb8.mono (by omega)))⟩
end Go.Proofs.Eng
namespace Go.Proofs.Eng
open Go Go.Proofs Go.RowKit
set_option maxRecDepth 100000
theorem pure_callsB {P : Program} {md : FuncId → Md} {pfs : FuncId → Option PF} (hS : Sound P (run md pfs)) {f : FuncId} {args : List AV} {PR : AV → Prop} (h : Out md pfs f args PR fun _ => False) (ha : pureAVs args = true) {g : Gh} {s : ASt} {w : World} {vs : List Value} (hI : Inv g s w) (hr : RepL g s w args vs) :
  Calls P f vs.toArray w fun e w' => ∃ v u, PR v ∧ e = .returned u ∧ Below w.heap.size w w' ∧ Rep g s w' v u := by
 obtain ⟨out, s1, out', h1, h2, h3⟩ := h
 have hInv0 : Inv (Gh.empty fun b o => g.wr s b o) ⟨[], []⟩ w := Inv.empty hI.known fun b o h => hI.wr_lt h
 have hle : FzLe s s := FzLe.refl s
 have hok : ∀ b o, ¬ g.wr s b o → ¬ (Gh.empty fun b o => g.wr s b o).wr ⟨[], []⟩ b o := by
  rintro b o hn (⟨i, l, h1, _⟩ | ⟨id, q, h1, _⟩ | h1)
  ·simp [Gh.empty] at h1
  ·simp [Gh.empty] at h1
  ·exact hn h1
 have hfz : ∀ i b o, g.mu i = some b → Frozen s i → ¬ (Gh.empty fun b o => g.wr s b o).wr ⟨[], []⟩ b o := by
  rintro i b o hb hf (⟨i, l, h1, _⟩ | ⟨id, q, h1, _⟩ | h1)
  ·simp [Gh.empty] at h1
  ·simp [Gh.empty] at h1
  ·exact frozen_ok hle hI i b o hb hf h1
 have hfold : args.foldl (frz 20) s = s := frz_all s ha
 have hr0 := list_rep (ok := Frozen s) (frz_le 20) (purify_rep hI hok (Frozen s) hfz 20 fun h => absurd h (by decide)) (purify_all s ha) hr (FzLe.refl s) (fun i hi => by rw [hfold] at hi; exact hi)
 obtain ⟨_, hcalls⟩ := hS f args _ out s1 h1
 refine (hcalls _ w vs hInv0 hr0).mono ?_
 rintro e w' ⟨g1, hI1, hE1, hO1⟩
 have hblk : ∀ b, b < w.heap.size → w'.heap[b]? = w.heap[b]? := fun b hb => (hE1.obj b hb (by rintro (⟨i, h1⟩ | ⟨id, q, h1, _⟩) <;> simp [Gh.empty] at h1)).1
 have hbel : Below w.heap.size w w' := ⟨hE1.os, hE1.tape, hE1.output.1, hE1.size, hblk⟩
 have hok1 : ∀ b o, ¬ g1.wr s1 b o → ¬ g.wr s b o := fun b o hn hw => hn (.inr (.inr (by rw [hE1.fb]; exact hw)))
 have hfz1 : ∀ i b o, g1.mu i = some b → True → ¬ g.wr s b o := fun i b o hb _ hw => hI1.fbmu i b o hb (by rw [hE1.fb]; exact hw)
 have pr : ∀ v v' u, purify 1020 s1 v = some v' → Rep g1 s1 w' v u → Rep g s w' v' u := fun v v' u hp hr => purify_rep hI1 hok1 (fun _ => True) hfz1 1020 (fun _ id q o h hw => hI1.fbow id q o h (by rw [hE1.fb]; exact hw)) v v' u s1 hp hr (FzLe.refl _) fun _ _ => trivial
 cases out with
 | ret v =>
  obtain ⟨v', hv', rfl⟩ := optMap h2
  cases e with
  | returned u => exact ⟨v', u, h3, rfl, hbel, pr v v' u hv' hO1⟩
  | panicked _ => exact hO1.elim
  | outgrown => exact hO1.elim
 | pan v =>
  obtain ⟨v', hv', rfl⟩ := optMap h2
  exact h3.elim
end Go.Proofs.Eng
namespace Go.Proofs.Eng
open Go Go.Proofs Go.RowKit
set_option maxRecDepth 100000
def awCd : Cd := ⟨[[⟨1, 1, 0, ⟨#[]⟩⟩, ⟨8, 0, 0, ⟨#[]⟩⟩, ⟨2, 0, 0, ⟨#[]⟩⟩, ⟨3, 0, 0, ⟨#[]⟩⟩], [⟨0, 0, 0, ⟨#[]⟩⟩, ⟨3, 0, 0, ⟨#[]⟩⟩]], [], []⟩
def awBs : List AV := awCd.bl.map fun l => .sl (insA l) .al
def awA : AV := .agg [.sl awBs .al, .sl (nmA awCd.gl) .nil, .sl (ints awCd.st) .nil]
def textO : List AV → ASt → Option (AV × ASt)
 | [a], s => if eqAV a awA = true then some (.str ⟨(textL awCd).toArray⟩, s) else none
 | _, _ => none
theorem flat_one : ∀ {l : List AV}, (∀ x ∈ l, x.cells = [x]) → flat l = l
 | [], _ => rfl
 | x :: l, h => by
  rw [flat_cons, h x (by simp), flat_one fun y hy => h y (by simp [hy])]; rfl
theorem flat_ins (l : List Ins) : ∀ {j : Nat} {x : Ins}, l[j]? = some x → (flat (insA l))[j * 4]? = some (.int x.op) ∧ (flat (insA l))[j * 4 + 1]? = some (.int x.a) ∧ (flat (insA l))[j * 4 + 2]? = some (.int x.b) ∧ (flat (insA l))[j * 4 + 3]? = some (.str x.n) := by
 induction l with
 | nil => intro j x h; simp at h
 | cons y l ih =>
  intro j x h
  rw [insA, List.map_cons, flat_cons]
  have e : (Ins.av y).cells = [.int y.op, .int y.a, .int y.b, .str y.n] := rfl
  rw [e]
  cases j with
  | zero => simp only [List.getElem?_cons_zero, Option.some.injEq] at h; subst h; simp
  | succ j =>
   simp only [List.getElem?_cons_succ] at h
   obtain ⟨a, b, c, d⟩ := ih h
   rw [insA] at a b c d
   have k : ∀ i, (j + 1) * 4 + i = j * 4 + i + 4 := fun i => by omega
   refine ⟨?_, ?_, ?_, ?_⟩
   ·rw [show (j + 1) * 4 = j * 4 + 4 from by omega]; simpa using a
   ·rw [k]; simpa using b
   ·rw [k]; simpa using c
   ·rw [k]; simpa using d
end Go.Proofs.Eng
namespace Go.Proofs.Eng
open Go Go.Proofs Go.RowKit
set_option maxRecDepth 100000
theorem below_rep {g : Gh} {s : ASt} {w w1 : World} {l : List AV} {vs : List Value} (hI : Inv g s w) (hr : RepL g s w l vs) (hb : Below w.heap.size w w1) : Inv g s w1 ∧ RepL g s w1 l vs := by
 have hE : Ext g s w g s w1 := Ext.same hb.size hb.block hb.os hb.tape ⟨hb.output, fun d => d.elim⟩
 exact ⟨hI.keep hE fun b h => hb.block b (hI.has_lt h), hr.mono hE⟩
def isInt0 : Option (Outc × ASt) → Bool
 | some (.ret (.v (.int .i64 0)), _) => true
 | _ => false
theorem aw_check : Out md pfs 10 [awA] (· = .int 0) fun _ => False := by
 have h : isInt0 (callN md pfs 100 10 [awA] ⟨[], []⟩) = true := by kernel_rfl
 cases hc : callN md pfs 100 10 [awA] ⟨[], []⟩ with
 | none => rw [hc] at h; cases h
 | some r =>
  obtain ⟨o, s⟩ := r
  rw [hc] at h
  unfold isInt0 at h
  split at h
  ·rename_i s' e
   simp only [Option.some.injEq, Prod.mk.injEq] at e
   obtain ⟨rfl, rfl⟩ := e
   exact ⟨_, _, .ret (.int 0), run_of hc, rfl, rfl⟩
  ·cases h
theorem text_ok : OraOK Tryz.prog 19 textO := by
 intro args s v s' hv
 refine ⟨⟨_, _, Tryz.func19, rfl, by kernel_rfl⟩, fun g w vs hI hr => ?_⟩
 unfold textO at hv
 split at hv
 ·rename_i a s0
  split at hv
  ·rename_i hc
   simp only [Option.some.injEq, Prod.mk.injEq] at hv
   obtain ⟨rfl, rfl⟩ := hv
   obtain rfl := eqAV_eq hc
   have h0 : awCd.check = 0 := by kernel_rfl
   have k1 : awCd.bl.length ≤ 900000 := of_decide_eq_true (by kernel_rfl)
   have k3 : ∀ l ∈ awCd.bl, l.length ≤ 1000000 := fun l hl => by
    have : (awCd.bl.all fun l => decide (l.length ≤ 1000000)) = true := by kernel_rfl
    simpa using List.all_eq_true.1 this l hl
   have k5 : awCd.gl.length ≤ 1000000 := of_decide_eq_true (by kernel_rfl)
   have k6 : awCd.st.length ≤ 1000000 := of_decide_eq_true (by kernel_rfl)
   have k7 : (textL awCd).length ≤ 1000000000000 := of_decide_eq_true (by kernel_rfl)
   have hin : ∀ l ∈ awCd.bl, ∀ x ∈ l, (0 ≤ x.op ∧ x.op ≤ 14) ∧ in64 x.a ∧ in64 x.b ∧ x.n.size ≤ 1000000 := fun l hl x hx => by
    have : (awCd.bl.all fun l => l.all fun x => decide ((0 ≤ x.op ∧ x.op ≤ 14) ∧ (-9223372036854775808 ≤ x.a ∧ x.a ≤ 9223372036854775807) ∧ (-9223372036854775808 ≤ x.b ∧ x.b ≤ 9223372036854775807) ∧ x.n.size ≤ 1000000)) = true := by kernel_rfl
    have := List.all_eq_true.1 (List.all_eq_true.1 this l hl) x hx
    simpa [in64] using this
   have hBs : LIs (fun b x => ∃ t, x = .sl (insA b) t ∧ t.pure = true) awCd.bl awBs := ⟨⟨_, rfl, rfl⟩, ⟨_, rfl, rfl⟩, trivial⟩
   have hpur : pureAV awA = true := by kernel_rfl
   unfold awA at hr
   generalize hcd : awCd = c at *
   generalize hbd : awBs = Bs at *
   have hlen := hBs.len
   have hlb : lenB = 9223372036854775807 := rfl
   have hS := run_sound (md := md) hm pfsOK
   obtain ⟨u, us, rfl, hu, hnil⟩ := hr.cons_inv
   obtain rfl : us = [] := List.length_eq_zero_iff.1 hnil.1.symm
   obtain ⟨cs, rfl, hcs⟩ := hu.agg_inv
   obtain ⟨v1, cs, rfl, hv1, hcs⟩ := hcs.cons_inv
   obtain ⟨v2, cs, rfl, hv2, hcs⟩ := hcs.cons_inv
   obtain ⟨v3, cs, rfl, hv3, hcs⟩ := hcs.cons_inv
   obtain rfl : cs = [] := List.length_eq_zero_iff.1 hcs.1.symm
   have hone : v1.oneCell' = true ∧ v2.oneCell' = true ∧ v3.oneCell' = true := by
    obtain ⟨_, _, _, _, _, rfl, _⟩ := hv1.sl_inv
    obtain ⟨_, _, _, _, _, rfl, _⟩ := hv2.sl_inv
    obtain ⟨_, _, _, _, _, rfl, _⟩ := hv3.sl_inv
    exact ⟨rfl, rfl, rfl⟩
   have hchk : ∀ w1, Below w.heap.size w w1 → Calls Tryz.prog 10 #[.agg #[v1, v2, v3]] w1 fun e w2 => e = .returned (.int .i64 c.check) ∧ Below w1.heap.size w1 w2 := fun w1 hb => by
    obtain ⟨hI1, hr1⟩ := below_rep hI hr hb
    have hA : (AV.agg [.sl Bs .al, .sl (nmA c.gl) .nil, .sl (ints c.st) .nil]) = awA := by subst hcd; subst hbd; rfl
    rw [hA] at hr1
    refine (pure_callsB hS aw_check (by simp [pvs_cons, pvs_nil, hpur]) hI1 hr1).mono ?_
    rintro e w2 ⟨_, u, rfl, rfl, hbl, hR⟩
    rw [hR.v_inv, h0]
    exact ⟨rfl, hbl⟩
   have fin : ∀ {z : ByteArray}, Calls Tryz.prog 19 #[.agg #[v1, v2, v3]] w (fun e w' => e = .returned (.string z) ∧ Below w.heap.size w w') → Calls Tryz.prog 19 #[.agg #[v1, v2, v3]] w fun e w' => ∃ g', Inv g' s w' ∧ Ext g s w g' s w' ∧ OutRep g' s w' (.ret (.str z)) e := fun h => h.mono fun e w' ⟨he, hbl⟩ => by
    subst he
    have hE : Ext g s w g s w' := Ext.same hbl.size hbl.block hbl.os hbl.tape ⟨hbl.output, fun d => d.elim⟩
    exact ⟨g, hI.keep hE fun b h => hbl.block b (hI.has_lt h), hE, .v rfl⟩
   ·have hstl : c.st.length = c.gl.length := by subst hcd; rfl
    have hH : TxH c w v1 v2 v3 := by
     refine ⟨hone, hchk, ?_, ?_, ?_, ?_, ?_⟩
     ·obtain ⟨x, cap, b, o, cs, rfl, r1, r2, r3, r4, _⟩ := hv1.sl_inv
      have hfl : flat Bs = Bs := flat_one fun y hy => by
       obtain ⟨q, hq⟩ := List.mem_iff_getElem?.1 hy
       obtain ⟨_, a, _, _, _, e4, ⟨t, rfl, _⟩⟩ := hBs.at (i := q) (List.getElem?_eq_some_iff.1 hq).1
       rw [hq] at e4; cases e4; rfl
      rw [hfl] at r1
      refine ⟨x, cap, by rw [hlen], by omega, fun n l hl => ?_⟩
      have hnl : n < Bs.length := by rw [hlen]; exact (List.getElem?_eq_some_iff.1 hl).1
      have hx := r3 (by intro e; rw [e] at hnl; simp at hnl)
      obtain ⟨l', a, d0, _, _, d4, ⟨t, rfl, _⟩⟩ := hBs.at (i := n) hnl
      rw [hl] at d0; cases d0
      have hnc : n < cs.length := by rw [← r1.1]; exact hnl
      have hR := r1.2 n _ _ d4 (List.getElem?_eq_getElem hnc)
      have hcell := (r2 n _ (List.getElem?_eq_getElem hnc)).1
      obtain ⟨x', cap', b', o', cs', e', y1, y2, y3, y4, _⟩ := hR.sl_inv
      rw [e', insA_len] at hcell
      refine ⟨b, o, hx, x', cap', hcell, by rw [← insA_len]; exact y4, fun j x0 hj => ?_⟩
      obtain ⟨f1, f2, f3, f4⟩ := flat_ins l hj
      have hne : insA l ≠ [] := by
       intro e
       have h9 : (insA l).length = 0 := by rw [e]; rfl
       rw [insA_len] at h9
       have := (List.getElem?_eq_some_iff.1 hj).1
       omega
      have look : ∀ {i : Nat} {av : AV}, (flat (insA l))[i]? = some av → ∃ cv, w.cell? ⟨b', o' + i, none⟩ = some cv ∧ Rep g _ w av cv := fun {i av} hi => by
       have hlt : i < cs'.length := by rw [← y1.1]; exact (List.getElem?_eq_some_iff.1 hi).1
       exact ⟨cs'[i], (y2 i _ (List.getElem?_eq_getElem hlt)).1, y1.2 i _ _ hi (List.getElem?_eq_getElem hlt)⟩
      obtain ⟨_, z1, w1⟩ := look f1
      obtain ⟨_, z2, w2⟩ := look f2
      obtain ⟨_, z3, w3⟩ := look f3
      obtain ⟨_, z4, w4⟩ := look f4
      rw [w1.v_inv] at z1
      rw [w2.v_inv, ← Nat.add_assoc] at z2
      rw [w3.v_inv, ← Nat.add_assoc] at z3
      rw [w4.v_inv, ← Nat.add_assoc] at z4
      exact ⟨b', o', y3 hne, z1, z2, z3, z4⟩
     ·obtain ⟨x, cap, b, o, cs, rfl, r1, r2, r3, r4, _⟩ := hv2.sl_inv
      have hfl : flat (nmA c.gl) = nmA c.gl := flat_one fun y hy => by
       obtain ⟨q, _, rfl⟩ := List.mem_map.1 hy; rfl
      rw [hfl] at r1
      refine ⟨x, cap, by rw [nmA_len], by rw [← nmA_len]; exact r4, fun n l hl => ?_⟩
      have hnl : n < c.gl.length := (List.getElem?_eq_some_iff.1 hl).1
      have hx := r3 (by intro e; have := congrArg List.length e; rw [nmA_len] at this; simp at this; rw [this] at hnl; simp at hnl)
      have hnc : n < cs.length := by rw [← r1.1, nmA_len]; exact hnl
      have hav : (nmA c.gl)[n]? = some (.str l) := by rw [nmA, List.getElem?_map, hl]; rfl
      have hR := r1.2 n _ _ hav (List.getElem?_eq_getElem hnc)
      have hcell := (r2 n _ (List.getElem?_eq_getElem hnc)).1
      rw [hR.v_inv] at hcell
      exact ⟨b, o, hx, hcell⟩
     ·intro n hn w1 hb
      obtain ⟨hI1, _⟩ := below_rep hI hr hb
      refine (pure_callsB hS (itoa_ret (n := (n : Int)) (by unfold in64; omega)) (by simp [pvs_cons, pvs_nil, pv_v]) hI1 (vs := [.int .i64 n]) (.one (.v rfl))).mono ?_
      rintro e w2 ⟨_, u, rfl, rfl, hbl, hR⟩
      rw [hR.v_inv]
      exact ⟨rfl, hbl⟩
     ·intro n w1 hb
      obtain ⟨hI1, _⟩ := below_rep hI hr hb
      have hr3 := (below_rep hI (RepL.one hv3) hb).2
      refine (pure_callsB hS (ind24_ret (l := c.st) (t := .nil) (n : Int) (by omega)) (by simp [pvs_cons, pvs_nil, pv_sl, pv_v, show Tl.pure .nil = true from rfl, ints_pure]) hI1 (vs := [v3, .int .i64 n]) (.cons (hr3.2 0 _ _ rfl rfl) (.one (.v rfl)))).mono ?_
      rintro e w2 ⟨_, u, ⟨r, rfl, hrr⟩, rfl, hbl, hR⟩
      rw [hR.v_inv]
      refine ⟨⟨r, rfl, ?_⟩, hbl⟩
      rcases gn_of hrr with h | ⟨j, h1, h2, h3⟩
      ·exact .inl h
      ·exact .inr ⟨j, h1, by omega, h3⟩
     ·intro l hl x hx w1 hb
      obtain ⟨hI1, _⟩ := below_rep hI hr hb
      obtain ⟨hop, h1, h2, h3⟩ := hin l hl x hx
      refine (pure_callsB hS (line_ret x hop.1 hop.2 h1 h2 h3) (by simp [pvs_cons, pvs_nil, Ins.av, pv_agg, pv_v]) hI1 (vs := [.agg #[.int .i64 x.op, .int .i64 x.a, .int .i64 x.b, .string x.n]]) (.one (rep_pairs (.cons (.v rfl) (.cons (.v rfl) (.cons (.v rfl) (.one (.v rfl)))))))).mono ?_
      rintro e w2 ⟨_, u, rfl, rfl, hbl, hR⟩
      rw [hR.v_inv]
      exact ⟨rfl, hbl⟩
    exact fin (text_walk hH h0 (by omega) k3 k7)
  ·cases hv
 ·cases hv
end Go.Proofs.Eng
namespace Go.Proofs.Eng
open Go Go.Proofs Go.RowKit
set_option maxRecDepth 100000
theorem unwindA_ext {call : Oracle} {md : FuncId → Md} {p1 p2 : FuncId → Option PF} (hp : ∀ f pf, p1 f = some pf → p2 f = some pf) : ∀ (ds : List (FuncId × List AV)) (p : Option AV) (s : ASt) r, unwindA call md p1 ds p s = some r → unwindA call md p2 ds p s = some r
 | [], p, s, r, h => h
 | (f, args) :: ds, p, s, r, h => by
  simp only [unwindA] at h ⊢
  cases hf : p1 f with
  | none => rw [hf] at h; cases h
  | some pf =>
   rw [hf] at h
   rw [hp f pf hf]
   simp only at h ⊢
   split at h
   ·cases h
   ·rename_i hq
    rw [if_neg hq]
    split at h
    ·rename_i rc st hx
     split at h
     ·rename_i hc
      rw [if_pos hc]; exact unwindA_ext hp ds _ _ r h
     ·cases h
    ·rename_i rc st hx
     split at h
     ·rename_i hc
      rw [if_pos hc]; exact unwindA_ext hp ds _ _ r h
     ·cases h
    ·cases h
theorem leaveA_ext {call : Oracle} {md : FuncId → Md} {p1 p2 : FuncId → Option PF} (hp : ∀ f pf, p1 f = some pf → p2 f = some pf) {res : List PR} {st : St} {p : Option AV} {r : Outc × ASt} (h : leaveA call md p1 res st p = some r) : leaveA call md p2 res st p = some r := by
 have go : ∀ df, (match unwindA call md p1 df p st.s with
  | some (none, s) => (resA st.tm s res).map fun l => (Outc.ret (oneA l), s)
  | some (some v, s) => some (Outc.pan v, s)
  | none => none) = some r → (match unwindA call md p2 df p st.s with
  | some (none, s) => (resA st.tm s res).map fun l => (Outc.ret (oneA l), s)
  | some (some v, s) => some (Outc.pan v, s)
  | none => none) = some r := fun df h => by
  cases hu : unwindA call md p1 df p st.s with
  | none => rw [hu] at h; cases h
  | some x => rw [hu] at h; rw [unwindA_ext hp _ _ _ _ hu]; exact h
 unfold leaveA at h ⊢
 cases hd : st.df with
 | nil =>
  rw [hd] at h
  cases p <;> exact h
 | cons d ds =>
  rw [hd] at h
  exact go _ h
theorem bodyA_ext {call : Oracle} {md : FuncId → Md} {p1 p2 : FuncId → Option PF} (hp : ∀ f pf, p1 f = some pf → p2 f = some pf) {F : Nat} {pf : PF} {args : List AV} {s : ASt} {r : Outc × ASt} (h : bodyA call md p1 F pf args s = some r) : bodyA call md p2 F pf args s = some r := by
 unfold bodyA at h ⊢
 split at h
 ·split at h
  ·cases h
  ·rename_i hq; rw [if_neg hq]; exact leaveA_ext hp h
 ·split at h
  ·cases h
  ·rename_i hq; rw [if_neg hq]; exact leaveA_ext hp h
 ·split at h
  ·cases h
  ·rename_i hq; rw [if_neg hq]; exact leaveA_ext hp h
 ·cases h
theorem callN_ext {md : FuncId → Md} {p1 p2 : FuncId → Option PF} (hp : ∀ f pf, p1 f = some pf → p2 f = some pf) : ∀ (F : Nat) f args s r, callN md p1 F f args s = some r → callN md p2 F f args s = some r
 | 0, f, args, s, r, e => by simp [callN] at e
 | F + 1, f, args, s, r, e => by
  simp only [callN] at e ⊢
  cases hf : p1 f with
  | none => rw [hf] at e; simp at e
  | some pf =>
   rw [hf] at e
   rw [hp f pf hf]
   simp only at e ⊢
   cases ho : pf.body.ora? with
   | some o => rw [ho] at e; exact e
   | none =>
    rw [ho] at e
    exact bodyA_ext hp (bodyA_mono (fun f args s r e => callN_ext hp F f args s r e) (Nat.le_refl _) e)
theorem run_ext {md : FuncId → Md} {p1 p2 : FuncId → Option PF} (hp : ∀ f pf, p1 f = some pf → p2 f = some pf) {f : FuncId} {args : List AV} {s : ASt} {r : Outc × ASt} (h : run md p1 f args s = some r) : run md p2 f args s = some r := by
 obtain ⟨F, hF⟩ := (run_cont p1 f args s).fin _ h
 exact run_of (callN_ext hp F f args s r hF)
theorem Out.ext {md : FuncId → Md} {p1 p2 : FuncId → Option PF} (hp : ∀ f pf, p1 f = some pf → p2 f = some pf) {f : FuncId} {args : List AV} {PR PP : AV → Prop} (h : Out md p1 f args PR PP) : Out md p2 f args PR PP := by
 obtain ⟨out, s, out', h1, h2, h3⟩ := h
 exact ⟨out, s, out', run_ext hp h1, h2, h3⟩
noncomputable def pfs2 (f : Nat) : Option PF := if f = 19 then some ⟨0, [], .ora textO⟩ else pfs f
theorem pfs_le : ∀ f pf, pfs f = some pf → pfs2 f = some pf := fun f pf h => by
 unfold pfs2
 split
 ·rename_i hf; subst hf; simp [pfs] at h
 ·exact h
theorem pfsOK2 : PfsOK Tryz.prog pfs2 := fun f pf h => by
 unfold pfs2 at h
 split at h
 ·rename_i hf
  subst hf
  simp only [Option.some.injEq] at h; subst h
  exact .inr (.inl ⟨_, rfl, text_ok⟩)
 ·exact pfsOK f pf h
end Go.Proofs.Eng
namespace Go.Proofs.Eng
open Go Go.Proofs Go.RowKit
set_option maxRecDepth 100000
def isTrueA : Option (Outc × ASt) → Bool
 | some (.ret (.v (.bool true)), _) => true
 | _ => false
theorem awake_try : isTrueA (callN md pfs2 100 6 [] ⟨[], []⟩) = true := by kernel_rfl
theorem awake_ret : Out md pfs2 6 [] (· = .bool true) fun _ => False := by
 have h := awake_try
 cases hc : callN md pfs2 100 6 [] ⟨[], []⟩ with
 | none => rw [hc] at h; cases h
 | some r =>
  obtain ⟨o, s⟩ := r
  rw [hc] at h
  unfold isTrueA at h
  split at h
  ·rename_i s' e
   simp only [Option.some.injEq, Prod.mk.injEq] at e
   obtain ⟨rfl, rfl⟩ := e
   exact ⟨_, _, .ret (.bool true), run_of hc, rfl, rfl⟩
  ·cases h
end Go.Proofs.Eng
