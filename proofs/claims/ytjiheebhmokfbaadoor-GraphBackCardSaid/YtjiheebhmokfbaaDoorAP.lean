/- The count of a number's digits, and the digits, as told results. No conditions beyond those in the theorems. -/
import Derived.Test.YtjiheebhmokfbaaDoorWX
import Derived.Lib.AppendIntMem
import Derived.Lib.ItoaLen
import Derived.Lib.ItoaMem
import Derived.Test.YtjiheebhmokfbaaDoorRows
set_option linter.all false
set_option linter.deprecated false
set_option linter.unnecessarySimpa false
set_option linter.unusedVariables false
set_option linter.unusedSimpArgs false
set_option linter.defProp false
namespace Go.Proofs.Eng
open Go Go.Proofs Go.Shelf Go.RowKit Go.Sort
set_option maxRecDepth 100000
def digF : Nat → Nat → List UInt8
 | 0, _ => []
 | f + 1, u => if u < 10 then [UInt8.ofNat (48 + u)] else digF f (u / 10) ++ [UInt8.ofNat (48 + u % 10)]
def numF (n : Int) : List UInt8 := if n < 0 then 45 :: digF 20 n.natAbs else digF 20 n.toNat
theorem digF_eq : ∀ (f u : Nat), u < 10 ^ (f + 1) → digF (f + 1) u = Lib.decDigits u
 | 0, u, h => by
  have : u < 10 := by simpa using h
  rw [Lib.decDigits, dif_pos this]; simp [digF, this]
 | f + 1, u, h => by
  rw [Lib.decDigits, digF]
  by_cases hu : u < 10
  ·rw [if_pos hu, dif_pos hu]
  ·rw [if_neg hu, dif_neg hu, digF_eq f (u / 10) (by rw [Nat.pow_succ] at h; omega)]
theorem dig20 {u : Nat} (h : u < 18446744073709551616) : digF 20 u = Lib.decDigits u := digF_eq 19 u (by omega)
theorem dig20_len {u : Nat} (h : u < 18446744073709551616) : (digF 20 u).length = Lib.nDigits u ∧ Lib.nDigits u ≤ 20 := by rw [dig20 h, Lib.decDigits_length]; exact ⟨rfl, Lib.nDigits_le20 u h⟩
def tabN : String := YtjiheebhmokfbaaDoor.Rows.graphChecksRow.named.headD ""
theorem tab_of {g : Gh} {s : ASt} {w : World} (h : Inv g s w) : Lib.TabIs Tryd.prog w tabN .u64 Lib.pow10Tab := by
 obtain ⟨h1, _, t, z, h3⟩ := h.kn 0 rfl
 have e : Tryd.prog.globalNamed tabN = some 0 := by kernel_rfl
 unfold Lib.TabIs World.var?
 rw [e]
 simp only [Option.bind_some]
 rw [h3]
def numO : List AV → ASt → Option (AV × ASt)
 | [.v (.int .u64 n)], s => if 1 ≤ n ∧ n < 18446744073709551616 then some (.int ((digF 20 n.toNat).length : Nat), s) else none
 | _, _ => none
theorem num_ok : OraOK Tryd.prog 103 numO := by
 intro args s v s' hv
 refine ⟨⟨_, _, Tryd.func103, rfl, by kernel_rfl⟩, fun g w vs hI hr => ?_⟩
 unfold numO at hv
 split at hv
 ·rename_i n
  split at hv
  ·rename_i hn
   simp only [Option.some.injEq, Prod.mk.injEq] at hv
   obtain ⟨rfl, rfl⟩ := hv
   obtain ⟨u, us, rfl, hu, hnil⟩ := hr.cons_inv
   obtain rfl : us = [] := List.length_eq_zero_iff.1 hnil.1.symm
   rw [hu.v_inv]
   obtain ⟨m, rfl⟩ : ∃ m : Nat, n = m := ⟨n.toNat, by omega⟩
   have h1 := Any.internal_strconv_numDigits Tryd.laysM284 m (by omega) (by omega) w (tab_of hI)
   refine Calls.mono h1 fun e w' ⟨he, hw⟩ => ?_
   subst he hw
   refine ⟨g, hI, .refl _ _ _, ?_⟩
   rw [Int.toNat_natCast, (dig20_len (by omega)).1]
   exact .v rfl
  ·cases hv
 ·cases hv
def isZ : AV → Bool
 | .v (.int .u8 n) => n == 0
 | _ => false
theorem isZ_eq {a : AV} (h : isZ a = true) : a = .v (.int .u8 0) := by
 unfold isZ at h
 split at h
 ·have := of_decide_eq_true h; subst this; rfl
 ·cases h
def byteA (b : UInt8) : AV := .v (.int .u8 b.toNat)
def bytes (l : List UInt8) : List AV := l.map byteA
def fmtO : List AV → ASt → Option (AV × ASt)
 | [.bs i o m es _, .v (.int .u64 n)], s =>
  match s.H[i]? with
  | some (.cells fz c) => if (o = 0 ∧ es = 1 ∧ fz = false) ∧ (1 ≤ n ∧ n < 18446744073709551616) ∧ m = (digF 20 n.toNat).length ∧ m ≤ c.length ∧ c.all isZ = true then some (.undef, { s with H := s.H.set i (.cells false (bytes (digF 20 n.toNat) ++ c.drop m)) }) else none
  | _ => none
 | _, _ => none
theorem fmt_ok [DrK] : OraOK Tryd.prog 104 fmtO := by
 intro args s v s' hv
 refine ⟨⟨_, _, Tryd.func104, rfl, by kernel_rfl⟩, fun g w vs hI hr => ?_⟩
 unfold fmtO at hv
 split at hv
 case h_2 => cases hv
 rename_i i o m es ag n
 split at hv
 case h_2 => cases hv
 rename_i fz c hH
 split at hv
 case isFalse => cases hv
 rename_i hc
 obtain ⟨⟨rfl, rfl, rfl⟩, ⟨hn1, hn2⟩, hm, hmc, hz⟩ := hc
 simp only [Option.some.injEq, Prod.mk.injEq] at hv
 obtain ⟨rfl, rfl⟩ := hv
 obtain ⟨u, us, rfl, hu, hr1⟩ := hr.cons_inv
 obtain ⟨u1, us, rfl, hu1, hnil⟩ := hr1.cons_inv
 obtain rfl : us = [] := List.length_eq_zero_iff.1 hnil.1.symm
 obtain ⟨b, cap, hb, rfl, hcap⟩ := hu.bs_inv
 rw [hu1.v_inv]
 obtain ⟨k, rfl⟩ : ∃ k : Nat, n = k := ⟨n.toNat, by omega⟩
 rw [Int.toNat_natCast] at hm ⊢
 obtain ⟨hl, h20⟩ := dig20_len (u := k) (by omega)
 rw [hl] at hm
 obtain ⟨cs, el, ⟨rest, hc1⟩, hc2⟩ := hI.obj i b _ hb hH
 have hcl := hc2.1
 have hzero : ∀ j, j < cs.length → cs[j]? = some (.int .u8 0) := fun j hj => by
  have h1 : c[j]? = some c[j] := List.getElem?_eq_getElem (by omega)
  have h2 := isZ_eq (List.all_eq_true.1 hz c[j] (List.getElem_mem (by omega)))
  have h3 := hc2.2 j _ cs[j] h1 (List.getElem?_eq_getElem hj)
  rw [h2] at h3
  rw [List.getElem?_eq_getElem hj, h3.v_inv]
 have hH0 : Holds (fun (b : UInt8) => Value.int .u8 (b.toNat : Int)) w b 0 (Array.replicate m (0 : UInt8)) := fun j hj => by
  rw [Array.size_replicate] at hj
  refine ⟨?_, by simp [World.frozen?, hc1]⟩
  have h1 := hzero j (by omega)
  simp only [World.cell?, hc1, Nat.zero_add]
  rw [getElem!_pos _ j (by simpa using hj)]
  simp only [List.getElem?_toArray, Array.getElem_replicate, Option.isSome_none, Bool.false_eq_true, if_false]
  rw [List.getElem?_append_left (by omega), h1]; rfl
 have hfmt := Any.internal_strconv_formatBase10 Tryd.lays285 b 0 cap k (Array.replicate m 0) w hH0 (by rw [Array.size_replicate, hm]; exact Lib.lt_pow_nDigits k) (by omega) (by rw [Array.size_replicate]; omega)
 rw [Array.size_replicate] at hfmt
 refine Calls.mono hfmt fun e w' ⟨he, dr, v', dk, hw, hF⟩ => ?_
 subst he
 have hdk : dk.size = m := hF.size
 generalize hD : Lib.decDigits k = D at *
 have hDl : D.length = m := by rw [← hD, Lib.decDigits_length, hm]
 have hrow : ∀ j (hj : j < D.length), D[j] = dk[j]! := fun j hj => by
  subst hD
  rw [hm] at hF
  exact Lib.row_is_numeral hF j hj
 have hML : (D.map fun b => Value.int .u8 (b.toNat : Int)).length = m := by rw [List.length_map, hDl]
 have hDr : (cs.drop m).length = cs.length - m := List.length_drop
 have hcell : putCells (fun (b : UInt8) => Value.int .u8 (b.toNat : Int)) 0 dk (cs ++ rest).toArray = ((D.map fun b => Value.int .u8 (b.toNat : Int)) ++ cs.drop m ++ rest).toArray := by
  apply Array.ext_getElem?
  intro j
  simp only [putCells, Array.getElem?_mapIdx, List.getElem?_toArray, Nat.zero_le, true_and, Nat.zero_add, Nat.sub_zero, hdk]
  rcases Nat.lt_or_ge j m with h | h
  ·simp only [h, if_true]
   rw [List.append_assoc, List.getElem?_append_left (by omega : j < cs.length), List.getElem?_append_left (hn := by rw [hML]; exact h), hzero j (by omega)]
   simp only [Option.map_some, List.getElem?_map, List.getElem?_eq_getElem (show j < D.length by omega), hrow j (by omega)]
  ·simp only [Nat.not_lt.2 h, if_false]
   rw [Option.map_id', List.append_assoc]
   have e2 : ∀ z : List Value, ((D.map fun b => Value.int .u8 (b.toNat : Int)) ++ z)[j]? = z[j - m]? := fun z => by rw [List.getElem?_append_right (by rw [hML]; exact h), hML]
   rw [e2]
   rcases Nat.lt_or_ge j cs.length with h2 | h2
   ·rw [List.getElem?_append_left h2, List.getElem?_append_left (by omega : j - m < (cs.drop m).length), List.getElem?_drop]
    congr 1; omega
   ·rw [List.getElem?_append_right h2, List.getElem?_append_right (by omega : (cs.drop m).length ≤ j - m)]
    congr 1; omega
 have hheap : w'.heap[b]? = some (.cells ((D.map fun b => Value.int .u8 (b.toNat : Int)) ++ cs.drop m ++ rest).toArray el (0, 0)) := by
  rw [hw]
  show ((putRow _ w b 0 dk).heap)[b]? = _
  unfold putRow mapBlock
  simp only [Array.getElem?_modify, hc1, if_true, Option.map_some, onCells, hcell]
 have hoth : ∀ c, c ≠ b → w'.heap[c]? = w.heap[c]? := fun c hc => by
  rw [hw]
  show ((putRow _ w b 0 dk).heap)[c]? = _
  unfold putRow mapBlock
  simp only [Array.getElem?_modify, if_neg (Ne.symm hc)]
 have hsz : w'.heap.size = w.heap.size := by
  rw [hw]
  show ((putRow _ w b 0 dk).heap).size = _
  unfold putRow mapBlock
  simp
 have E : Ext g s w g { s with H := s.H.set i (.cells false (bytes (digF 20 k) ++ c.drop m)) } w' :=
  Ext.write hI hb (.inl ⟨c, _, hH, rfl⟩) hsz hoth (fun ⟨m, hm⟩ => by rw [hH] at hm; cases hm) (by rw [hw]; rfl) (by rw [hw]; rfl) (by rw [hw]; exact ⟨rfl, fun _ => Nat.le_add_right _ _⟩)
 refine ⟨g, hI.write hb E hoth ?_, E, Rep.undef⟩
 refine ⟨_, el, ⟨rest, hheap⟩, ?_⟩
 have hbt : RepL g s w (bytes (digF 20 k)) (D.map fun b => Value.int .u8 (b.toNat : Int)) := by
  rw [dig20 (by omega), hD]
  refine ⟨by simp [bytes], fun j a x h1 h2 => ?_⟩
  simp only [bytes, List.getElem?_map, Option.map_eq_some_iff] at h1 h2
  obtain ⟨y, h3, rfl⟩ := h1
  obtain ⟨z, h4, rfl⟩ := h2
  rw [h3] at h4; cases h4
  exact .v rfl
 exact (hbt.append (hc2.drop m)).mono E
end Go.Proofs.Eng
