/- The text of the numbers of a call, as a told result. No conditions beyond those in the theorems. -/
import Derived.Test.YtodnkbnbjhcikaaDoorKO
import Derived.Test.YtodnkbnbjhcikaaDoorE1z
set_option linter.all false
set_option linter.deprecated false
set_option linter.unnecessarySimpa false
set_option linter.unusedVariables false
set_option linter.unusedSimpArgs false
set_option linter.defProp false
namespace Go.Proofs.Eng
open Go Go.Proofs Go.Shelf Go.RowKit
set_option maxRecDepth 100000
theorem hm : Tryd.prog.follows .mixedOrders = true := by kernel_rfl
def intOf : AV → Option Int
  | .v (.int .i64 n) => if -9223372036854775808 ≤ n ∧ n ≤ 9223372036854775807 then some n else none
  | _ => none
theorem intOf_some {a : AV} {n : Int} (h : intOf a = some n) : a = .int n ∧ -9223372036854775808 ≤ n ∧ n ≤ 9223372036854775807 := by
  unfold intOf at h
  split at h
  · split at h
    · simp only [Option.some.injEq] at h; subst h; exact ⟨rfl, ‹_›⟩
    · simp at h
  · simp at h
theorem intsOf_some : ∀ {l : List AV} {ns : List Int}, mapO intOf l = some ns → l = ints ns ∧ ∀ n ∈ ns, -9223372036854775808 ≤ n ∧ n ≤ 9223372036854775807
  | [], ns, h => by simp only [mapO, Option.some.injEq] at h; subst h; exact ⟨rfl, by simp⟩
  | a :: l, ns, h => by
    simp only [mapO] at h
    split at h
    · rename_i n hn
      split at h
      · rename_i ms hms
        simp only [Option.some.injEq] at h; subst h
        obtain ⟨h1, h2⟩ := intOf_some hn
        obtain ⟨h3, h4⟩ := intsOf_some hms
        refine ⟨by rw [h1, h3]; rfl, fun m hm => ?_⟩
        rcases List.mem_cons.1 hm with rfl | hm
        · exact h2
        · exact h4 m hm
      · simp at h
    · simp at h
theorem flat_ints : ∀ (ns : List Int), flat (ints ns) = ints ns
  | [] => rfl
  | n :: ns => by
    have := flat_ints ns
    simp only [ints, List.map_cons] at this ⊢
    rw [flat_cons, this]; rfl
theorem intsOf {l : List Int} (h : ∀ n ∈ l, in64 n) : mapO intOf (ints l) = some l := by
  induction l with
  | nil => rfl
  | cons n l ih =>
    have h1 := ih fun m hm => h m (by simp [hm])
    have h2 := h n (by simp)
    unfold in64 at h2
    simp only [ints] at h1 ⊢
    simp only [List.map_cons, mapO, h1, intOf]
    rw [if_pos h2]
def rowOf : AV → Option (List Int)
  | .sl l t => if t.fast = true ∧ l.length ≤ 16 then mapO intOf l else none
  | _ => none
theorem rowOf_some {a : AV} {r : List Int} (h : rowOf a = some r) : RowIs r a ∧ r.length ≤ 16 := by
  unfold rowOf at h
  split at h
  · split at h
    · rename_i hc
      obtain ⟨rfl, h2⟩ := intsOf_some h
      rw [ints_len] at hc
      exact ⟨⟨_, rfl, hc.1, by unfold lenB; omega, h2⟩, hc.2⟩
    · simp at h
  · simp at h
theorem rowOf_is {a : AV} {r : List Int} (h : RowIs r a) (hr : r.length ≤ 16) : rowOf a = some r := by
  obtain ⟨t, rfl, h1, h2, h3⟩ := h.of
  simp only [rowOf]
  rw [if_pos ⟨h1, by rw [ints_len]; exact hr⟩, intsOf h3]
theorem rowsOf_some : ∀ {l : List AV} {m : List (List Int)}, mapO rowOf l = some m → LIs RowIs m l ∧ ∀ r ∈ m, r.length ≤ 16
  | [], m, h => by simp only [mapO, Option.some.injEq] at h; subst h; exact ⟨trivial, by simp⟩
  | a :: l, m, h => by
    simp only [mapO] at h
    split at h
    · rename_i r hr
      split at h
      · rename_i ms hms
        simp only [Option.some.injEq] at h; subst h
        obtain ⟨h1, h2⟩ := rowOf_some hr
        obtain ⟨h3, h4⟩ := rowsOf_some hms
        refine ⟨⟨h1, h3⟩, fun x hx => ?_⟩
        rcases List.mem_cons.1 hx with rfl | hx
        · exact h2
        · exact h4 x hx
      · simp at h
    · simp at h
theorem rowsOf_is : ∀ {l : List AV} {m : List (List Int)}, LIs RowIs m l → (∀ r ∈ m, r.length ≤ 16) → mapO rowOf l = some m
  | [], [], _, _ => rfl
  | [], _ :: _, h, _ => by simp [LIs] at h
  | _ :: _, [], h, _ => by simp [LIs] at h
  | a :: l, r :: m, h, hr => by
    simp only [LIs] at h
    simp only [mapO, rowOf_is h.1 (hr r (by simp)), rowsOf_is h.2 fun x hx => hr x (by simp [hx])]
def i64B (n : Int) : Bool := decide (-9223372036854775808 ≤ n) && decide (n ≤ 9223372036854775807)
theorem i64B_iff {n : Int} : i64B n = true ↔ in64 n := by simp [i64B, in64]
def clOf : AV → Option Cl
  | .agg [.v (.int .i64 f), .v (.int .i64 t), .sl l tl] => match mapO rowOf l with
    | some m => if tl.fast = true ∧ i64B f = true ∧ i64B t = true ∧ l.length ≤ 16 ∧ 0 < m.flatten.length then some ⟨f, t, m⟩ else none
    | none => none
  | _ => none
theorem clOf_some {a : AV} {c : Cl} (h : clOf a = some c) : ClIs c a ∧ Sm c := by
  unfold clOf at h
  split at h
  · split at h
    · rename_i m hm
      split at h
      · rename_i hc
        simp only [Option.some.injEq] at h; subst h
        obtain ⟨h1, h2, h3, h4, h5⟩ := hc
        obtain ⟨k1, k2⟩ := rowsOf_some hm
        exact ⟨⟨_, _, rfl, k1, h1, by unfold lenB; omega, i64B_iff.1 h2, i64B_iff.1 h3⟩, by rw [← k1.len]; exact h4, k2, h5⟩
      · simp at h
    · simp at h
  · simp at h
theorem clOf_is {a : AV} {c : Cl} (h : ClIs c a) (hs : Sm c) : clOf a = some c := by
  obtain ⟨al, t, rfl, h1, h2, h3, h4, h5⟩ := h.of
  simp only [clOf, rowsOf_is h1 hs.cols]
  rw [if_pos ⟨h2, i64B_iff.2 h4, i64B_iff.2 h5, by rw [h1.len]; exact hs.rows, hs.pos⟩]
theorem ent_in {a : AV} {c : Cl} (h : ClIs c a) : ∀ n ∈ entL c, in64 n := by
  obtain ⟨al, t, rfl, h1, h2, h3, h4, h5⟩ := h.of
  have key : ∀ {m : List (List Int)} {al : List AV}, LIs RowIs m al → ∀ n ∈ m.flatten, in64 n := by
    intro m
    induction m with
    | nil => intro al _ n hn; simp at hn
    | cons r m ih =>
      intro al h n hn
      cases al with
      | nil => simp [LIs] at h
      | cons a al =>
        simp only [LIs] at h
        obtain ⟨_, _, _, _, h6⟩ := h.1.of
        rw [List.flatten_cons, List.mem_append] at hn
        rcases hn with hn | hn
        · exact h6 n hn
        · exact ih h.2 n hn
  intro n hn
  unfold entL at hn
  rcases List.mem_cons.1 hn with rfl | hn
  · exact h4
  · rcases List.mem_cons.1 hn with rfl | hn
    · exact h5
    · exact key h1 n hn
def strL (l : List UInt8) : ByteArray := ⟨l.toArray⟩
def keyO : List AV → ASt → Option (AV × ASt)
  | [a], s => (clOf a).map fun c => (.str (strL (textOf (entL c))), s)
  | _, _ => none
theorem pure_calls [DrK] {P : Program} {md : FuncId → Md} {pfs : FuncId → Option PF} (hS : Sound P (run md pfs)) {f : FuncId} {args : List AV} {PR : AV → Prop} (h : Out md pfs f args PR fun _ => False) (hmd : md f = .pure) (ha : pureAVs args = true) {g : Gh} {s : ASt} {w : World} {vs : List Value} (hI : Inv g s w) (hr : RepL g s w args vs) :
    Calls P f vs.toArray w fun e w' => ∃ v u, PR v ∧ e = .returned u ∧ Inv g s w' ∧ Ext g s w g s w' ∧ Rep g s w' v u := by
  obtain ⟨out, s', out', h1, h2, h3⟩ := h
  cases out' with
  | pan v => exact h3.elim
  | ret v =>
    have hc : callA (run md pfs) md true s f args = some (.ret v, s) := by simp [callA, hmd, ha, purify_all s ha, h1, h2, frz_all s ha]
    obtain ⟨_, hcalls⟩ := callA_sound hS hc hI hr
    refine hcalls.mono fun e w' ⟨g', hI', hE, hO, hg⟩ => ?_
    obtain rfl := hg rfl
    cases e with
    | returned u => exact ⟨v, u, h3, rfl, hI', hE, hO⟩
    | _ => exact hO.elim
theorem tab_of {g : Gh} {s : ASt} {w : World} (h : Inv g s w) {w' : World} (hb : Below w.heap.size w w') : Lib.TabIs Tryd.prog w' tabN .u64 Lib.pow10Tab := by
  obtain ⟨h1, _, t, z, h3⟩ := h.kn 0 rfl
  have e : Tryd.prog.globalNamed tabN = some 0 := by kernel_rfl
  unfold Lib.TabIs World.var?
  rw [e]
  simp only [Option.bind_some]
  rw [hb.block 0 h1, h3]
theorem key_ok : OraOK Tryd.prog 58 keyO := by
  intro args s v s' hv
  refine ⟨⟨_, _, Tryd.func58, rfl, by kernel_rfl⟩, fun g w vs hI hr => ?_⟩
  unfold keyO at hv
  split at hv
  · rename_i a _
    obtain ⟨c, hc, e⟩ := Option.map_eq_some_iff.1 hv
    simp only [Prod.mk.injEq] at e
    obtain ⟨rfl, rfl⟩ := e
    obtain ⟨hCl, hSm⟩ := clOf_some hc
    obtain ⟨u, us, rfl, hu, hnil⟩ := hr.cons_inv
    obtain rfl : us = [] := List.length_eq_zero_iff.1 hnil.1.symm
    obtain ⟨al, t, ha, k1, k2, k3, k4, k5⟩ := hCl.of
    subst ha
    obtain ⟨cs, rfl, hcs⟩ := hu.agg_inv
    obtain ⟨x, cs, rfl, hx, hcs⟩ := hcs.cons_inv
    obtain ⟨y, cs, rfl, hy, hcs⟩ := hcs.cons_inv
    obtain ⟨z, cs, rfl, hz, hcs⟩ := hcs.cons_inv
    obtain rfl : cs = [] := List.length_eq_zero_iff.1 hcs.1.symm
    have hto := hSm.tot
    have hlen : (entL c).length ≤ 300 := by unfold entL; simp only [List.length_cons]; omega
    have hin := ent_in hCl
    refine (key_walk (entL c) hin (by simp [entL]) (by omega) x y z w (fun w2 => Inv g s w2 ∧ Ext g s w g s w2) (fun w1 hb => ?_) ?_ ?_ ?_ (fun w2 h w' hb => tab_of h.1 hb)).mono fun e w' ⟨he, w2, ⟨hI2, hE2⟩, hbl⟩ => ?_
    · have hE1 : Ext g s w g s w1 := Ext.same hb.size hb.block hb.os hb.tape ⟨hb.output, fun d => d.elim⟩
      have hI1 := hI.keep hE1 fun b h => hb.block b (hI.has_lt h)
      refine (pure_calls (run_sound hm Z.pfsOK) (Z.entries_ret hCl hSm) rfl (by simp [pvs_cons, pvs_nil, hCl.pure]) hI1 (hr.mono hE1)).mono fun e w2 ⟨v, u, ⟨t', hv, _⟩, he, hI2, hE2, hR⟩ => ?_
      subst hv he
      refine ⟨?_, hI2, hE1.trans hE2⟩
      obtain ⟨a, cap, b, o, cs, rfl, h1, h2, h3, h4, _⟩ := hR.sl_inv
      rw [flat_ints] at h1
      have h5 := h3 (by simp [entL, ints])
      subst h5
      refine ⟨b, o, cap, by rw [ints_len], fun k n hk => ?_⟩
      have hlt := (List.getElem?_eq_some_iff.1 hk).1
      have hkc : k < cs.length := by rw [← h1.1, ints_len]; exact hlt
      have h5 := h1.2 k (.int n) cs[k] (by simp [ints, hk]) (List.getElem?_eq_getElem hkc)
      have h6 := (h2 k _ (List.getElem?_eq_getElem hkc)).1
      rw [h6, h5.v_inv]
    · rw [hx.v_inv]; rfl
    · rw [hy.v_inv]; rfl
    · obtain ⟨_, _, _, _, _, rfl, _⟩ := hz.sl_inv; rfl
    · subst he
      have hE : Ext g s w2 g s w' := Ext.same hbl.size hbl.block hbl.os hbl.tape ⟨hbl.output, fun d => d.elim⟩
      exact ⟨g, hI2.keep hE fun b h => hbl.block b (hI2.has_lt h), hE2.trans hE, .v rfl⟩
  · simp at hv
end Go.Proofs.Eng
