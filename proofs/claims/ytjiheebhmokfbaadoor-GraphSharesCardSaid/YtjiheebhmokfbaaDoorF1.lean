/- Chains: plain law. No conditions beyond those in the theorems. -/
import Derived.Test.YtjiheebhmokfbaaDoorE3
import Derived.Test.YtjiheebhmokfbaaDoorB5
set_option linter.all false
set_option linter.deprecated false
set_option linter.unnecessarySimpa false
set_option linter.unusedVariables false
set_option linter.unusedSimpArgs false
set_option linter.defProp false
namespace Go.Proofs.Eng
open Go Go.Proofs
set_option maxRecDepth 100000
set_option maxHeartbeats 16000000
structure SW (w : Nat) (H : List AObj) (V : List Nat) (H' : List AObj) (V' : List Nat) : Prop where
 le : H.length ≤ H'.length
 keep : ∀ (k : Nat), k < H.length → k ≠ w → H'[k]? = H[k]?
 vl : V.length ≤ V'.length
 vk : ∀ (i v : Nat), V[i]? = some v → V'[i]? = some v
theorem SW.refl (w : Nat) (H : List AObj) (V : List Nat) : SW w H V H V := ⟨Nat.le_refl _, fun _ _ _ => rfl, Nat.le_refl _, fun _ _ h => h⟩
theorem SW.trans {w : Nat} {A B C : List AObj} {V V' V'' : List Nat} (h : SW w A V B V') (k : SW w B V' C V'') : SW w A V C V'' :=
 ⟨Nat.le_trans h.le k.le, fun i h1 h2 => (k.keep i (Nat.lt_of_lt_of_le h1 h.le) h2).trans (h.keep i h1 h2), Nat.le_trans h.vl k.vl, fun i v e => k.vk i v (h.vk i v e)⟩
theorem SW.app (w : Nat) (H : List AObj) (V : List Nat) (G : List AObj) : SW w H V (H ++ G) V := ⟨by simp, fun k h _ => List.getElem?_append_left h, Nat.le_refl _, fun _ _ h => h⟩
theorem SW.set {w : Nat} {A B : List AObj} {V V' : List Nat} (h : SW w A V B V') {q : Nat} (hq : A.length ≤ q ∨ q = w) (o : AObj) : SW w A V (B.set q o) V' :=
 ⟨by rw [List.length_set]; exact h.le, fun k h1 h2 => by rw [List.getElem?_set, if_neg (by omega)]; exact h.keep k h1 h2, h.vl, h.vk⟩
section
variable (b fr : Int)
mutual
def Tm.sh (d : Nat) : Tm → Tm
 | .mk k i n ls kids => if k = 0 then (if i < fr + d then .mk k i n ls kids else if i + b < fr + d then .mk k i n ls kids else vr (i + b)) else .mk k i n ls (shL d k 0 kids)
def shL (d : Nat) (k : Int) : Nat → List Tm → List Tm
 | _, [] => []
 | j, t :: l => t.sh (d + (binderG k j).toNat) :: shL d k (j + 1) l
end
mutual
def Tm.shE (d : Nat) : Tm → Bool
 | .mk k i _ _ kids => if k = 0 then !decide (i < fr + d) && lbad b fr i d else shEL d k 0 kids
def shEL (d : Nat) (k : Int) : Nat → List Tm → Bool
 | _, [] => false
 | j, t :: l => t.shE (d + (binderG k j).toNat) || shEL d k (j + 1) l
end
end
section
variable {b fr : Int}
end
end Go.Proofs.Eng
namespace Go.Proofs.Eng
open Go Go.Proofs
set_option maxRecDepth 100000
set_option maxHeartbeats 16000000
end Go.Proofs.Eng
namespace Go.Proofs.Eng
open Go Go.Proofs
set_option maxRecDepth 100000
set_option maxHeartbeats 16000000
section
variable (ts : List Tm)
mutual
def Tm.st (d : Nat) : Tm → Tm
 | .mk k i n ls kids => if k = 0 then (if i < d then .mk k i n ls kids else match ts[(i - d).toNat]? with | some t => t.sh d 0 0 | none => vr (i - ts.length)) else .mk k i n ls (stL d k 0 kids)
def stL (d : Nat) (k : Int) : Nat → List Tm → List Tm
 | _, [] => []
 | j, t :: l => t.st (d + (binderG k j).toNat) :: stL d k (j + 1) l
end
mutual
def Tm.stE (d : Nat) : Tm → Bool
 | .mk k i _ _ kids => if k = 0 then (if i < d then false else match ts[(i - d).toNat]? with | some t => t.shE d 0 0 | none => decide (65535 < i - ts.length)) else stEL d k 0 kids
def stEL (d : Nat) (k : Int) : Nat → List Tm → Bool
 | _, [] => false
 | j, t :: l => t.stE (d + (binderG k j).toNat) || stEL d k (j + 1) l
end
end
section
variable {ts : List Tm}
end
end Go.Proofs.Eng
namespace Go.Proofs.Eng
section
variable {b fr : Int}
end
end Go.Proofs.Eng
namespace Go.Proofs.Eng
end Go.Proofs.Eng
namespace Go.Proofs.Eng
def ch (i : Int) : Nat → Tm
 | 0 => vr i
 | n + 1 => .mk 4 0 ⟨#[]⟩ [] [ch i n, ch i n]
theorem ch_inj {i j : Int} : ∀ {n m : Nat}, ch i n = ch j m → i = j ∧ n = m := by
 intro n
 induction n with
 | zero =>
  intro m h
  cases m with
  | zero => simp only [ch, vr, Tm.mk.injEq] at h; exact ⟨h.2.1, rfl⟩
  | succ m => simp [ch, vr] at h
 | succ n ih =>
  intro m h
  cases m with
  | zero => simp [ch, vr] at h
  | succ m =>
   simp only [ch, Tm.mk.injEq, List.cons.injEq] at h
   obtain ⟨a, b⟩ := ih h.2.2.2.2.1
   exact ⟨a, by omega⟩
theorem bg4 (j : Int) : binderG 4 j = 0 := by unfold binderG; rw [if_neg (by omega)]
theorem ch_fv {i : Int} (h : 0 ≤ i) : ∀ n, (ch i n).fv = (i + 1).toNat
 | 0 => by rw [ch, vr, fv_mk]; simp [fvF, fv0]
 | n + 1 => by
  rw [ch, fv_mk]
  simp [fvF, fv0, ch_fv h n, bg4]
theorem ch_right {i : Int} (h0 : 0 ≤ i) (h1 : i ≤ 65535) : ∀ n, ∀ y ∈ (ch i n).subs, y.right = true
 | 0 => vr_right h0 h1
 | n + 1 => by
  intro y hy
  rw [ch, Tm.subs] at hy
  rcases List.mem_cons.1 hy with rfl | hy
  ·have h3 : kidsN 4 = 2 := by decide
   have h4 : (⟨#[]⟩ : ByteArray).size = 0 := rfl
   simp only [Tm.right, Tm.ls, Tm.k, Tm.kids, Tm.n, Tm.i, h3, h4]
   simp
  ·obtain ⟨z, hz, hyz⟩ := mem_subsL.1 hy
   have : z = ch i n := by simpa using hz
   subst this
   exact ch_right h0 h1 n y hyz
def chs (i : Int) (n : Nat) : List Tm := (List.range (n + 1)).map (ch i)
theorem chs_succ (i : Int) (n : Nat) : chs i (n + 1) = chs i n ++ [ch i (n + 1)] := by
 rw [chs, List.range_succ, List.map_append]; rfl
theorem chs_mem {i : Int} {n m : Nat} (h : m ≤ n) : ch i m ∈ chs i n := List.mem_map.2 ⟨m, by simp; omega, rfl⟩
theorem ch_enter {i : Int} (h0 : 0 ≤ i) (h1 : i ≤ 65535) {T : List Tm} (hG : GT T) (hn : ∀ m, ch i m ∉ T) : ∀ n, (ch i n).enter T = T ++ chs i n
 | 0 => by
  rw [ch, vr, enter_eq hG.good, enterL, addT, if_neg]
  ·rfl
  ·exact hn 0
 | n + 1 => by
  have ih := ch_enter h0 h1 hG hn n
  have hm : ch i n ∈ T ++ chs i n := List.mem_append_right _ (chs_mem (Nat.le_refl _))
  rw [ch, enter_eq hG.good, enterL, ih, enterL, enter_mem hm, enterL, addT, if_neg, List.append_assoc, chs_succ]
  ·rfl
  ·intro h
   have h : ch i (n + 1) ∈ T ++ chs i n := h
   rcases List.mem_append.1 h with h | h
   ·exact hn _ h
   ·obtain ⟨m, hm, e⟩ := List.mem_map.1 h
    have := (ch_inj e).2
    simp at hm; omega
theorem ch_mv {i j : Int} (h0 : 0 ≤ i) {var : Int → Nat → Tm} {ve : Int → Nat → Bool} (hv : var i 0 = vr j) (he : ve i 0 = false) : ∀ n, (ch i n).mv 0 var 0 = ch j n ∧ (ch i n).me 0 ve 0 = false
 | 0 => by
  have := ch_fv h0 0
  rw [ch, vr] at this ⊢
  have hn : ¬ ((Tm.mk 0 i ⟨#[]⟩ [] []).fv : Int) ≤ 0 + ((0 : Nat) : Int) := by rw [this]; omega
  rw [Tm.mv, Tm.me, if_neg hn, if_neg hn, if_pos rfl, if_pos rfl]
  exact ⟨hv, he⟩
 | n + 1 => by
  obtain ⟨a, b⟩ := ch_mv h0 hv he n
  have := ch_fv h0 (n + 1)
  rw [ch] at this ⊢
  have hn : ¬ ((Tm.mk 4 0 ⟨#[]⟩ [] [ch i n, ch i n]).fv : Int) ≤ 0 + ((0 : Nat) : Int) := by rw [this]; omega
  have h4 : ¬ (4 : Int) = 0 := by decide
  rw [Tm.mv, Tm.me, if_neg hn, if_neg hn, if_neg h4, if_neg h4]
  simp only [mvL, meL, bg4, a, b, ch]
  simp [a, b]
end Go.Proofs.Eng
