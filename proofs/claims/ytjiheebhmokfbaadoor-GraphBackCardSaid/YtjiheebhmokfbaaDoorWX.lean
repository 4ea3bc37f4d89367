/- More rules of code, as one fact. No conditions. -/
import Derived.Test.YtjiheebhmokfbaaDoorG5
import Derived.Shelf.Strconv.Itoa1
import Derived.Shelf.Strconv.Itoa2
import Derived.Test.YtjiheebhmokfbaaDoorProg
set_option linter.all false
set_option linter.deprecated false
set_option linter.unnecessarySimpa false
set_option linter.unusedVariables false
set_option linter.unusedSimpArgs false
set_option linter.defProp false
namespace Go.Proofs.Eng
open Go Go.Proofs
theorem bv_nat (w n : Nat) : (BitVec.ofInt w (n : Int)).toNat = n % 2 ^ w := by
 rw [BitVec.ofInt_natCast, BitVec.toNat_ofNat]
theorem or_nat {w a b : Nat} (ha : a < 2 ^ w) (hb : b < 2 ^ w) : (BitVec.ofInt w (a : Int) ||| BitVec.ofInt w (b : Int)).toNat = a ||| b := by
 rw [BitVec.toNat_or, bv_nat, bv_nat, Nat.mod_eq_of_lt ha, Nat.mod_eq_of_lt hb]
theorem or_add {a c k : Nat} (h : a < 2 ^ k) : a ||| c * 2 ^ k = a + c * 2 ^ k := by
 rw [Nat.or_comm, Nat.mul_comm, ← Nat.two_pow_add_eq_or_of_lt h, Nat.add_comm]
abbrev mostN : Nat := 2147483647
def encN (n : Nat) : List UInt8 := if n < 128 then [UInt8.ofNat n] else UInt8.ofNat (n % 128 + 128) :: encN (n / 128)
termination_by n
decreasing_by omega
theorem encN_lt {n : Nat} (h : n < 128) : encN n = [UInt8.ofNat n] := by rw [encN, if_pos h]
theorem encN_ge {n : Nat} (h : 128 ≤ n) : encN n = UInt8.ofNat (n % 128 + 128) :: encN (n / 128) := by rw [encN, if_neg (by omega)]
theorem u8_nat {n : Nat} (h : n < 256) : (UInt8.ofNat n).toNat = n := by simp [UInt8.toNat_ofNat']; omega
theorem encN_pos (n : Nat) : 0 < (encN n).length := by
 rw [encN]; split <;> simp
structure Lv where
 c : Int
 vs : List (Int × Int)
 deriving DecidableEq
inductive Tm where
 | mk (k i : Int) (n : ByteArray) (ls : List Lv) (kids : List Tm)
theorem Tm.ind {P : Tm → Prop} (h : ∀ k i n ls kids, (∀ x ∈ kids, P x) → P (.mk k i n ls kids)) (e : Tm) : P e := by
 have key : ∀ n e, SizeOf.sizeOf e ≤ n → P e := by
  intro n
  induction n with
  | zero => intro e he; cases e; simp at he
  | succ n ih =>
   intro e he
   cases e with
   | mk k i nm s kids =>
    refine h k i nm s kids fun x hx => ih x ?_
    have := List.sizeOf_lt_of_mem hx
    simp at he
    omega
 exact key _ e (Nat.le_refl _)
def Tm.k : Tm → Int | .mk k _ _ _ _ => k
def Tm.i : Tm → Int | .mk _ i _ _ _ => i
def Tm.n : Tm → ByteArray | .mk _ _ n _ _ => n
def Tm.ls : Tm → List Lv | .mk _ _ _ ls _ => ls
def Tm.kids : Tm → List Tm | .mk _ _ _ _ l => l
mutual
def Tm.same : Tm → Tm → Bool
 | .mk k i n ls kids, .mk k' i' n' ls' kids' => decide (k = k') && decide (i = i') && decide (n = n') && decide (ls = ls') && sameL kids kids'
def sameL : List Tm → List Tm → Bool
 | [], [] => true
 | a :: l, b :: m => a.same b && sameL l m
 | _, _ => false
end
theorem same_iff (a : Tm) : ∀ b, a.same b = true ↔ a = b := by
 induction a using Tm.ind with
 | h k i n ls kids ih =>
  rintro ⟨k', i', n', ls', kids'⟩
  have key : ∀ l m : List Tm, (∀ x ∈ l, x ∈ kids) → (sameL l m = true ↔ l = m) := by
   intro l
   induction l with
   | nil => intro m _; cases m <;> simp [sameL]
   | cons x l ihl =>
    intro m hl
    cases m with
    | nil => simp [sameL]
    | cons y m =>
     rw [sameL, Bool.and_eq_true, ih x (hl x (by simp)) y, ihl m fun z hz => hl z (by simp [hz])]
     simp
  rw [Tm.same]
  simp only [Bool.and_eq_true, decide_eq_true_eq, key kids kids' fun _ h => h, Tm.mk.injEq, and_assoc]
instance : DecidableEq Tm := fun a b => decidable_of_iff _ (same_iff a b)
theorem encN_inj : ∀ (a b : Nat) (x y : List UInt8), encN a ++ x = encN b ++ y → a = b ∧ x = y := by
 intro a
 induction a using Nat.strongRecOn with
 | ind a ih =>
  intro b x y h
  rcases Nat.lt_or_ge a 128 with ha | ha <;> rcases Nat.lt_or_ge b 128 with hb | hb
  ·rw [encN_lt ha, encN_lt hb] at h
   simp only [List.cons_append, List.nil_append, List.cons.injEq] at h
   have := congrArg UInt8.toNat h.1
   rw [u8_nat (by omega), u8_nat (by omega)] at this
   exact ⟨this, h.2⟩
  ·rw [encN_lt ha, encN_ge hb] at h
   simp only [List.cons_append, List.nil_append, List.cons.injEq] at h
   have := congrArg UInt8.toNat h.1
   rw [u8_nat (by omega), u8_nat (by omega)] at this
   omega
  ·rw [encN_ge ha, encN_lt hb] at h
   simp only [List.cons_append, List.nil_append, List.cons.injEq] at h
   have := congrArg UInt8.toNat h.1
   rw [u8_nat (by omega), u8_nat (by omega)] at this
   omega
  ·rw [encN_ge ha, encN_ge hb] at h
   simp only [List.cons_append, List.cons.injEq] at h
   have h1 := congrArg UInt8.toNat h.1
   rw [u8_nat (by omega), u8_nat (by omega)] at h1
   have h2 := ih (a / 128) (by omega) (b / 128) x y h.2
   exact ⟨by omega, h2.2⟩
def encV (v : Int × Int) : List UInt8 := encN (v.1 + 65536).toNat ++ encN v.2.toNat
def encL (l : Lv) : List UInt8 := encN l.c.toNat ++ (encN l.vs.length ++ l.vs.flatMap encV)
def Lv.fine (l : Lv) : Prop := 0 ≤ l.c ∧ ∀ v ∈ l.vs, -65536 ≤ v.1 ∧ 0 ≤ v.2
theorem flat_inj {α : Type} {f : α → List UInt8} {ok : α → Prop} (hf : ∀ a b x y, ok a → ok b → f a ++ x = f b ++ y → a = b ∧ x = y) : ∀ (l m : List α) (x y : List UInt8), l.length = m.length → (∀ a ∈ l, ok a) → (∀ a ∈ m, ok a) → l.flatMap f ++ x = m.flatMap f ++ y → l = m ∧ x = y
 | [], [], x, y, _, _, _, h => ⟨rfl, h⟩
 | a :: l, b :: m, x, y, hl, h1, h2, h => by
  simp only [List.flatMap_cons, List.append_assoc] at h
  have h3 := hf a b _ _ (h1 a (by simp)) (h2 b (by simp)) h
  have h4 := flat_inj hf l m x y (by simpa using hl) (fun a ha => h1 a (by simp [ha])) (fun a ha => h2 a (by simp [ha])) h3.2
  exact ⟨by rw [h3.1, h4.1], h4.2⟩
 | [], _ :: _, _, _, hl, _, _, _ => by simp at hl
 | _ :: _, [], _, _, hl, _, _, _ => by simp at hl
theorem encV_inj (a b : Int × Int) (x y : List UInt8) (ha : -65536 ≤ a.1 ∧ 0 ≤ a.2) (hb : -65536 ≤ b.1 ∧ 0 ≤ b.2) (h : encV a ++ x = encV b ++ y) : a = b ∧ x = y := by
 simp only [encV, List.append_assoc] at h
 obtain ⟨h1, h⟩ := encN_inj _ _ _ _ h
 obtain ⟨h2, h⟩ := encN_inj _ _ _ _ h
 refine ⟨Prod.ext ?_ ?_, h⟩ <;> omega
theorem encL_inj (a b : Lv) (x y : List UInt8) (ha : a.fine) (hb : b.fine) (h : encL a ++ x = encL b ++ y) : a = b ∧ x = y := by
 obtain ⟨c, vs⟩ := a
 obtain ⟨c', vs'⟩ := b
 simp only [encL, List.append_assoc] at h
 obtain ⟨h1, h⟩ := encN_inj _ _ _ _ h
 obtain ⟨h2, h⟩ := encN_inj _ _ _ _ h
 obtain ⟨h3, h6⟩ := flat_inj (ok := fun v => -65536 ≤ v.1 ∧ 0 ≤ v.2) encV_inj vs vs' x y h2 ha.2 hb.2 h
 have h4 := ha.1
 have h5 := hb.1
 simp only at h1 h4 h5 h3
 subst h3
 exact ⟨by congr 1; omega, h6⟩
def Tm.pay : Tm → List UInt8
 | .mk k i n ls _ => if k = 0 ∨ k = 12 then encN i.toNat else if k = 2 then encL (ls.headD ⟨0, []⟩) else if k = 3 then encN n.size ++ (n.toList ++ (encN ls.length ++ ls.flatMap encL)) else []
def entryT (pos : Tm → Nat) (t : Tm) : List UInt8 := encN t.k.toNat ++ (t.pay ++ t.kids.flatMap fun x => encN (pos x))
def kidsN (k : Int) : Int := if k = 0 ∨ k = 1 ∨ k = 2 ∨ k = 3 ∨ k = 12 then 0 else if k = 9 ∨ k = 10 then 1 else if k = 4 ∨ k = 5 ∨ k = 6 ∨ k = 7 then 2 else if k = 8 ∨ k = 11 then 3 else -1
structure Tm.fine (t : Tm) : Prop where
 kids : kidsN t.k = t.kids.length
 lv : ∀ l ∈ t.ls, l.fine
 ls : (t.k = 2 → t.ls.length = 1) ∧ (t.k ≠ 2 → t.k ≠ 3 → t.ls = [])
 ix : (t.k = 0 ∨ t.k = 12 → 0 ≤ t.i) ∧ (t.k ≠ 0 → t.k ≠ 12 → t.i = 0)
 nm : t.k ≠ 3 → t.n = ⟨#[]⟩
theorem toList_inj {a b : ByteArray} (h : a.toList = b.toList) : a = b := by
 have h1 := str_eq a b
 rw [h, beq_self_eq_true] at h1
 simpa using h1.symm
theorem kidsN_range {k : Int} (h : 0 ≤ kidsN k) : 0 ≤ k ∧ k ≤ 12 := by
 unfold kidsN at h
 split at h
 ·omega
 split at h
 ·omega
 split at h
 ·omega
 split at h
 ·omega
 ·omega
theorem entry_inj {pos : Tm → Nat} {a b : Tm} (fa : a.fine) (fb : b.fine) (hp : ∀ x y, (x ∈ a.kids ∨ x ∈ b.kids) → (y ∈ a.kids ∨ y ∈ b.kids) → pos x = pos y → x = y) (h : entryT pos a = entryT pos b) : a = b := by
 have hka := kidsN_range (k := a.k) (by rw [fa.kids]; omega)
 have hkb := kidsN_range (k := b.k) (by rw [fb.kids]; omega)
 unfold entryT at h
 obtain ⟨h1, h⟩ := encN_inj _ _ _ _ h
 have hk : a.k = b.k := by omega
 have hlen : a.kids.length = b.kids.length := by have := fa.kids; have := fb.kids; rw [hk] at *; omega
 have kids : ∀ x y : List UInt8, (a.kids.flatMap fun x => encN (pos x)) ++ x = (b.kids.flatMap fun x => encN (pos x)) ++ y → a.kids = b.kids := fun x y e =>
  (flat_inj (ok := fun z => z ∈ a.kids ∨ z ∈ b.kids) (f := fun x => encN (pos x)) (fun u v x y hu hv e => by
   have := encN_inj _ _ _ _ e
   exact ⟨hp u v hu hv this.1, this.2⟩) a.kids b.kids x y hlen (fun z hz => .inl hz) (fun z hz => .inr hz) e).1
 obtain ⟨k, i, n, ls, ks⟩ := a
 obtain ⟨k', i', n', ls', ks'⟩ := b
 simp only [Tm.k, Tm.kids] at hk hlen kids h hka hkb h1
 subst hk
 have a1 := fa.lv; have a2 := fa.ls; have a3 := fa.ix; have a4 := fa.nm
 have b1 := fb.lv; have b2 := fb.ls; have b3 := fb.ix; have b4 := fb.nm
 simp only [Tm.k, Tm.ls, Tm.i, Tm.n] at a1 a2 a3 a4 b1 b2 b3 b4
 have same : i = i' → n = n' → ls = ls' → ks = ks' → Tm.mk k i n ls ks = Tm.mk k i' n' ls' ks' := by rintro rfl rfl rfl rfl; rfl
 simp only [Tm.pay] at h
 by_cases k0 : k = 0 ∨ k = 12
 ·rw [if_pos k0, if_pos k0] at h
  obtain ⟨h2, h⟩ := encN_inj _ _ _ _ h
  have c1 := a3.1 k0
  have c2 := b3.1 k0
  exact same (by omega) (by rw [a4 (by omega), b4 (by omega)]) (by rw [a2.2 (by omega) (by omega), b2.2 (by omega) (by omega)]) (kids [] [] (by simpa using h))
 rw [if_neg k0, if_neg k0] at h
 have hi : i = i' := by rw [a3.2 (by omega) (by omega), b3.2 (by omega) (by omega)]
 by_cases k2 : k = 2
 ·rw [if_pos k2, if_pos k2] at h
  have c1 := a2.1 k2
  have c2 := b2.1 k2
  match ls, ls', c1, c2 with
  | [l], [l'], _, _ =>
   simp only [List.headD_cons] at h
   obtain ⟨h2, h⟩ := encL_inj l l' _ _ (a1 l (by simp)) (b1 l' (by simp)) h
   exact same hi (by rw [a4 (by omega), b4 (by omega)]) (by rw [h2]) (kids [] [] (by simpa using h))
 rw [if_neg k2, if_neg k2] at h
 by_cases k3 : k = 3
 ·rw [if_pos k3, if_pos k3] at h
  simp only [List.append_assoc] at h
  obtain ⟨h2, h⟩ := encN_inj _ _ _ _ h
  obtain ⟨h3, h⟩ := List.append_inj h (by rw [toList_len, toList_len, h2])
  obtain ⟨h4, h⟩ := encN_inj _ _ _ _ h
  obtain ⟨h5, h⟩ := flat_inj (ok := Lv.fine) encL_inj ls ls' _ _ h4 a1 b1 h
  exact same hi (toList_inj h3) h5 (kids [] [] (by simpa using h))
 ·rw [if_neg k3, if_neg k3] at h
  exact same hi (by rw [a4 k3, b4 k3]) (by rw [a2.2 k2 k3, b2.2 k2 k3]) (kids [] [] (by simpa using h))
mutual
def Tm.subs : Tm → List Tm
 | .mk k i n ls kids => .mk k i n ls kids :: subsL kids
def subsL : List Tm → List Tm
 | [] => []
 | t :: l => t.subs ++ subsL l
end
mutual
def Tm.sz : Tm → Nat
 | .mk _ _ _ _ kids => 1 + tszL kids
def tszL : List Tm → Nat
 | [] => 0
 | t :: l => t.sz + tszL l
end
theorem mem_subsL {x : Tm} : ∀ {l : List Tm}, x ∈ subsL l ↔ ∃ y ∈ l, x ∈ y.subs
 | [] => by simp [subsL]
 | t :: l => by rw [subsL, List.mem_append, mem_subsL (l := l)]; simp
theorem tsz_kid {l : List Tm} {x : Tm} (h : x ∈ l) : x.sz ≤ tszL l := by
 induction l with
 | nil => simp at h
 | cons y l ih =>
  simp only [tszL]
  simp at h
  rcases h with rfl | h
  ·omega
  ·have := ih h; omega
theorem subs_self (t : Tm) : t ∈ t.subs := by cases t; simp [Tm.subs]
theorem subs_sz (t : Tm) : ∀ x ∈ t.subs, x.sz ≤ t.sz := by
 induction t using Tm.ind with
 | h k i n ls kids ih =>
  intro x hx
  rw [Tm.subs] at hx
  rcases List.mem_cons.1 hx with rfl | hx
  ·exact Nat.le_refl _
  ·obtain ⟨y, hy, hxy⟩ := mem_subsL.1 hx
   have := ih y hy x hxy
   have := tsz_kid hy
   rw [Tm.sz]; omega
theorem kid_sz {t x : Tm} (h : x ∈ t.kids) : x.sz < t.sz := by
 obtain ⟨k, i, n, ls, kids⟩ := t
 have := tsz_kid (l := kids) h
 rw [Tm.sz]; omega
inductive Good : List Tm → Prop where
 | nil : Good []
 | add {T : List Tm} {t : Tm} (h : Good T) (hn : t ∉ T) (hf : t.fine) (hk : ∀ x ∈ t.kids, x ∈ T) : Good (T ++ [t])
theorem Good.nodup {T : List Tm} (h : Good T) : T.Nodup := by
 induction h with
 | nil => exact List.nodup_nil
 | add h hn hf hk ih => exact List.nodup_append.2 ⟨ih, by simp, by intro a ha b hb; simp at hb; subst hb; intro e; subst e; exact hn ha⟩
theorem Good.all {T : List Tm} (h : Good T) : ∀ t ∈ T, t.fine ∧ ∀ x ∈ t.kids, x ∈ T := by
 induction h with
 | nil => simp
 | add h hn hf hk ih =>
  intro t ht
  rcases List.mem_append.1 ht with ht | ht
  ·have := ih t ht
   exact ⟨this.1, fun x hx => List.mem_append_left _ (this.2 x hx)⟩
  ·simp at ht; subst ht
   exact ⟨hf, fun x hx => List.mem_append_left _ (hk x hx)⟩
theorem Good.subs {T : List Tm} (h : Good T) (t : Tm) : t ∈ T → ∀ x ∈ t.subs, x ∈ T := by
 induction t using Tm.ind with
 | h k i n ls kids ih =>
  intro ht x hx
  rw [Tm.subs] at hx
  rcases List.mem_cons.1 hx with rfl | hx
  ·exact ht
  ·obtain ⟨y, hy, hxy⟩ := mem_subsL.1 hx
   exact ih y hy ((h.all _ ht).2 y hy) x hxy
def textT (T : List Tm) : List (List UInt8) := T.map (entryT fun x => T.idxOf x)
theorem entry_congr {p q : Tm → Nat} {t : Tm} (h : ∀ x ∈ t.kids, p x = q x) : entryT p t = entryT q t := by
 unfold entryT
 have : (t.kids.flatMap fun x => encN (p x)) = t.kids.flatMap fun x => encN (q x) := by
  rw [List.flatMap_def, List.flatMap_def, List.map_congr_left fun x hx => by rw [h x hx]]
 rw [this]
theorem idx_app {T : List Tm} {x : Tm} (h : x ∈ T) (m : List Tm) : (T ++ m).idxOf x = T.idxOf x := by rw [List.idxOf_append, if_pos h]
theorem idx_new {T : List Tm} {t : Tm} (h : t ∉ T) : (T ++ [t]).idxOf t = T.length := by
 rw [List.idxOf_append, if_neg h]; simp
theorem idx_inj {T : List Tm} {x y : Tm} (hx : x ∈ T) (hy : y ∈ T) (h : T.idxOf x = T.idxOf y) : x = y := by
 have h1 := List.getElem_idxOf (List.idxOf_lt_length_of_mem hx)
 have h2 := List.getElem_idxOf (List.idxOf_lt_length_of_mem hy)
 rw [← h1, ← h2]
 congr 1
theorem text_add {T : List Tm} {t : Tm} (hT : Good T) (hk : ∀ x ∈ t.kids, x ∈ T) : textT (T ++ [t]) = textT T ++ [entryT (fun x => T.idxOf x) t] := by
 unfold textT
 rw [List.map_append, List.map_cons, List.map_nil]
 congr 1
 ·exact List.map_congr_left fun x hx => entry_congr fun y hy => idx_app ((hT.all x hx).2 y hy) _
 ·congr 1
  exact entry_congr fun y hy => idx_app (hk y hy) _
theorem text_mem {T : List Tm} {t : Tm} (hT : Good T) (hf : t.fine) (hk : ∀ x ∈ t.kids, x ∈ T) : entryT (fun x => T.idxOf x) t ∈ textT T ↔ t ∈ T := by
 constructor
 ·intro h
  obtain ⟨u, hu, e⟩ := List.mem_map.1 h
  have hu2 := hT.all u hu
  have : u = t := entry_inj hu2.1 hf (fun x y hx hy e => idx_inj (hx.elim (hu2.2 x) (hk x)) (hy.elim (hu2.2 y) (hk y)) e) e
  subst this; exact hu
 ·intro h
  exact List.mem_map.2 ⟨t, h, rfl⟩
theorem text_idx {T : List Tm} {t : Tm} (hT : Good T) (ht : t ∈ T) : (textT T).idxOf (entryT (fun x => T.idxOf x) t) = T.idxOf t := by
 have key : ∀ l : List Tm, (∀ x ∈ l, x ∈ T) → t ∈ l → (l.map (entryT fun x => T.idxOf x)).idxOf (entryT (fun x => T.idxOf x) t) = l.idxOf t := by
  intro l
  induction l with
  | nil => intro _ h; simp at h
  | cons u l ih =>
   intro hl h
   rw [List.map_cons, List.idxOf_cons, List.idxOf_cons]
   by_cases hut : u = t
   ·subst hut; simp
   ·have hne : entryT (fun x => T.idxOf x) u ≠ entryT (fun x => T.idxOf x) t := fun e => hut (by
     have h1 := hT.all u (hl u (by simp))
     have h2 := hT.all t ht
     exact entry_inj h1.1 h2.1 (fun x y hx hy e => idx_inj (hx.elim (h1.2 x) (h2.2 x)) (hy.elim (h1.2 y) (h2.2 y)) e) e)
    simp only [beq_eq_false_iff_ne.2 hut, beq_eq_false_iff_ne.2 hne, cond_false]
    rw [ih (fun x hx => hl x (by simp [hx])) ((List.mem_cons.1 h).resolve_left fun e => hut e.symm)]
 exact key T (fun _ h => h) ht
mutual
def Tm.enter : List Tm → Tm → List Tm
 | T, .mk k i n ls kids => if Tm.mk k i n ls kids ∈ T then T else if Tm.mk k i n ls kids ∈ enterL T kids then enterL T kids else enterL T kids ++ [Tm.mk k i n ls kids]
def enterL : List Tm → List Tm → List Tm
 | T, [] => T
 | T, t :: l => enterL (Tm.enter T t) l
end
mutual
def Tm.ent : List (List UInt8) → Tm → Nat × List (List UInt8)
 | tab, .mk k i n ls kids =>
  if encN k.toNat ++ ((Tm.mk k i n ls kids).pay ++ (entL tab kids).1.flatMap encN) ∈ (entL tab kids).2 then ((entL tab kids).2.idxOf (encN k.toNat ++ ((Tm.mk k i n ls kids).pay ++ (entL tab kids).1.flatMap encN)), (entL tab kids).2)
  else ((entL tab kids).2.length, (entL tab kids).2 ++ [encN k.toNat ++ ((Tm.mk k i n ls kids).pay ++ (entL tab kids).1.flatMap encN)])
def entL : List (List UInt8) → List Tm → List Nat × List (List UInt8)
 | tab, [] => ([], tab)
 | tab, t :: l => ((Tm.ent tab t).1 :: (entL (Tm.ent tab t).2 l).1, (entL (Tm.ent tab t).2 l).2)
end
theorem enter_mem {T : List Tm} {t : Tm} (h : t ∈ T) : t.enter T = T := by
 cases t; rw [Tm.enter, if_pos h]
theorem enterL_mem {T : List Tm} : ∀ {l : List Tm}, (∀ x ∈ l, x ∈ T) → enterL T l = T
 | [], _ => by rw [enterL]
 | t :: l, h => by rw [enterL, enter_mem (h t (by simp)), enterL_mem fun x hx => h x (by simp [hx])]
structure EnterOK (T T' : List Tm) (sub : Tm → Prop) : Prop where
 good : Good T'
 pre : ∃ m, T' = T ++ m
 mem : ∀ x, x ∈ T' ↔ x ∈ T ∨ sub x
theorem enterL_ok {T : List Tm} {l : List Tm} (ih : ∀ t ∈ l, ∀ T, Good T → (∀ x ∈ t.subs, x.fine) → EnterOK T (t.enter T) (· ∈ t.subs) ∧ t.ent (textT T) = ((t.enter T).idxOf t, textT (t.enter T))) (hT : Good T) (hf : ∀ x ∈ subsL l, x.fine) : EnterOK T (enterL T l) (· ∈ subsL l) ∧ entL (textT T) l = (l.map fun x => (enterL T l).idxOf x, textT (enterL T l)) := by
 induction l generalizing T with
 | nil =>
  rw [enterL, entL]
  exact ⟨⟨hT, ⟨[], by simp⟩, by simp [subsL]⟩, rfl⟩
 | cons t l ihl =>
  obtain ⟨a, b⟩ := ih t (by simp) T hT fun x hx => hf x (by rw [subsL]; simp [hx])
  obtain ⟨c, d⟩ := ihl (T := t.enter T) (fun u hu => ih u (by simp [hu])) a.good fun x hx => hf x (by rw [subsL]; simp [hx])
  obtain ⟨m, hm⟩ := a.pre
  obtain ⟨m', hm'⟩ := c.pre
  rw [enterL, entL, b]
  simp only [d]
  refine ⟨⟨c.good, ⟨m ++ m', by rw [hm', hm, List.append_assoc]⟩, fun x => ?_⟩, ?_⟩
  ·rw [c.mem, a.mem, subsL, List.mem_append, or_assoc]
  ·have : (enterL (t.enter T) l).idxOf t = (t.enter T).idxOf t := by
    rw [hm']
    exact idx_app ((a.mem t).2 (.inr (subs_self t))) _
   rw [List.map_cons, this]
theorem enter_ok (t : Tm) : ∀ T, Good T → (∀ x ∈ t.subs, x.fine) → EnterOK T (t.enter T) (· ∈ t.subs) ∧ t.ent (textT T) = ((t.enter T).idxOf t, textT (t.enter T)) := by
 induction t using Tm.ind with
 | h k i n ls kids ih =>
  intro T hT hf
  obtain ⟨a, b⟩ := enterL_ok ih hT fun x hx => hf x (by rw [Tm.subs]; simp [hx])
  have hb : ∀ T1 : List Tm, encN k.toNat ++ ((Tm.mk k i n ls kids).pay ++ (kids.map fun x => T1.idxOf x).flatMap encN) = entryT (fun x => T1.idxOf x) (Tm.mk k i n ls kids) := by
   intro T1
   unfold entryT
   rw [List.flatMap_map]; rfl
  by_cases ht : Tm.mk k i n ls kids ∈ T
  ·rw [Tm.enter, if_pos ht]
   refine ⟨⟨hT, ⟨[], by simp⟩, fun x => ⟨.inl, fun h => h.elim id (hT.subs _ ht x)⟩⟩, ?_⟩
   have hk := (hT.all _ ht).2
   rw [enterL_mem (l := kids) hk] at b
   have hfm := (hT.all _ ht).1
   rw [Tm.ent, b]
   simp only [hb]
   rw [if_pos ((text_mem hT hfm hk).2 ht), text_idx hT ht]
  ·have hn : Tm.mk k i n ls kids ∉ enterL T kids := by
    rw [a.mem]
    rintro (h | h)
    ·exact ht h
    ·obtain ⟨y, hy, hxy⟩ := mem_subsL.1 h
     have := subs_sz y _ hxy
     have := kid_sz (t := Tm.mk k i n ls kids) hy
     omega
   have hk : ∀ x ∈ (Tm.mk k i n ls kids).kids, x ∈ enterL T kids := fun x hx => (a.mem x).2 (.inr (mem_subsL.2 ⟨x, hx, subs_self x⟩))
   have hfm := hf _ (subs_self _)
   obtain ⟨m, hm⟩ := a.pre
   rw [Tm.enter, if_neg ht, if_neg hn]
   refine ⟨⟨.add a.good hn hfm hk, ⟨m ++ [Tm.mk k i n ls kids], by rw [hm, List.append_assoc]⟩, fun x => ?_⟩, ?_⟩
   ·rw [List.mem_append, a.mem, Tm.subs]
    simp only [List.mem_cons, List.not_mem_nil, or_false]
    constructor
    ·rintro ((h | h) | h)
     ·exact .inl h
     ·exact .inr (.inr h)
     ·exact .inr (.inl h)
    ·rintro (h | h | h)
     ·exact .inl (.inl h)
     ·exact .inr h
     ·exact .inl (.inr h)
   ·rw [Tm.ent, b]
    simp only [hb]
    rw [if_neg fun h => hn ((text_mem a.good hfm hk).1 h), idx_new hn, text_add a.good hk]
    simp [textT]
def putT (l : List Tm) : List UInt8 :=
 encN (enterL [] l).length ++ ((textT (enterL [] l)).flatten ++ (encN l.length ++ l.flatMap fun t => encN ((enterL [] l).idxOf t)))
def putP (l : List Tm) : List UInt8 :=
 encN (entL [] l).2.length ++ ((entL [] l).2.flatten ++ (encN l.length ++ (entL [] l).1.flatMap encN))
theorem put_eq {l : List Tm} (hf : ∀ x ∈ subsL l, x.fine) : putP l = putT l := by
 obtain ⟨a, b⟩ := enterL_ok (l := l) (fun t _ => enter_ok t) Good.nil hf
 rw [show textT [] = [] from rfl] at b
 unfold putP putT
 rw [b]
 simp only
 rw [List.flatMap_map]
 simp [textT]
def ascB : List (Int × Int) → Bool
 | [] => true
 | [_] => true
 | a :: b :: l => decide (a.1 < b.1) && ascB (b :: l)
def varB (v : Int × Int) : Bool := decide (-65536 ≤ v.1) && decide (v.1 < 8) && decide (0 ≤ v.2) && decide (v.2 ≤ 100)
def validB (l : Lv) : Bool := decide (0 ≤ l.c) && decide (l.c ≤ 100) && l.vs.all varB && ascB l.vs && (decide (l.c ≤ 0) || l.vs.all fun v => decide (v.2 < l.c))
def Tm.right (t : Tm) : Bool :=
 t.ls.all validB && decide (kidsN t.k = t.kids.length) && (if t.k = 2 then decide (t.ls.length = 1) else if t.k = 3 then decide (t.ls.length ≤ 8) else decide (t.ls.length = 0)) && decide (t.n.size ≤ 65536) &&
 (if t.k = 0 ∨ t.k = 12 then decide (0 ≤ t.i) && decide (t.i ≤ 2147483647) && decide (t.n.size = 0) else decide (t.i = 0) && (decide (t.k = 3) || decide (t.n.size = 0)))
theorem valid_fine {l : Lv} (h : validB l = true) : l.fine ∧ l.c ≤ 100 ∧ ∀ v ∈ l.vs, v.1 < 8 ∧ v.2 ≤ 100 := by
 simp only [validB, varB, Bool.and_eq_true, decide_eq_true_eq, List.all_eq_true] at h
 obtain ⟨⟨⟨⟨h1, h2⟩, h3⟩, _⟩, _⟩ := h
 exact ⟨⟨h1, fun v hv => by have := h3 v hv; omega⟩, h2, fun v hv => by have := h3 v hv; omega⟩
theorem right_facts {t : Tm} (h : t.right = true) : t.fine ∧ (∀ l ∈ t.ls, validB l = true) ∧ t.ls.length ≤ 8 ∧ t.n.size ≤ 65536 ∧ t.i ≤ 2147483647 := by
 simp only [Tm.right, Bool.and_eq_true, List.all_eq_true, decide_eq_true_eq] at h
 obtain ⟨⟨⟨⟨h1, h2⟩, h3⟩, h4⟩, h5⟩ := h
 have h6 : t.ls.length ≤ 8 := by
  split at h3
  ·simp at h3; omega
  split at h3
  ·simpa using h3
  ·simp at h3; simp [h3]
 refine ⟨⟨h2, fun l hl => (valid_fine (h1 l hl)).1, ⟨fun k => by rw [if_pos k] at h3; simpa using h3, fun k2 k3 => by rw [if_neg k2, if_neg k3] at h3; simpa using h3⟩, ⟨fun k => by rw [if_pos k] at h5; simp at h5; omega, fun k0 k12 => by rw [if_neg (by omega)] at h5; simp at h5; omega⟩, fun k3 => ?_⟩, h1, h6, h4, ?_⟩
 ·split at h5
  ·simp at h5; rw [h5.2]; rfl
  ·simp at h5; rw [h5.2.resolve_left k3]; rfl
 ·split at h5
  ·simp at h5; omega
  ·simp at h5; omega
theorem asc_len : ∀ (l : List (Int × Int)), ascB l = true → (∀ v ∈ l, v.1 < 8) → ∀ a ∈ l.head?, (l.length : Int) ≤ 8 - a.1
 | [], _, _, a, h => by simp at h
 | [x], _, h, a, ha => by simp at ha; subst ha; have := h x (by simp); simp; omega
 | x :: y :: l, h1, h, a, ha => by
  simp at ha; subst ha
  simp only [ascB, Bool.and_eq_true, decide_eq_true_eq] at h1
  have := asc_len (y :: l) h1.2 (fun v hv => h v (by simp [hv])) y (by simp)
  simp only [List.length_cons] at this ⊢
  omega
theorem valid_len {l : Lv} (h : validB l = true) : l.vs.length ≤ mostN := by
 have h2 := valid_fine h
 simp only [validB, Bool.and_eq_true] at h
 have h3 := asc_len l.vs h.1.2 fun v hv => (h2.2.2 v hv).1
 cases hv : l.vs with
 | nil => simp
 | cons v vs =>
  have := h3 v (by rw [hv]; simp)
  have := (h2.1.2 v (by rw [hv]; simp)).1
  rw [hv] at h3
  rw [← hv]
  unfold mostN; omega
mutual
def Tm.dp : Tm → Nat
 | .mk _ _ _ _ kids => tdpL kids + 1
def tdpL : List Tm → Nat
 | [] => 0
 | t :: l => max t.dp (tdpL l)
end
theorem Good.cut {T m : List Tm} (h : Good (T ++ m)) : Good T := by
 generalize hU : T ++ m = U at h
 induction h generalizing m with
 | nil => simp at hU; rw [hU.1]; exact .nil
 | @add T' t h hn hf hk ih =>
  rcases List.eq_nil_or_concat m with rfl | ⟨m', x, rfl⟩
  ·rw [List.append_nil] at hU; subst hU; exact .add h hn hf hk
  ·rw [List.concat_eq_append, ← List.append_assoc] at hU
   exact ih (List.append_inj_left' hU rfl)
theorem Good.next {T m : List Tm} {t : Tm} (h : Good (T ++ t :: m)) : ∀ x ∈ t.kids, x ∈ T := by
 have h2 : Good (T ++ [t]) := by
  rw [show T ++ t :: m = (T ++ [t]) ++ m from by simp] at h
  exact h.cut
 generalize hU : T ++ [t] = U at h2
 cases h2 with
 | nil => simp at hU
 | add h hn hf hk =>
  have := List.append_inj_left' hU rfl
  have h3 := List.append_inj_right' hU rfl
  simp at h3; subst h3
  rw [this]; exact hk
theorem enter_len (t : Tm) : ∀ T, (t.enter T).length ≤ T.length + t.sz := by
 induction t using Tm.ind with
 | h k i n ls kids ih =>
  intro T
  have key : ∀ (l : List Tm) (T : List Tm), (∀ x ∈ l, x ∈ kids) → (enterL T l).length ≤ T.length + tszL l := by
   intro l
   induction l with
   | nil => intro T _; rw [enterL]; simp [tszL]
   | cons x l ihl =>
    intro T h
    rw [enterL, tszL]
    have h1 := ih x (h x (by simp)) T
    have h2 := ihl (x.enter T) fun y hy => h y (by simp [hy])
    omega
  have := key kids T fun _ h => h
  rw [Tm.enter, Tm.sz]
  split
  ·omega
  split
  ·omega
  ·rw [List.length_append, List.length_singleton]; omega
theorem dp_sz (t : Tm) : t.dp ≤ t.sz := by
 induction t using Tm.ind with
 | h k i n ls kids ih =>
  have key : ∀ l : List Tm, (∀ x ∈ l, x ∈ kids) → tdpL l ≤ tszL l := by
   intro l
   induction l with
   | nil => intro _; simp [tdpL]
   | cons x l ihl =>
    intro h
    have h1 := ih x (h x (by simp))
    have h2 := ihl fun y hy => h y (by simp [hy])
    simp only [tdpL, tszL]; omega
  have := key kids fun _ h => h
  rw [Tm.dp, Tm.sz]; omega
theorem nodup_len {α : Type} [DecidableEq α] : ∀ {l m : List α}, l.Nodup → (∀ x ∈ l, x ∈ m) → l.length ≤ m.length
 | [], _, _, _ => by simp
 | x :: l, m, h, hs => by
  have h1 := List.nodup_cons.1 h
  have h2 : ∀ y ∈ l, y ∈ m.erase x := fun y hy => (List.mem_erase_of_ne (by rintro rfl; exact h1.1 hy)).2 (hs y (by simp [hy]))
  have := nodup_len h1.2 h2
  have hx := hs x (by simp)
  rw [List.length_erase_of_mem hx] at this
  have := List.length_pos_of_mem hx
  simp only [List.length_cons]
  omega
theorem nodup_eq {α : Type} [DecidableEq α] {l m : List α} (hl : l.Nodup) (hm : m.Nodup) (h : ∀ x, x ∈ l ↔ x ∈ m) : l.length = m.length :=
 Nat.le_antisymm (nodup_len hl fun x => (h x).1) (nodup_len hm fun x => (h x).2)
structure Nd where
 k : Int
 i : Int
 n : ByteArray
 ls : List Lv
 kids : List Int
 deriving DecidableEq
def Nd.tm (n : Nd) : Tm := .mk n.k n.i n.n n.ls (n.kids.map fun _ => .mk 0 0 ⟨#[]⟩ [] [])
def Nd.formed (n : Nd) : Bool := n.tm.right
def ndOf (T : List Tm) (t : Tm) : Nd := ⟨t.k, t.i, t.n, t.ls, t.kids.map fun x => ((T.idxOf x : Nat) : Int)⟩
def nodesOf (T : List Tm) : List Nd := T.map (ndOf T)
structure GT (T : List Tm) : Prop where
 good : Good T
 right : ∀ t ∈ T, t.right = true
theorem right_len {k i : Int} {n : ByteArray} {ls : List Lv} {a b : List Tm} (h : a.length = b.length) : (Tm.mk k i n ls a).right = (Tm.mk k i n ls b).right := by
 unfold Tm.right
 simp only [Tm.kids, Tm.k, Tm.i, Tm.n, Tm.ls]
 simp only [h]
 congr
theorem formed_ndOf (T : List Tm) (t : Tm) : (ndOf T t).formed = t.right := by
 cases t with
 | mk k i n ls kids => exact right_len (by simp [ndOf, Tm.kids])
theorem ndOf_app {T : List Tm} {t : Tm} (h : ∀ x ∈ t.kids, x ∈ T) (m : List Tm) : ndOf (T ++ m) t = ndOf T t := by
 unfold ndOf
 congr 1
 exact List.map_congr_left fun x hx => by rw [idx_app (h x hx)]
theorem nodes_len (T : List Tm) : (nodesOf T).length = T.length := by simp [nodesOf]
theorem nodes_add {T : List Tm} {t : Tm} (hT : Good T) (h : ∀ x ∈ t.kids, x ∈ T) : nodesOf (T ++ [t]) = nodesOf T ++ [ndOf T t] := by
 unfold nodesOf
 rw [List.map_append, List.map_cons, List.map_nil, ndOf_app h]
 congr 1
 exact List.map_congr_left fun x hx => ndOf_app (hT.all x hx).2 _
theorem ndOf_inj {T : List Tm} {a b : Tm} (ha : ∀ x ∈ a.kids, x ∈ T) (hb : ∀ x ∈ b.kids, x ∈ T) (h : ndOf T a = ndOf T b) : a = b := by
 obtain ⟨k, i, n, ls, l⟩ := a
 obtain ⟨k', i', n', ls', m⟩ := b
 simp only [ndOf, Nd.mk.injEq, Tm.k, Tm.i, Tm.n, Tm.ls, Tm.kids] at h ha hb
 obtain ⟨rfl, rfl, rfl, rfl, h⟩ := h
 congr 1
 induction l generalizing m with
 | nil =>
  cases m with
  | nil => rfl
  | cons y m => simp at h
 | cons x l ih =>
  cases m with
  | nil => simp at h
  | cons y m =>
   simp only [List.map_cons, List.cons.injEq] at h
   have e : x = y := idx_inj (ha x (by simp)) (hb y (by simp)) (by omega)
   rw [e, ih (fun z hz => ha z (by simp [hz])) m (fun z hz => hb z (by simp [hz])) h.2]
theorem mem_nodes {T : List Tm} {t : Tm} (hT : Good T) (h : ∀ x ∈ t.kids, x ∈ T) : ndOf T t ∈ nodesOf T ↔ t ∈ T := by
 constructor
 ·intro hm
  obtain ⟨x, hx, e⟩ := List.mem_map.1 hm
  rw [← ndOf_inj (hT.all x hx).2 h e]; exact hx
 ·intro hm; exact List.mem_map.2 ⟨t, hm, rfl⟩
theorem getD_at {α : Type} {l : List α} {i : Nat} {d : α} (h : i < l.length) : l.getD i d = l[i] := by simp [List.getD, List.getElem?_eq_getElem h]
def Nd.inR (m : Nat) (n : Nd) : Bool := n.kids.all fun k => decide (0 ≤ k) && decide (k < m)
def chkN : List Nd → List Nd → Int
 | _, [] => 0
 | P, n :: l => if n.formed = true then if n.inR P.length = true then if n ∈ P then 8 else chkN (P ++ [n]) l else 2 else 3
def checkN (l : List Nd) : Int := if l.length ≤ 65536 then chkN [] l else 6
theorem chk_of {T : List Tm} : ∀ {m : List Tm}, GT (T ++ m) → chkN (nodesOf T) (m.map (ndOf (T ++ m))) = 0
 | [], _ => rfl
 | t :: m, h => by
  have hk : ∀ x ∈ t.kids, x ∈ T := h.good.next
  have hc : Good (T ++ [t]) := Good.cut (m := m) (by simpa using h.good)
  have hT : Good T := Good.cut hc
  have ht : t ∉ T := fun hm => by
   have := hc.nodup
   rw [List.nodup_append] at this
   exact this.2.2 t hm t (by simp) rfl
  have e1 : ndOf (T ++ t :: m) t = ndOf T t := ndOf_app hk _
  have hr : t.right = true := h.right t (by simp)
  rw [List.map_cons, e1, chkN, if_pos (by rw [formed_ndOf]; exact hr), if_pos, if_neg]
  ·rw [← nodes_add hT hk]
   have := chk_of (T := T ++ [t]) (m := m) (by simpa using h)
   simpa using this
  ·rw [mem_nodes hT hk]; exact ht
  ·rw [nodes_len]
   simp only [Nd.inR, ndOf, List.all_map, List.all_eq_true, Function.comp, Bool.and_eq_true, decide_eq_true_eq]
   intro x hx
   have := List.idxOf_lt_length_of_mem (hk x hx)
   omega
theorem check_of {T : List Tm} (h : GT T) (hl : T.length ≤ 65536) : checkN (nodesOf T) = 0 := by
 unfold checkN
 rw [if_pos (by rw [nodes_len]; exact hl)]
 have := chk_of (T := []) (m := T) (by simpa using h)
 simpa [nodesOf] using this
theorem GT.enter {T : List Tm} {t : Tm} (h : GT T) (ht : ∀ x ∈ t.subs, x.right = true) : GT (t.enter T) := by
 obtain ⟨h1, _⟩ := enter_ok t T h.good fun x hx => (right_facts (ht x hx)).1
 exact ⟨h1.good, fun x hx => (h1.mem x).1 hx |>.elim (h.right x) (ht x)⟩
end Go.Proofs.Eng
namespace Go.Proofs
open Go.Shelf
def Tryd.laysM284_ren : Go.Shelf.Ren := ⟨fun | 284 => 103 | 129 => 109 | 317 => 108 | 318 => 110 | n => n, fun | 53 => 132 | 3 => 3 | 212 => 142 | 0 => 0 | 4 => 4 | 46 => 145 | 5 => 5 | 9 => 9 | n => n, fun | 17 => 0 | n => n⟩
theorem Tryd.laysM284 : Go.Proofs.LaysM.n284 Tryd.prog Tryd.laysM284_ren := {
 mixed := by kernel_rfl
 f129 := Tryd.func109.trans (congrArg some (by kernel_rfl))
 f284 := Tryd.func103.trans (congrArg some (by kernel_rfl))
 f317 := Tryd.func108.trans (congrArg some (by kernel_rfl))
 f318 := Tryd.func110.trans (congrArg some (by kernel_rfl))
 t0 := Tryd.underlying0
 a0 := Tryd.isAgg0
 z0 := Tryd.sizeOf0
 v0 := Tryd.zeroValue0
 t3 := Tryd.underlying3
 a3 := Tryd.isAgg3
 z3 := Tryd.sizeOf3
 v3 := Tryd.zeroValue3
 t4 := Tryd.underlying4
 a4 := Tryd.isAgg4
 z4 := Tryd.sizeOf4
 v4 := Tryd.zeroValue4
 t5 := Tryd.underlying5
 a5 := Tryd.isAgg5
 z5 := Tryd.sizeOf5
 v5 := Tryd.zeroValue5
 t9 := Tryd.underlying9
 a9 := Tryd.isAgg9
 z9 := Tryd.sizeOf9
 v9 := Tryd.zeroValue9
 t46 := Tryd.underlying145
 a46 := Tryd.isAgg145
 z46 := Tryd.sizeOf145
 v46 := Tryd.zeroValue145
 t53 := Tryd.underlying132
 a53 := Tryd.isAgg132
 z53 := Tryd.sizeOf132
 v53 := Tryd.zeroValue132
 t212 := Tryd.underlying142
 a212 := Tryd.isAgg142
 z212 := Tryd.sizeOf142
 v212 := Tryd.zeroValue142
 g17 := by kernel_rfl
 i0 := by kernel_rfl
 i3 := by kernel_rfl
 i4 := by kernel_rfl
 i5 := by kernel_rfl
 i9 := by kernel_rfl
 i46 := by kernel_rfl
 i53 := by kernel_rfl
 i212 := by kernel_rfl
 m17 := by kernel_rfl }
def Tryd.lays285_ren : Go.Shelf.Ren := ⟨fun | 285 => 104 | n => n, fun | 37 => 101 | 53 => 132 | 3 => 3 | 4 => 4 | 51 => 143 | 9 => 9 | 5 => 5 | 0 => 0 | n => n, fun | n => n⟩
theorem Tryd.lays285 : Go.Proofs.Lays.n285 Tryd.prog Tryd.lays285_ren := {
 mixed := by kernel_rfl
 f285 := Tryd.func104.trans (congrArg some (by kernel_rfl))
 t0 := Tryd.underlying0
 a0 := Tryd.isAgg0
 z0 := Tryd.sizeOf0
 v0 := Tryd.zeroValue0
 t3 := Tryd.underlying3
 a3 := Tryd.isAgg3
 z3 := Tryd.sizeOf3
 v3 := Tryd.zeroValue3
 t4 := Tryd.underlying4
 a4 := Tryd.isAgg4
 z4 := Tryd.sizeOf4
 v4 := Tryd.zeroValue4
 t5 := Tryd.underlying5
 a5 := Tryd.isAgg5
 z5 := Tryd.sizeOf5
 v5 := Tryd.zeroValue5
 t9 := Tryd.underlying9
 a9 := Tryd.isAgg9
 z9 := Tryd.sizeOf9
 v9 := Tryd.zeroValue9
 t37 := Tryd.underlying101
 a37 := Tryd.isAgg101
 z37 := Tryd.sizeOf101
 v37 := Tryd.zeroValue101
 t51 := Tryd.underlying143
 a51 := Tryd.isAgg143
 z51 := Tryd.sizeOf143
 v51 := Tryd.zeroValue143
 t53 := Tryd.underlying132
 a53 := Tryd.isAgg132
 z53 := Tryd.sizeOf132
 v53 := Tryd.zeroValue132 }
end Go.Proofs
namespace Go.Proofs.Eng
open Go Go.Proofs
set_option maxRecDepth 10000
def wext := And.intro @oz_eqm (And.intro @kz_eqm (And.intro @pk_eqm (And.intro @kw_eqm (And.intro @oz_max3 (And.intro @W_dregx (And.intro @XL_some (And.intro @XE_eq (And.intro @XW_nil (And.intro @XW_cons (And.intro @mb_alloc (And.intro @mb_mkmap (And.intro @mb_box (And.intro @mb_mksl (And.intro @M3_ite (And.intro @pk_mov (And.intro @pk_pick (And.intro @pk_build (And.intro @pk_bsl (And.intro @pk_nilck (And.intro @pk_bin (And.intro @pk_eqb (And.intro @pk_eqi (And.intro @pk_eqs (And.intro @pk_eqg (And.intro @pk_un (And.intro @pk_conv (And.intro @pk_smov (And.intro @pk_mkif (And.intro @pk_mkfn (And.intro @pk_faddr (And.intro @pk_fld (And.intro @pk_iaddr (And.intro @pk_iaddrA (And.intro @pk_idxA (And.intro @pk_idxS (And.intro @pk_lenS (And.intro @pk_lenT (And.intro @pk_lenA (And.intro @pk_ext (And.intro @pk_slice (And.intro @pk_strsl (And.intro @pk_max (And.intro @pk_min (And.intro @pk_max3 (And.intro @pk_load (And.intro @pk_look (And.intro @pk_lenM (And.intro @pk_bstr (And.intro @pk_call (And.intro @pk_app (And.intro @pk_alloc (And.intro @pk_box (And.intro @pk_mksl (And.intro @pk_mkmap (And.intro @kw_mov (And.intro @kw_pick (And.intro @kw_build (And.intro @kw_bsl (And.intro @kw_nilck (And.intro @kw_bin (And.intro @kw_eqb (And.intro @kw_eqi (And.intro @kw_eqs (And.intro @kw_eqg (And.intro @kw_un (And.intro @kw_conv (And.intro @kw_smov (And.intro @kw_mkif (And.intro @kw_mkfn (And.intro @kw_faddr (And.intro @kw_fld (And.intro @kw_iaddr (And.intro @kw_iaddrA (And.intro @kw_idxA (And.intro @kw_idxS (And.intro @kw_lenS (And.intro @kw_lenT (And.intro @kw_lenA (And.intro @kw_ext (And.intro @kw_slice (And.intro @kw_strsl (And.intro @kw_max (And.intro @kw_min (And.intro @kw_max3 (And.intro @kw_load (And.intro @kw_look (And.intro @kw_lenM (And.intro @kw_bstr (And.intro @kw_call (And.intro @kw_app (And.intro @kw_alloc (And.intro @kw_box (And.intro @kw_mksl (And.intro @kw_mkmap (And.intro @kw_store (And.intro @kw_mapup (And.intro @kz_eqg (And.intro @kz_mkfn (And.intro @kz_iaddrA (And.intro @kz_idxA (And.intro @kz_idxS (And.intro @kz_lenA (And.intro @kz_strsl (And.intro @kz_max (And.intro @kz_min (And.intro @kz_max3 (And.intro @kz_app (And.intro @kz_box (And.intro @kz_mksl (And.intro @kz_look (And.intro @kz_lenM (And.intro @kz_bstr (And.intro @kz_mkmap (And.intro @RA_n (And.intro @RB_n (And.intro @RB_e (@RB_r)))))))))))))))))))))))))))))))))))))))))))))))))))))))))))))))))))))))))))))))))))))))))))))))))))))))))))))))))))))
def wall := And.intro wset (And.intro wcore (And.intro wext (And.intro @ne_eq.{1} (And.intro @if_true.{1} (And.intro @if_false.{1} (And.intro @exists_eq_left'.{1} (And.intro @true_implies (And.intro @false_implies (And.intro @exists_const.{1} (And.intro @exists_eq_right.{1} (And.intro @binA.eq_1 (And.intro @binA.eq_2 (And.intro @binA.eq_3 (And.intro @binA.eq_4 (And.intro @binA.eq_5 (And.intro @intA.eq_1 (And.intro @intA.eq_2 (And.intro @intA.eq_3 (And.intro @intA.eq_4 (And.intro @intA.eq_5 (And.intro @intA.eq_6 (And.intro @intA.eq_7 (And.intro @intA.eq_8 (And.intro @intA.eq_9 (And.intro @intA.eq_10 (And.intro @intA.eq_11 (And.intro @intA.eq_12 (And.intro @intA.eq_13 (And.intro @intA.eq_14 (And.intro @intA.eq_15 (And.intro @intA.eq_16 (And.intro @loadA.eq_1 (And.intro @loadA.eq_2 (And.intro @loadA.eq_3 (And.intro @storeA.eq_1 (And.intro @storeA.eq_2 (And.intro @pickC.eq_1 (And.intro @setAt.eq_1 (And.intro @mapO.eq_1 (And.intro @mapO.eq_2 (And.intro @argsE.eq_1 (And.intro @X.isC.eq_1 (And.intro @X.isC.eq_2 (And.intro @resA.eq_1 (And.intro @resA.eq_2 (And.intro @resA.eq_3 (And.intro @oneA.eq_1 (And.intro @oneA.eq_2 (And.intro @unA.eq_1 (And.intro @unA.eq_2 (And.intro @unA.eq_3 (And.intro @boundA.eq_1 (And.intro @boundA.eq_2 (And.intro @eqiA.eq_1 (And.intro @eqiA.eq_2 (And.intro @eqiA.eq_3 (And.intro @eqiA.eq_4 (And.intro @eqsA.eq_1 (And.intro @eqsA.eq_2 (And.intro @eqsA.eq_3 (And.intro @eqsA.eq_4 (And.intro @eqmA.eq_1 (And.intro @eqmA.eq_2 (And.intro @eqmA.eq_3 (And.intro @fillA.eq_1 (And.intro @fillA.eq_2 (And.intro @fillE.eq_1 (And.intro @fillE.eq_2 (And.intro @ASt.fz.eq_1 (And.intro @strA.eq_1 (And.intro @strA.eq_2 (And.intro @strA.eq_3 (And.intro @strA.eq_4 (And.intro @strA.eq_5 (And.intro @strA.eq_6 (And.intro @strA.eq_7 (And.intro @strA.eq_8 (And.intro @keyOKM.eq_1 (And.intro @keyOKM.eq_2 (And.intro @keyOKM.eq_3 (And.intro @keyOK.eq_1 (And.intro @keyOK.eq_2 @keyOK.eq_3))))))))))))))))))))))))))))))))))))))))))))))))))))))))))))))))))))))))))))))))))
end Go.Proofs.Eng
